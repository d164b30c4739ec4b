
/- A block whose cells are all known; what keeps it. -/
import Derived.WalkKit
import Derived.Laws.NewBlocks
import Derived.Deep.Draws
set_option linter.unusedVariables false
set_option linter.unusedSimpArgs false
namespace Go.Proofs.YtgoogbakhhbnhaaGreatDoor
open Go.RowKit

/-- Block B of w: the row 'cur' of type T, nothing frozen. -/
def Row (w : World) (B : Nat) (T : TypeId) (cur : List Value) : Prop := w.heap[B]? = some (.cells cur.toArray T (0, 0))

theorem Row.lt {w : World} {B : Nat} {T : TypeId} {cur : List Value} (h : Row w B T cur) : B < w.heap.size := (Array.getElem?_eq_some_iff.1 h).1
theorem Row.cell {w : World} {B : Nat} {T : TypeId} {cur : List Value} (h : Row w B T cur) (j : Nat) : w.cell? ⟨B, j, none⟩ = cur[j]? := by
  have h' : w.heap[B]? = some (.cells cur.toArray T (0, 0)) := h
  simp [World.cell?, h']
theorem Row.free {w : World} {B : Nat} {T : TypeId} {cur : List Value} (h : Row w B T cur) (j : Nat) : w.frozen? ⟨B, j, none⟩ = false := by
  have h' : w.heap[B]? = some (.cells cur.toArray T (0, 0)) := h
  simp [World.frozen?, h']
theorem Row.below {w w' : World} {B N : Nat} {T : TypeId} {cur : List Value} (h : Row w B T cur) (hb : Below N w w') (hB : B < N) : Row w' B T cur :=
  (hb.block B hB).trans h
theorem Row.drew {w : World} {B : Nat} {T : TypeId} {cur : List Value} (h : Row w B T cur) : Row w.drew B T cur := h
theorem Row.drewN {w : World} {B : Nat} {T : TypeId} {cur : List Value} (h : Row w B T cur) (n : Nat) : Row (w.drewN n) B T cur := h
theorem Row.alloc {w : World} {B : Nat} {T : TypeId} {cur : List Value} (h : Row w B T cur) (o : Obj) : Row (w.alloc o) B T cur :=
  (Below.heap_alloc w o B h.lt).trans h
theorem Row.new (w : World) (T : TypeId) (cur : List Value) : Row (w.alloc (.cells cur.toArray T)) w.heap.size T cur := by
  show (w.heap.push _)[w.heap.size]? = _
  simp
theorem Row.set {w : World} {B : Nat} {T : TypeId} {cur : List Value} (h : Row w B T cur) (j : Nat) (v : Value) : Row (w.setCell ⟨B, j, none⟩ v) B T (cur.set j v) := by
  have h' : w.heap[B]? = some (.cells cur.toArray T (0, 0)) := h
  show (w.setCell ⟨B, j, none⟩ v).heap[B]? = _
  simp only [World.setCell, Array.getElem?_modify, if_pos, h', Option.map_some]
  simp
theorem Row.other {w : World} {B : Nat} {T : TypeId} {cur : List Value} (h : Row w B T cur) {a : Addr} (ha : B ≠ a.block) (v : Value) : Row (w.setCell a v) B T cur :=
  (Below.heap_setCell w a v B ha).trans h
theorem Row.grown {w w' : World} {B T : Nat} {cur : List Value} (h : Row w B T cur) {row : Option Nat} (hg : w.grownBy w' row) (hne : some B ≠ row) : Row w' B T cur := (hg.block B h.lt hne).trans h
theorem own_row_ne {w : World} {base : Nat} {e : TypeId} {size n : Nat} {v : Value} {xs : List Value} (h : w.ownsRow base e size v n xs) {B T : Nat} {cur : List Value} (hg : Row w B T cur) (hne : e ≠ T) : some B ≠ v.ownBlock := by
  rcases h.2 with ⟨rfl, _⟩ | ⟨g', cap, c, rfl, _, hh, _⟩
  · simp [Value.ownBlock]
  · intro he
    have e1 : B = g' := by simpa [Value.ownBlock] using he
    subst e1
    have h' : w.heap[B]? = some (.cells cur.toArray T (0, 0)) := hg
    rw [hh] at h'
    injection h' with h'
    injection h' with _ ht
    exact hne ht

theorem own_below {w w1 : World} {base : Nat} {e : TypeId} {size n : Nat} {v : Value} {xs : List Value} (h : w.ownsRow base e size v n xs) (hb : Below w.heap.size w w1) : w1.ownsRow base e size v n xs :=
  h.kept (row := none) ⟨hb.os, hb.tape, hb.output, hb.size, fun i hi _ => hb.block i hi⟩ (by cases v.ownBlock <;> simp)
theorem own_base {w : World} {base : Nat} {e : TypeId} {size n : Nat} {v : Value} {xs : List Value} (h : w.ownsRow base e size v n xs) (k : Nat) (hk : v.ownBlock = some k) : base ≤ k := (h.lt k hk).1

/-- Every cell that was there holds what it held. -/
def Keeps (w w' : World) : Prop := ∀ b o v, w.cell? ⟨b, o, none⟩ = some v → w'.cell? ⟨b, o, none⟩ = some v
theorem Keeps.refl (w : World) : Keeps w w := fun _ _ _ h => h
theorem Keeps.trans {a b c : World} (h : Keeps a b) (k : Keeps b c) : Keeps a c := fun _ _ _ e => k _ _ _ (h _ _ _ e)
theorem keeps_below {w w' : World} (hb : Below w.heap.size w w') : Keeps w w' := fun b o v h =>
  (hb.cell (p := ⟨b, o, none⟩) (World.block_lt_of_cell? w _ h)).trans h
theorem keeps_alloc (w : World) (o : Obj) : Keeps w (w.alloc o) := fun b i v h => (World.cell?_alloc_lt w o ⟨b, i, none⟩ (World.block_lt_of_cell? w _ h)).trans h

/-- A slice value whose elements, of sz cells each, read as xs; nil, empty and other slices alike. -/
def Sl {α : Type} (R : World → Nat → Nat → α → Prop) (sz : Nat) (w : World) (v : Value) (xs : List α) : Prop :=
  ∃ a b o cap, v = .slice a xs.length cap ∧ (0 < xs.length → a = some ⟨b, o, none⟩) ∧ ∀ j x, xs[j]? = some x → R w b (o + j * sz) x
/-- A reading of cells that goes on in every world that keeps them. -/
def Stays {α : Type} (R : World → Nat → Nat → α → Prop) : Prop := ∀ w w', Keeps w w' → ∀ b o x, R w b o x → R w' b o x
theorem Sl.keep {α : Type} {R : World → Nat → Nat → α → Prop} {sz : Nat} {w w' : World} {v : Value} {xs : List α} (h : Sl R sz w v xs) (hs : Stays R) (hk : Keeps w w') : Sl R sz w' v xs := by
  obtain ⟨a, b, o, cap, e, ha, hc⟩ := h
  exact ⟨a, b, o, cap, e, ha, fun j x hx => hs w w' hk _ _ _ (hc j x hx)⟩

/-- Behind w the call has a block B of its own, known whole, and nothing old has turned. -/
def Box (w : World) (B : Nat) (T : TypeId) (cur : List Value) (w' : World) : Prop := Row w' B T cur ∧ Below w.heap.size w w'
theorem below_then {B : Nat} {w w1 w2 : World} (h : Below B w w1) (hB : B ≤ w1.heap.size) (k : Below w1.heap.size w1 w2) : Below B w w2 :=
  h.trans (k.mono hB)
theorem Box.new (w : World) (T : TypeId) (cur : List Value) : Box w w.heap.size T cur (w.alloc (.cells cur.toArray T)) := ⟨Row.new w T cur, (Below.refl _ _).alloc (Nat.le_refl _) _⟩
theorem Box.step {w w' w1 : World} {B T : Nat} {cur : List Value} (h : Box w B T cur w') (hb : Below w'.heap.size w' w1) : Box w B T cur w1 :=
  ⟨h.1.below hb h.1.lt, below_then h.2 h.2.size hb⟩
theorem Box.drew {w w' : World} {B T : Nat} {cur : List Value} (h : Box w B T cur w') : Box w B T cur w'.drew := ⟨h.1, h.2.drew⟩
theorem Box.alloc {w w' : World} {B T : Nat} {cur : List Value} (h : Box w B T cur w') (o : Obj) : Box w B T cur (w'.alloc o) := ⟨h.1.alloc o, h.2.alloc h.2.size o⟩

/-- A text as Go has it. -/
def bs (l : List UInt8) : ByteArray := ⟨l.toArray⟩
theorem bs_size (l : List UInt8) : (bs l).size = l.length := by simp [bs, ByteArray.size]
section
variable {P : Program} (A B : List UInt8) (w : World)
theorem addBB (h : A.length + B.length ≤ 9223372036854775807) : (Op.stringOp .add (bs A) (bs B)).run P w = .ok (.string (bs (A ++ B))) w := by
  rw [run_string_add_sum w _ _ (by simp only [bs_size]; omega)]; exact congrArg (fun x => Result.ok (Value.string x) w) (ByteArray.mk_append_mk A B)
theorem addLB (h : A.length + B.length ≤ 9223372036854775807) : (Op.stringOp .add ⟨A.toArray⟩ (bs B)).run P w = .ok (.string (bs (A ++ B))) w := addBB A B w h
theorem addBL (h : A.length + B.length ≤ 9223372036854775807) : (Op.stringOp .add (bs A) ⟨B.toArray⟩).run P w = .ok (.string (bs (A ++ B))) w := addBB A B w h
end

/-- A sum of texts, under a name that the walk's simp doesn't look into. -/
theorem sumBB (P : Program) (A B : List UInt8) (m : Nat) (h : A.length + B.length ≤ m) (hm : m ≤ 9223372036854775807) : ∃ s : List UInt8, Hid (s = A ++ B) ∧ s.length ≤ m ∧ ∀ w, (Op.stringOp .add (bs A) (bs B)).run P w = .ok (.string (bs s)) w :=
  ⟨A ++ B, rfl, by rw [List.length_append]; exact h, fun w => addBB A B w (Nat.le_trans h hm)⟩
theorem sumLB (P : Program) (A B : List UInt8) (m : Nat) (h : A.length + B.length ≤ m) (hm : m ≤ 9223372036854775807) : ∃ s : List UInt8, Hid (s = A ++ B) ∧ s.length ≤ m ∧ ∀ w, (Op.stringOp .add ⟨A.toArray⟩ (bs B)).run P w = .ok (.string (bs s)) w :=
  sumBB P A B m h hm
theorem sumBL (P : Program) (A B : List UInt8) (m : Nat) (h : A.length + B.length ≤ m) (hm : m ≤ 9223372036854775807) : ∃ s : List UInt8, Hid (s = A ++ B) ∧ s.length ≤ m ∧ ∀ w, (Op.stringOp .add (bs A) ⟨B.toArray⟩).run P w = .ok (.string (bs s)) w :=
  sumBB P A B m h hm

theorem madeOne (v : Value) (n : Nat) : madeCells #[v] n = (List.replicate n v).toArray := by
  apply Array.ext
  · simp [size_madeCells]
  · intro i h1 h2
    simp [madeCells, Nat.mod_one]

end Go.Proofs.YtgoogbakhhbnhaaGreatDoor
