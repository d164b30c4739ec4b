/-
  Mend, v: the example's image, scanned.
-/
import Derived.Test.YtgoogbakhhbnhaaGreatDoorMu
set_option linter.unusedVariables false
set_option linter.unusedSimpArgs false
set_option maxRecDepth 100000
namespace Go.Proofs.YtgoogbakhhbnhaaGreatDoor.Ar
open Go.RowKit Go.Sort Go.Lib Go.Proofs.YtgoogbakhhbnhaaGreatDoor.Rs
/-- marks of ranges over functions -/
def mkD (D : Nat) : Deferred := { target := .collected D, args := #[] }
structure MarksOk (base : Nat) (W : World) (Ds : List Nat) : Prop where
  all : ∀ D ∈ Ds, base ≤ D ∧ W.heap[D]? = some (.deferred (some []))
  nd : Ds.Nodup
theorem MarksOk.below {base : Nat} {W W' : World} {Ds : List Nat} (h : MarksOk base W Ds) (hb : Below W.heap.size W W') : MarksOk base W' Ds :=
  ⟨fun D hD => ⟨(h.all D hD).1, (hb.block _ (Array.getElem?_eq_some_iff.1 (h.all D hD).2).1).trans (h.all D hD).2⟩, h.nd⟩
theorem MarksOk.other {base : Nat} {W W' : World} {Ds : List Nat} (h : MarksOk base W Ds) (hk : ∀ D : Nat, W.heap[D]? = some (.deferred (some [])) → W'.heap[D]? = some (.deferred (some []))) : MarksOk base W' Ds :=
  ⟨fun D hD => ⟨(h.all D hD).1, hk D (h.all D hD).2⟩, h.nd⟩
theorem MarksOk.cons {base D : Nat} {W W0 : World} {Ds : List Nat} (h : MarksOk base W Ds) (h0 : MarksOk base W0 Ds) (hD : W0.heap.size ≤ D) (hb : base ≤ D) (hk : W.heap[D]? = some (.deferred (some []))) : MarksOk base W (D :: Ds) :=
  ⟨fun E hE => by
    rcases List.mem_cons.1 hE with rfl | hE
    · exact ⟨hb, hk⟩
    · exact h.all E hE, List.nodup_cons.2 ⟨fun hm => by have := (Array.getElem?_eq_some_iff.1 (h0.all D hm).2).1; omega, h.nd⟩⟩
/-- what a frame's leave changes: the marks alone -/
structure Cleared (base : Nat) (W W' : World) : Prop where
  below : Below base W W'
  same : ∀ (k : Nat) (o : Obj), W.heap[k]? = some o → (∀ x, o ≠ .deferred x) → W'.heap[k]? = some o
theorem leaves_marks {base : Nat} {F : Fence} {n : Nat} {fn : Func} {tmps : Array Value} {R : Ending → World → Prop} : ∀ (Ds : List Nat) (W : World), MarksOk base W Ds →
    (∀ W', Cleared base W W' → ∃ v, (results fn tmps).run Tryz.prog W' = .ok v W' ∧ R (.returned v) W') → LeavesInM F n Tryz.prog fn tmps R (Ds.map mkD) .returning W
  | [], W, _, h => h W ⟨Below.refl _ _, fun _ _ h _ => h⟩
  | D :: Ds, W, hm, h => by
    obtain ⟨hB, hk⟩ := hm.all D List.mem_cons_self
    obtain ⟨hn, hnd⟩ := List.nodup_cons.1 hm.nd
    refine leaves_mark hk (leaves_marks Ds _ ⟨fun E hE => ⟨(hm.all E (List.mem_cons_of_mem _ hE)).1, (World.putObj_heap_other (fun e => hn (by rw [← e]; exact hE))).trans (hm.all E (List.mem_cons_of_mem _ hE)).2⟩, hnd⟩ fun W' hc => ?_)
    refine h W' ⟨(below_put (Below.refl _ _) hB).trans hc.below, fun k o ho hno => hc.same k o ?_ hno⟩
    refine (World.putObj_heap_other (fun e => ?_)).trans ho
    rw [e, hk] at ho
    cases ho
    exact hno _ rfl
/-- the nodes that are known behind the numbers below j -/
def nodesTo (j : Nat) : List (Int × Value) := if j ≤ 1 then [] else if j ≤ 5 then [(1, .agg (nodeL 1 2 1).toArray)] else [(1, .agg (nodeL 1 2 1).toArray), (5, .agg (nodeL 5 2 1).toArray)]
/-- the walk of a scan of the image -/
structure LookI (w W : World) (vo : Value) (l : List UInt8) (Bs Bc R m mo j : Nat) (Ds : List Nat) : Prop where
  shp : Row W Bs 58 [.int .i64 24, .int .i64 8, .int .i64 1, .int .i64 5]
  box : Row W Bc 53 [.pointer (some ⟨R, 0, none⟩)]
  scan : Row W R 62 [.int .i64 24, .int .i64 8, .int .i64 1, .int .i64 5, vo, .int .i64 0, .map (some m), .slice none 0 0, .map (some mo)]
  map : MapI W m (nodesTo j)
  own : MapI W mo []
  base : Sl RByte 1 W vo l
  low : w.heap.size ≤ m ∧ w.heap.size ≤ R
  ne : mo ≠ m
  below : Below w.heap.size w W
  marks : MarksOk w.heap.size W Ds
theorem LookI.under {w W W' : World} {vo : Value} {l : List UInt8} {Bs Bc R m mo j : Nat} {Ds : List Nat} (h : LookI w W vo l Bs Bc R m mo j Ds) (hb : Below W.heap.size W W') : LookI w W' vo l Bs Bc R m mo j Ds :=
  ⟨h.shp.below hb h.shp.lt, h.box.below hb h.box.lt, h.scan.below hb h.scan.lt, h.map.below hb h.map.lt, h.own.below hb h.own.lt, h.base.keep RByte.stays (keeps_below hb), h.low, h.ne, below_after h.below hb, h.marks.below hb⟩
theorem cells_ne_map {W : World} {B m T : Nat} {cur : List Value} {l : List (Int × Value)} (h : Row W B T cur) (hm : MapI W m l) : B ≠ m := fun e => by
  unfold MapI at hm
  rw [← e] at hm
  have h' : W.heap[B]? = _ := h
  rw [h'] at hm
  cases hm
theorem LookI.put {w W : World} {vo : Value} {l : List UInt8} {Bs Bc R m mo j : Nat} {Ds : List Nat} (h : LookI w W vo l Bs Bc R m mo j Ds) (L : List (Int × Value)) (hL : L = nodesTo (j + 1)) :
    LookI w (W.putObj m (.map (ents L 0).toArray L.length)) vo l Bs Bc R m mo (j + 1) Ds := by
  subst hL
  have ho : ∀ {k : Nat}, k ≠ m → (W.putObj m (.map (ents (nodesTo (j + 1)) 0).toArray (nodesTo (j + 1)).length)).heap[k]? = W.heap[k]? := fun hk => World.putObj_heap_other hk
  refine ⟨(ho (cells_ne_map h.shp h.map)).trans h.shp, (ho (cells_ne_map h.box h.map)).trans h.box, (ho (cells_ne_map h.scan h.map)).trans h.scan, World.putObj_heap_same h.map.lt, (ho h.ne).trans h.own, ?_, h.low, h.ne, below_put h.below h.low.1, h.marks.other fun D hD => (ho (fun e => ?_)).trans hD⟩
  · refine h.base.keep RByte.stays fun b o v hv => ?_
    have hlt := World.block_lt_of_cell? W _ hv
    have hne2 : b ≠ m := fun e => by
      have hm := h.map
      unfold MapI at hm
      rw [← e] at hm
      unfold World.cell? at hv
      simp only [hm] at hv
      cases hv
    unfold World.cell? at hv ⊢
    rw [ho hne2]
    exact hv
  · have hm := h.map
    unfold MapI at hm
    rw [← e, hD] at hm
    cases hm
end Go.Proofs.YtgoogbakhhbnhaaGreatDoor.Ar
