
/- What all cards of the archive's laws lean on: the listed variables, the witness' world. -/
import Derived.Test.YtlecpjfggoehdaaGreatDoorCards
import Derived.Test.YtlecpjfggoehdaaGreatDoorTie
import Derived.Test.YtlecpjfggoehdaaGreatDoorArOp
import Derived.WalkKit
import Derived.ProofKit
import Derived.OpenShut
import Derived.Deep.DeepHandedRow
import Derived.Lib.LaidTab
import Derived.Shelf.Vars
set_option linter.unusedVariables false
set_option linter.unusedSimpArgs false
namespace Go.Proofs.YtlecpjfggoehdaaGreatDoor.Kit
open Go.ChangeShapes Go.WideShapes Go.ChangeAt Go.RowKit Go.Proofs.YtlecpjfggoehdaaGreatDoor.Ar
set_option maxRecDepth 100000

theorem own : ownKnob Tryz.prog.godebug = none := by kernel_rfl
theorem laidOut : laidOutB Tryz.prog = true := by kernel_rfl

/-- A listed variable's cells, as it reads. -/
theorem laid_entry {w : World} : ∀ {l : List (String × DataW Unit)} {ps : List MemPlace}, DataW.LaidVars Tryz.prog w l ps → ∀ {n : String} {d : DataW Unit}, (n, d) ∈ l →
    ∃ g t cs fuel p, Tryz.prog.globalNamed n = some g ∧ (Tryz.prog.globals[g]?).map (·.type) = some t ∧ w.var? Tryz.prog n = some cs ∧ DataW.trod (fun _ => ()) Tryz.prog w 0 (fun _ => true) false fuel t cs.toList = some (d, p)
  | [], _, _, _, _, hm => by cases hm
  | (n0, d0) :: r, ps, h, n, d, hm => by
    obtain ⟨g, t, cs, fuel, p, q, h1, h2, h3, h4, h5, _⟩ := h
    rcases List.mem_cons.1 hm with e | e
    · cases e; exact ⟨g, t, cs, fuel, p, h1, h2, h3, h4⟩
    · exact laid_entry h5 e

theorem g2 : Tryz.prog.globalNamed "furrow/codec.steps" = some 1 := by kernel_rfl
theorem g2t : (Tryz.prog.globals[1]?).map (·.type) = some 135 := by kernel_rfl
theorem c48 : Tryz.prog.cellsOf 97 = 1 := by kernel_rfl
theorem c175 : Tryz.prog.cellsOf 135 = 16 := by kernel_rfl

theorem stp_of {w : World} {L : List (String × DataW Unit)} (h : laidMet Tryz.prog L w) (hm : ("furrow/codec.steps", Rows.laid_furrow_codec_steps) ∈ L) : Ar.Stp w := by
  obtain ⟨ps, hl, _⟩ := h
  obtain ⟨g, t, cs, fuel, p, h1, h2, h3, h4⟩ := laid_entry hl hm
  obtain rfl := Option.some.inj (g2.symm.trans h1)
  obtain rfl := Option.some.inj (g2t.symm.trans h2)
  have e := Lib.cells_of_tab (zs := Ar.stepsTab) Tryz.underlying135 Tryz.underlying97 c48 c175 h4
  unfold Ar.Stp Lib.TabIs
  rw [h3, ← e]
theorem max_of {w : World} (h : w.ShapedOpen Tryz.prog) : Ar.MaxL w :=
  cell_of_shapedOpen_int h (g := 2) (t := 3) (zero := #[.int .i64 0]) (k := .i64) (by decide +kernel) (by kernel_rfl) rfl (by kernel_rfl) (by kernel_rfl) Tryz.underlying3

/-- What a listed variable holds, for the witness: the settled world, the variables holding what their initialisers lay. -/
def setCells (cs : Array Value) : Obj → Obj
  | .cells _ t frozen => .cells cs t frozen
  | o => o
noncomputable def laidWorld (os : Os) : World :=
  { World.holding Tryz.prog os ⟨#[], #[], []⟩ with heap := (((World.holding Tryz.prog os ⟨#[], #[], []⟩).heap.modify 4 (setCells #[.int .u8 128, .int .u8 191, .int .u8 160, .int .u8 191, .int .u8 128, .int .u8 159, .int .u8 144, .int .u8 191, .int .u8 128, .int .u8 143, .int .u8 0, .int .u8 0, .int .u8 0, .int .u8 0, .int .u8 0, .int .u8 0, .int .u8 0, .int .u8 0, .int .u8 0, .int .u8 0, .int .u8 0, .int .u8 0, .int .u8 0, .int .u8 0, .int .u8 0, .int .u8 0, .int .u8 0, .int .u8 0, .int .u8 0, .int .u8 0, .int .u8 0, .int .u8 0])).modify 1 (setCells #[.int .u32 0, .int .u32 498536548, .int .u32 997073096, .int .u32 651767980, .int .u32 1994146192, .int .u32 1802195444, .int .u32 1303535960, .int .u32 1342533948, .int .u32 3988292384, .int .u32 4027552580, .int .u32 3604390888, .int .u32 3412177804, .int .u32 2607071920, .int .u32 2262029012, .int .u32 2685067896, .int .u32 3183342108])).modify 3 (setCells (Go.Pinned.utf8FirstZ.map fun n : Nat => Value.int .u8 (n : Int)).toArray) }

section
variable {H : Type} {enc : TypeId × Value → H} {w : World} {sp : Nat → Bool} {held : Bool}
theorem open_byte {fuel b o : Nat} {cs : List Value} {y : DataW H × List MemPlace} (hl : cs.length = 1) (hc : ∀ i, i < 1 → w.cell? ⟨b, o + i, none⟩ = cs[i]?) (h : DataW.trod enc Tryz.prog w 0 sp held fuel 5 cs = some y) : ∃ x, RByte w b o x ∧ 0 ≤ Rows.uptoBulk y.1 := by
  match cs, hl with
  | [c], _ =>
    obtain ⟨n, hc', _, hw⟩ := DataW.trod_int Tryz.underlying5 h
    cases hc'
    simp only [Lit.wf, Bool.and_eq_true, decide_eq_true_eq] at hw
    refine ⟨UInt8.ofNat n.toNat, ?_, Nat.zero_le _⟩
    have h0 := hc 0 (by omega)
    have h1 : 0 ≤ n := hw.1
    have h2 : n ≤ 255 := hw.2
    show w.cell? ⟨b, o, none⟩ = some (byteV _)
    rw [show byteV (UInt8.ofNat n.toNat) = .int .u8 n by unfold byteV; rw [UInt8.toNat_ofNat']; congr 1; omega]
    exact h0
theorem c5 : Tryz.prog.cellsOf 5 = 1 := by kernel_rfl
/-- bytes that came in -/
theorem open_bytes {fuel : Nat} {c : Value} {y : DataW H × List MemPlace} (h : DataW.trod enc Tryz.prog w 0 sp held fuel 22 [c] = some y) : ∃ l : List UInt8, (Sl RByte 1 w c l ∧ NilOk c ∧ ∀ a n q, c = .slice a n q → n ≤ q) ∧ l.length + 1 ≤ Rows.uptoBulk y.1 := by
  obtain ⟨l, h1, h2, _⟩ := open_sl (R := RByte) (fun _ => 0) Tryz.underlying22 c5 (by omega) (fun _ _ _ _ _ => open_byte) h
  exact ⟨l, h1, h2⟩
end
end Go.Proofs.YtlecpjfggoehdaaGreatDoor.Kit
