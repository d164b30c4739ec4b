
/-
  Mend, e: the superblock found.
-/
import Derived.Test.YtgoogbakhhbnhaaGreatDoorMd
import Derived.Deep.MidRow
import Derived.Laws.Cover3
set_option linter.unusedVariables false
set_option linter.unusedSimpArgs false
set_option maxRecDepth 100000
namespace Go.Proofs.YtgoogbakhhbnhaaGreatDoor.Ar
open Go.RowKit Go.Sort Go.Lib Go.Proofs.YtgoogbakhhbnhaaGreatDoor.Rs
theorem hszL (l : List UInt8) (hl : l.length = 64) : (Tryz.prog.info? 40).map (·.size) = some (l.map byteV).length := by
  rw [List.length_map, hl]; kernel_rfl
theorem range_take {w w' : World} {bb oo n : Nat} {l : List UInt8} (k : Nat) (hc : ∀ j x, l[j]? = some x → RByte w bb (oo + j * 1) x) (hb : Below w.heap.size w w') : w'.rangeAt bb (oo + k) (((l.drop k).take n).map byteV) := by
  intro j v hj
  rw [List.getElem?_map] at hj
  obtain ⟨x, hx, rfl⟩ := Option.map_eq_some_iff.1 hj
  have h1 : l[k + j]? = some x := by
    rw [List.getElem?_take] at hx
    split at hx
    · rw [← List.getElem?_drop]; exact hx
    · cases hx
  have h2 := RByte.stays _ _ (keeps_below hb) _ _ _ (hc _ _ h1)
  unfold RByte at h2
  rw [Nat.mul_one, ← Nat.add_assoc] at h2
  exact h2
set_option maxHeartbeats 2000000 in
theorem call_find (l : List UInt8) (hl : l.length = 12288) (hs : SupB (txt l 0 64)) (vb : Value) (w : World) (hv : Sl RByte 1 w vb l) (hcap : ∀ a n c, vb = .slice a n c → n ≤ c ∧ c ≤ 1000000000) (hp : Stp w) :
    Calls Tryz.prog 32 #[vb] w fun e w' => e = .returned (.tuple #[.agg #[.int .i64 24, .int .i64 8, .int .i64 1, .int .i64 5], .int .i64 0]) ∧ Below w.heap.size w w' := by
  have HP := Lib.hid hp
  have HS := Lib.hid hs
  obtain ⟨aa, bb, oo, cc, rfl, ha, hc⟩ := hv
  have ha' := ha (by omega)
  subst ha'
  have HC := Lib.hid hc
  obtain ⟨c1, c2⟩ := hcap _ _ _ rfl
  rw [hl] at c1 ⊢
  have HL := Lib.hid hl
  have k1 : (12288 : Int) ≤ cc := by omega
  have k2 : (64 : Int) ≤ cc := by omega
  have k3 : ¬ cc = 0 := by omega
  have hat : ∀ w, (Instr.arrayAt 40 (.slice (some ⟨bb, oo, none⟩) 64 cc)).run Tryz.prog w = .ok (.pointer (some ⟨bb, oo, none⟩)) w := fun w => run_arrayAt w 40 _ 64 _ 64 cc Tryz.underlying40 (Nat.le_refl _)
  clear hp hs ha hc hcap hl
  go_enter Tryz.func32, Tryz.ntmps32
  go_wp2
  go_loopw [4] (fun iv wr => iv = .int .i64 0 ∧ Row wr w.heap.size 58 [.int .i64 0, .int .i64 0, .int .i64 0, .int .i64 0] ∧ Below w.heap.size w wr) (fun _ _ => 0)
  case atStart => exact ⟨rfl, Row.new w 58 _, below_alloc1 w _⟩
  case round =>
    obtain ⟨rfl, hr, hb⟩ := hrel
    have HRr := Lib.hid hr
    have HBr := Lib.hid hb
    clear hr hb
    have HRg := Lib.hid (show wr.rangeAt bb oo ((txt l 0 64).map byteV) from range_take 0 HC.out HBr.out)
    go_wp2_with (first
      | (refine wpList_load_mid rfl 40 _ rfl bb oo rfl ((txt l 0 64).map byteV) _ HRg.out Tryz.underlying40 rfl (hszL _ HS.out.len) ?_)
      | (go_at_call 55; refine (call_opens _ HS.out _ (HP.out.below HBr.out)).mono ?_; rintro e w1 ⟨rfl, hb1⟩; have HB1 := Lib.hid (below_after HBr.out hb1); have HR1 := Lib.hid (HRr.out.below hb1 HRr.out.lt); clear hb1 HRr HBr HRg)
      | (go_at_call 23; have hg := HB1.out; clear hg; refine (call_fit1 _).mono ?_; rintro e w2 ⟨rfl, hb2⟩; have hb3 := below_after (below_alloc1 _ _) hb2; have HR2 := Lib.hid (HR1.out.below hb3 HR1.out.lt); have HB2 := Lib.hid (below_after HB1.out hb3); clear hb2 hb3 HB1 HR1; have s0 := (show w2.cell? ⟨w.heap.size, 0, none⟩ = some (.int .i64 0) from HR2.out.cell 0); have s1 := (show w2.cell? ⟨w.heap.size, 1, none⟩ = some (.int .i64 0) from HR2.out.cell 1); have s2 := (show w2.cell? ⟨w.heap.size, 2, none⟩ = some (.int .i64 0) from HR2.out.cell 2); have s3 := (show w2.cell? ⟨w.heap.size, 3, none⟩ = some (.int .i64 0) from HR2.out.cell 3); have s4 := HR2.out.free 0; have s5 := HR2.out.free 1; have s6 := HR2.out.free 2; have s7 := HR2.out.free 3))
    clear s0 s1 s2 s3 s4 s5 s6 s7
    have hF := (show Row ((((w2.setCell ⟨w.heap.size, 0, none⟩ (.int .i64 24)).setCell ⟨w.heap.size, 1, none⟩ (.int .i64 8)).setCell ⟨w.heap.size, 2, none⟩ (.int .i64 1)).setCell ⟨w.heap.size, 3, none⟩ (.int .i64 5)) w.heap.size 58 [.int .i64 24, .int .i64 8, .int .i64 1, .int .i64 5] from (((HR2.out.set 0 _).set 1 _).set 2 _).set 3 _)
    have hB := (((HB2.out.setCell (p := ⟨w.heap.size, 0, none⟩) (Nat.le_refl _) (.int .i64 24)).setCell (p := ⟨w.heap.size, 1, none⟩) (Nat.le_refl _) (.int .i64 8)).setCell (p := ⟨w.heap.size, 2, none⟩) (Nat.le_refl _) (.int .i64 1)).setCell (p := ⟨w.heap.size, 3, none⟩) (Nat.le_refl _) (.int .i64 5)
    clear HR2 HB2
    generalize ((((w2.setCell ⟨w.heap.size, 0, none⟩ (.int .i64 24)).setCell ⟨w.heap.size, 1, none⟩ (.int .i64 8)).setCell ⟨w.heap.size, 2, none⟩ (.int .i64 1)).setCell ⟨w.heap.size, 3, none⟩ (.int .i64 5)) = wf at *
    have s0 := (show wf.cell? ⟨w.heap.size, 0, none⟩ = some (.int .i64 24) from hF.cell 0)
    have s1 := (show wf.cell? ⟨w.heap.size, 1, none⟩ = some (.int .i64 8) from hF.cell 1)
    have s2 := (show wf.cell? ⟨w.heap.size, 2, none⟩ = some (.int .i64 1) from hF.cell 2)
    have s3 := (show wf.cell? ⟨w.heap.size, 3, none⟩ = some (.int .i64 5) from hF.cell 3)
    refine ⟨rfl, .tuple #[.agg #[.int .i64 24, .int .i64 8, .int .i64 1, .int .i64 5], .int .i64 0], by simp [results, Tryz.results32, go_sem, s0, s1, s2, s3], rfl, hB⟩
end Go.Proofs.YtgoogbakhhbnhaaGreatDoor.Ar
