/-
  Mend: the law: first, MendNumbers.
-/
import Derived.Test.YtgoogbakhhbnhaaGreatDoorNn
set_option linter.unusedVariables false
set_option linter.unusedSimpArgs false
set_option maxRecDepth 100000
namespace Go.Proofs.YtgoogbakhhbnhaaGreatDoor.Ar
open Go.RowKit Go.Sort Go.Lib Go.Proofs.YtgoogbakhhbnhaaGreatDoor.Rs
theorem sl_img {w : World} {g : Nat} (h : Row w g 5 (imgL.map byteV)) : Sl RByte 1 w (.slice (some ⟨g, 0, none⟩) 12288 12288) imgL := by
  have := sl_row h 12288
  rw [img_len] at this
  exact this
set_option maxHeartbeats 8000000 in
theorem call_first (w : World) (hst : Stp w) (hM : MaxL w) :
    Calls Tryz.prog 4 #[] w fun e w' => e = .returned (.bool true) ∧ Below w.heap.size w w' := by
  have HST := Lib.hid hst
  have HM := Lib.hid hM
  clear hst hM
  have hs1 : lostS.toList = [108, 111, 115, 116] := by rw [Lib.toList_data]; rfl
  have hs2 : lost5.toList = [108, 111, 115, 116, 47, 53] := by rw [Lib.toList_data]; rfl
  have heq : ∀ (a : Addr) (W : World), (binOp .eql 23 (.slice (some a) 12288 12288) (.slice none 0 0)).run Tryz.prog W = .ok (.bool false) W := fun _ _ => rfl
  go_enter Tryz.func4, Tryz.ntmps4
  go_wp2_with (first
    | (go_at_call 5; refine (call_bare w HST.out).mono ?_; rintro e w1 ⟨g, rfl, hg, hb1⟩; have HG := Lib.hid hg; have HB1 := Lib.hid hb1; clear hg hb1)
    | (go_at_call 6; refine (call_breaches imgL img_e g 0 12288 w1 (sl_img HG.out) (by decide) (HST.out.below HB1.out)).mono ?_; rintro e w2 ⟨v2, rfl, ho2, hb2⟩; obtain ⟨g2, c2, r2, rfl, hr2⟩ := own_row ho2 (by decide); have HR2 := Lib.hid hr2; have HG2 := Lib.hid (HG.out.below hb2 HG.out.lt); have HB2 := Lib.hid (below_after HB1.out hb2); clear hb2 ho2 hr2 HG HB1)
    | (go_at_call 7; refine (call_rescue imgL img_e g 0 12288 w2 (sl_img HG2.out) (by decide) (HST.out.below HB2.out) (HM.out.below HB2.out)).mono ?_; rintro e w3 ⟨vm, vl, rfl, hm3, hl3, hb3⟩; obtain ⟨gm, cm, rm, rfl, hrm⟩ := own_row hm3 (by decide); obtain ⟨gl, cl, rl, rfl, hrl⟩ := own_row hl3 (by decide); have hr3 := HR2.out.below hb3 HR2.out.lt; have HB3 := Lib.hid (below_after HB2.out hb3); have a0 := (show w3.cell? ⟨g2, 0, none⟩ = some (.int .i64 113) from hr3.cell 0); have a1 := (show w3.cell? ⟨g2, 1, none⟩ = some (.int .i64 5) from hr3.cell 1); have a2 := (show w3.cell? ⟨g2, 2, none⟩ = some (.int .i64 114) from hr3.cell 2); have a3 := (show w3.cell? ⟨g2, 3, none⟩ = some (.int .i64 5) from hr3.cell 3); have l0 := (show w3.cell? ⟨gl, 0, none⟩ = some (.int .i64 114) from hrl.cell 0); have l1 := (show w3.cell? ⟨gl, 1, none⟩ = some (.int .i64 5) from hrl.cell 1); have l2 := (show w3.cell? ⟨gl, 2, none⟩ = some (.string ⟨#[]⟩) from hrl.cell 2); have m0 := (show w3.cell? ⟨gm, 0, none⟩ = some (.int .i64 2) from hrm.cell 0); have m1 := (show w3.cell? ⟨gm, 1, none⟩ = some (.string lostS) from hrm.cell 1); have m5 := (show w3.cell? ⟨gm, 5, none⟩ = some (.int .i64 2) from hrm.cell 5); have m6 := (show w3.cell? ⟨gm, 6, none⟩ = some (.string lost5) from hrm.cell 6); clear hm3 hl3 hrm hrl hr3 hb3 HB2 HR2 HG2))
  go_ret
  refine ⟨?_, HB3.out⟩
  first | rfl | simp
theorem call_law (w : World) (hst : Stp w) (hM : MaxL w) :
    Calls Tryz.prog 3 #[] w fun e w' => e = .returned (.bool true) ∧ Below w.heap.size w w' := by
  have HC := Lib.hid (call_first w hst hM)
  clear hst hM
  go_enter Tryz.func3, Tryz.ntmps3
  go_wp2_with (go_at_call 4; refine HC.out.mono ?_; rintro e w1 ⟨rfl, hb⟩)
  go_ret
  exact ⟨rfl, hb⟩
end Go.Proofs.YtgoogbakhhbnhaaGreatDoor.Ar
