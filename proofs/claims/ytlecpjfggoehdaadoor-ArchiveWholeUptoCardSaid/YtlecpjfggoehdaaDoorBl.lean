/- Archive: what each statement begins with. -/
import Derived.Test.YtlecpjfggoehdaaDoorBk
set_option linter.unusedVariables false
set_option linter.unusedSimpArgs false
set_option maxRecDepth 100000
namespace Go.Proofs.YtlecpjfggoehdaaDoor.Ar
open Go.RowKit Go.Sort Go.Lib Go.Proofs.YtlecpjfggoehdaaDoor.Rs

theorem own_sl {base : Nat} {w : World} {v : Value} {l : List UInt8} (h : Own base w v l) : Sl RByte 1 w v l := own_bytes h
/-- what is asked of the example's bytes -/
theorem first_facts {base : Nat} {w : World} {v : Value} (h : Own base w v (makeB exampleL)) : ∃ g c, v = .slice (some ⟨g, 0, none⟩) 664 c ∧ (664 : Int) ≤ c ∧ w.cell? ⟨g, 8, none⟩ = some (.int .u8 3) ∧
    (convert 31 9 (.slice (some ⟨g, 0, none⟩) 8 c)).run Tryd.prog w = .ok (.string (bs magicB)) w := by
  obtain ⟨g, c, e, _, _, hc, hcell, _⟩ := own_form h (by rw [example_len]; decide)
  rw [example_len] at e hc
  have hget : ∀ j x, (makeB exampleL)[j]? = some x → w.cell? ⟨g, j, none⟩ = some (byteV x) := fun j x hj => hcell j _ (by rw [List.getElem?_map, hj]; rfl)
  refine ⟨g, c, e, by omega, hget 8 3 example_three, ?_⟩
  have h8 := conv_txt (w := w) (B := g) (o := 0) (c := c) (l := magicB) (fun j x hj => by
    rw [Nat.zero_add]
    refine hget j x ?_
    rw [← example_magic, List.getElem?_take] at hj
    split at hj
    · exact hj
    · cases hj)
  exact h8
set_option maxHeartbeats 1000000 in
theorem call_first (w : World) (hp : Stp w) (hm : MaxL w) : Calls Tryd.prog 22 #[] w fun e w' => e = .returned (.bool true) ∧ Below w.heap.size w w' := by
  have HP := Lib.hid hp
  have HMx := Lib.hid hm
  clear hp hm
  have hq : ((bs magicB).toList == [70, 85, 82, 82, 79, 87, 65, 82]) = true := by rw [bs_toList]; rfl
  obtain ⟨Y, hY⟩ : ∃ Y, bs magicB = Y := ⟨_, rfl⟩
  have HY := Lib.hid hY
  rw [hY] at hq
  clear hY
  go_enter Tryd.func22, Tryd.ntmps22
  go_wp2_with (first
    | (go_at_call 50; refine (call_example w3).mono ?_; rintro e w4 ⟨v4, rfl, hs4, hb4⟩; have HS4 := Lib.hid hs4; have HB4 := Lib.hid (below_after HB3.out hb4); have HM4 := Lib.hid ((HM3.out.below hb4).mb (mbR_of HS1.out example_sm)); clear hs4 hb4)
    | (go_at_call 50; refine (call_example w).mono ?_; rintro e w1 ⟨v1, rfl, hs1, hb1⟩; have HS1 := Lib.hid hs1; have HB1 := Lib.hid hb1; clear hs1 hb1)
    | (go_at_call 16; refine (call_make exampleL v1 w1 HS1.out example_sm (HP.out.below HB1.out) (HMx.out.below HB1.out)).mono ?_; intro e w2 h2; rw [MakePost.good example_good] at h2; obtain ⟨⟨v2, rfl, ho2⟩, hb2⟩ := h2; have HB2 := Lib.hid (below_after HB1.out hb2); have HO2 := Lib.hid ho2; obtain ⟨g, c, rfl, hc664, hg8, hcv⟩ := first_facts ho2; rw [HY.out] at hcv; clear ho2 hb2)
    | (go_at_call 21; refine (call_open _ (makeB exampleL) w2 (own_bytes HO2.out) (by rw [example_len]; decide) (own_cap HO2.out) (HP.out.below HB2.out) (HMx.out.below HB2.out) (make_hsm0 example_good example_sm)).mono ?_; intro e w3 h3; rw [OpenPost.some_iff (back example_good example_sm.mb)] at h3; obtain ⟨hb3, v3, L3, rfl, hm3⟩ := h3; have HB3 := Lib.hid (below_after HB2.out hb3); have HM3 := Lib.hid hm3; clear hm3 hb3 hg8 hcv)
    | (go_at_call 18; refine (call_same _ _ exampleL w4 HM4.out HS4.out (LsSm.short example_sm)).mono ?_; rintro e w5 ⟨rfl, hb5⟩; have HB5 := Lib.hid (below_after HB4.out hb5); clear hb5))
  go_ret
  exact ⟨rfl, HB5.out⟩
end Go.Proofs.YtlecpjfggoehdaaDoor.Ar
