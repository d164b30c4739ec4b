/- Archive: the law ArchiveBack, walked. -/
import Derived.Test.YtlecpjfggoehdaaDoorBl
import Derived.Deep.DeepCutAuto
set_option linter.unusedVariables false
set_option linter.unusedSimpArgs false
set_option maxRecDepth 100000
namespace Go.Proofs.YtlecpjfggoehdaaDoor.Ar
open Go.RowKit Go.Sort Go.Lib Go.Proofs.YtlecpjfggoehdaaDoor.Rs

theorem makeB_len13 {l : List Mb} (h : goodB l = true) (hl : LsSm l) : (makeB l).length ≤ 10000000000000 := by
  have hp := h
  rw [← pGood_eq] at hp
  obtain ⟨h1, h2⟩ := pGood_iff.1 hp
  have := out_le hl h1 (k := l.length) (fun j m _ hj => h2 j m hj)
  rw [List.take_of_length_le (Nat.le_refl _)] at this
  rw [make_len]
  omega
theorem opened_sm {b : List UInt8} {ms : List Mb} (h : pOpen b = some ms) (hb : b.length ≤ 1048576) : LsSm ms := by
  have h2 := parseR_count (open_parts h).2
  exact ⟨by omega, fun m hm => (opened_mb h hb m hm).sm⟩

set_option maxHeartbeats 1000000 in
theorem call_archiveBack (v vb : Value) (l : List Mb) (b : List UInt8) (w : World) (ha : ArgL w v l) (hab : ArgB w vb b) (hp : Stp w) (hm : MaxL w) :
    Calls Tryd.prog 6 #[v, vb] w fun e w' => e = .returned (.bool true) ∧ Below w.heap.size w w' := by
  obtain ⟨al, bl, ol, cl, rfl, hal, hcl⟩ := ha.sl
  obtain ⟨ab, bb, ob, cb, rfl, hbl, hcb⟩ := hab.sl
  obtain ⟨mp, hmp⟩ : ∃ n, l.length = n := ⟨_, rfl⟩
  obtain ⟨nb, hnb⟩ : ∃ n, b.length = n := ⟨_, rfl⟩
  have hcap := ha.cap _ _ _ rfl
  have hlen := ha.sm.len
  rw [hmp] at hal ha hcap hlen ⊢
  rw [hnb] at hbl hab ⊢
  have HM := Lib.hid hmp
  have HN := Lib.hid hnb
  have HA := Lib.hid ha
  have HAb := Lib.hid hab
  have HP := Lib.hid hp
  have HMx := Lib.hid hm
  clear hmp hnb ha hab hp hm hcl hcb hbl
  by_cases hbig : 1048576 < nb
  · clear hal hcap hlen
    go_enter Tryd.func6, Tryd.ntmps6
    go_wp2_with fail
    refine (call_first w HP.out HMx.out).mono ?_
    rintro e w1 ⟨rfl, hb1⟩
    have HB1 := Lib.hid hb1
    clear hb1
    go_wp2_with fail
    refine (call_first w1 (HP.out.below HB1.out) (HMx.out.below HB1.out)).mono ?_
    rintro e w2 ⟨rfl, hb2⟩
    have HB2 := Lib.hid (below_after HB1.out hb2)
    clear hb2
    go_wp2
    go_ret
    exact ⟨rfl, HB2.out⟩
  · have HLb : Hid (b.length ≤ 1048576) := Lib.hid (by rw [HN.out]; omega)
    go_enter Tryd.func6, Tryd.ntmps6
    go_wp2_with fail
    refine (call_first w HP.out HMx.out).mono ?_
    rintro e w1 ⟨rfl, hb1⟩
    have HB1 := Lib.hid hb1
    have HAw := Lib.hid (HA.out.keep (keeps_below hb1))
    clear hb1
    go_upto_if 23 with (fail)
    go_cut [0] (fun v0 wc => w1 = wc ∧ ∃ l' a n c, v0 = .slice a n c ∧ n = l'.length ∧ ArgL w1 v0 l')
    case first =>
      by_cases h120 : 120 < mp
      · have hal' := hal (by omega)
        subst hal'
        have hc2 : (120 : Int) ≤ cl := by omega
        have HL : Hid (ArgL w1 (.slice (some ⟨bl, ol, none⟩) 120 cl) (l.take 120)) := Lib.hid ⟨Sl.take HAw.out.sl (by omega) cl, (fun n c e => by cases e), (fun a n c e => by cases e; omega), ⟨by rw [List.length_take]; omega, fun m hm => HA.out.sm.mb m (List.mem_of_mem_take hm)⟩⟩
        have HLn : Hid (120 = (l.take 120).length) := Lib.hid (by rw [List.length_take, HM.out]; omega)
        clear hal
        go_wp2
        go_meet
        case rel => exact ⟨rfl, _, _, _, _, rfl, HLn.out, HL.out⟩
      · go_wp2
        go_meet
        case rel => exact ⟨rfl, l, al, mp, cl, rfl, HM.out.symm, HAw.out⟩
    case rest =>
    obtain ⟨rfl, l', a0, n0, c0, rfl, hn0, ha0⟩ := hcut
    have HA1 := Lib.hid ha0
    clear ha0 hal hn0 hcap hlen
    cases hg : goodB l' with
    | true =>
      have HG := Lib.hid hg
      clear hg
      cases hpo : pOpen b with
      | some ms =>
        have HPo := Lib.hid hpo
        clear hpo
        go_step; go_step
        go_wp2_with (first
          | (go_at_call 14; refine (call_twin _ l' w1 HA1.out.sl HA1.out.nil (LsSm.short HA1.out.sm)).mono ?_; rintro e w2 ⟨⟨v2, L2, rfl, ht2⟩, hb2⟩; have HT2 := Lib.hid (TwinS.mb ht2); have HB2 := Lib.hid (below_after HB1.out hb2); have HA2 := Lib.hid (HA1.out.keep (keeps_below hb2)); clear ht2 hb2)
          | (go_at_call 16; refine (call_make ms v6 w6 (HM6.out.mb (opened_mb HPo.out HLb.out)) (opened_sm HPo.out HLb.out) (HP.out.below HB6.out) (HMx.out.below HB6.out)).mono ?_; intro e w7 h7; rw [MakePost.good (forth HPo.out).1] at h7; obtain ⟨⟨v7, rfl, ho7⟩, hb7⟩ := h7; have HB7 := Lib.hid (below_after HB6.out hb7); have HO7 : Hid (Sl RByte 1 w7 v7 b) := Lib.hid (by have h := own_bytes ho7; rw [(forth HPo.out).2] at h; exact h); have HAb7 := Lib.hid (HAb.out.keep (keeps_below HB7.out)); clear ho7 hb7)
          | (go_at_call 16; refine (call_make l' _ w2 (Sl.mb HA2.out.sl) HA1.out.sm (HP.out.below HB2.out) (HMx.out.below HB2.out)).mono ?_; intro e w3 h3; rw [MakePost.good HG.out] at h3; obtain ⟨⟨v3, rfl, ho3⟩, hb3⟩ := h3; have HO3 := Lib.hid ho3; have HB3 := Lib.hid (below_after HB2.out hb3); have HT3 := Lib.hid (HT2.out.keep RMb.stays (keeps_below hb3)); clear ho3 hb3)
          | (go_at_call 21; refine (call_open (.slice ab nb cb) b w5 HAb5.out.sl (by have := HLb.out; omega) HAb5.out.cap (HP.out.below HB5.out) (HMx.out.below HB5.out) (open_sm HLb.out)).mono ?_; intro e w6 h6; rw [OpenPost.some_iff HPo.out] at h6; obtain ⟨hb6, v6, L6, rfl, hm6⟩ := h6; have HM6 := Lib.hid hm6; have HB6 := Lib.hid (below_after HB5.out hb6); clear hm6 hb6)
          | (go_at_call 21; refine (call_open v3 (makeB l') w3 (own_bytes HO3.out) (makeB_len13 HG.out HA1.out.sm) (own_cap HO3.out) (HP.out.below HB3.out) (HMx.out.below HB3.out) (make_hsm0 HG.out HA1.out.sm)).mono ?_; intro e w4 h4; rw [OpenPost.some_iff (back HG.out HA1.out.sm.mb)] at h4; obtain ⟨hb4, v4, L4, rfl, hm4⟩ := h4; have HB4 := Lib.hid (below_after HB3.out hb4); have HM4 := Lib.hid (hm4.mb (mbR_of HT2.out HA1.out.sm)); have HT4 := Lib.hid (HT3.out.keep RMb.stays (keeps_below hb4)); clear hm4 hb4)
          | (go_at_call 18; refine (call_same _ _ l' w4 HM4.out HT4.out (LsSm.short HA1.out.sm)).mono ?_; rintro e w5 ⟨rfl, hb5⟩; have HB5 := Lib.hid (below_after HB4.out hb5); have HAb5 := Lib.hid (HAb.out.keep (keeps_below HB5.out)); clear hb5)
          | (go_at_call 17; refine (call_alike _ _ b w7 HO7.out HAb7.out.sl (by have := HLb.out; omega)).mono ?_; rintro e w8 ⟨rfl, hb8⟩; have HB8 := Lib.hid (below_after HB7.out hb8); clear hb8))
        go_ret
        exact ⟨rfl, HB8.out⟩
      | none =>
        have HPo := Lib.hid hpo
        clear hpo
        go_step; go_step
        go_wp2_with (first
          | (go_at_call 14; refine (call_twin _ l' w1 HA1.out.sl HA1.out.nil (LsSm.short HA1.out.sm)).mono ?_; rintro e w2 ⟨⟨v2, L2, rfl, ht2⟩, hb2⟩; have HT2 := Lib.hid (TwinS.mb ht2); have HB2 := Lib.hid (below_after HB1.out hb2); have HA2 := Lib.hid (HA1.out.keep (keeps_below hb2)); clear ht2 hb2)
          | (go_at_call 16; refine (call_make l' _ w2 (Sl.mb HA2.out.sl) HA1.out.sm (HP.out.below HB2.out) (HMx.out.below HB2.out)).mono ?_; intro e w3 h3; rw [MakePost.good HG.out] at h3; obtain ⟨⟨v3, rfl, ho3⟩, hb3⟩ := h3; have HO3 := Lib.hid ho3; have HB3 := Lib.hid (below_after HB2.out hb3); have HT3 := Lib.hid (HT2.out.keep RMb.stays (keeps_below hb3)); clear ho3 hb3)
          | (go_at_call 21; refine (call_open (.slice ab nb cb) b w5 HAb5.out.sl (by have := HLb.out; omega) HAb5.out.cap (HP.out.below HB5.out) (HMx.out.below HB5.out) (open_sm HLb.out)).mono ?_; intro e w6 h6; rw [OpenPost.none_iff HPo.out] at h6; obtain ⟨hb6, rfl⟩ := h6; have HB6 := Lib.hid (below_after HB5.out hb6); clear hb6)
          | (go_at_call 21; refine (call_open v3 (makeB l') w3 (own_bytes HO3.out) (makeB_len13 HG.out HA1.out.sm) (own_cap HO3.out) (HP.out.below HB3.out) (HMx.out.below HB3.out) (make_hsm0 HG.out HA1.out.sm)).mono ?_; intro e w4 h4; rw [OpenPost.some_iff (back HG.out HA1.out.sm.mb)] at h4; obtain ⟨hb4, v4, L4, rfl, hm4⟩ := h4; have HB4 := Lib.hid (below_after HB3.out hb4); have HM4 := Lib.hid (hm4.mb (mbR_of HT2.out HA1.out.sm)); have HT4 := Lib.hid (HT3.out.keep RMb.stays (keeps_below hb4)); clear hm4 hb4)
          | (go_at_call 18; refine (call_same _ _ l' w4 HM4.out HT4.out (LsSm.short HA1.out.sm)).mono ?_; rintro e w5 ⟨rfl, hb5⟩; have HB5 := Lib.hid (below_after HB4.out hb5); have HAb5 := Lib.hid (HAb.out.keep (keeps_below HB5.out)); clear hb5))
        go_ret
        exact ⟨rfl, HB6.out⟩
    | false =>
      have HG := Lib.hid hg
      clear hg
      cases hpo : pOpen b with
      | some ms =>
        have HPo := Lib.hid hpo
        clear hpo
        go_step; go_step
        go_wp2_with (first
          | (go_at_call 14; refine (call_twin _ l' w1 HA1.out.sl HA1.out.nil (LsSm.short HA1.out.sm)).mono ?_; rintro e w2 ⟨⟨v2, L2, rfl, ht2⟩, hb2⟩; have HT2 := Lib.hid (TwinS.mb ht2); have HB2 := Lib.hid (below_after HB1.out hb2); have HA2 := Lib.hid (HA1.out.keep (keeps_below hb2)); clear ht2 hb2)
          | (go_at_call 16; refine (call_make ms v6 w6 (HM6.out.mb (opened_mb HPo.out HLb.out)) (opened_sm HPo.out HLb.out) (HP.out.below HB6.out) (HMx.out.below HB6.out)).mono ?_; intro e w7 h7; rw [MakePost.good (forth HPo.out).1] at h7; obtain ⟨⟨v7, rfl, ho7⟩, hb7⟩ := h7; have HB7 := Lib.hid (below_after HB6.out hb7); have HO7 : Hid (Sl RByte 1 w7 v7 b) := Lib.hid (by have h := own_bytes ho7; rw [(forth HPo.out).2] at h; exact h); have HAb7 := Lib.hid (HAb.out.keep (keeps_below HB7.out)); clear ho7 hb7)
          | (go_at_call 16; refine (call_make l' _ w2 (Sl.mb HA2.out.sl) HA1.out.sm (HP.out.below HB2.out) (HMx.out.below HB2.out)).mono ?_; intro e w5 h5; rw [MakePost.bad HG.out] at h5; obtain ⟨rfl, hb5⟩ := h5; have HB5 := Lib.hid (below_after HB2.out hb5); have HAb5 := Lib.hid (HAb.out.keep (keeps_below HB5.out)); clear hb5)
          | (go_at_call 21; refine (call_open (.slice ab nb cb) b w5 HAb5.out.sl (by have := HLb.out; omega) HAb5.out.cap (HP.out.below HB5.out) (HMx.out.below HB5.out) (open_sm HLb.out)).mono ?_; intro e w6 h6; rw [OpenPost.some_iff HPo.out] at h6; obtain ⟨hb6, v6, L6, rfl, hm6⟩ := h6; have HM6 := Lib.hid hm6; have HB6 := Lib.hid (below_after HB5.out hb6); clear hm6 hb6)
          | (go_at_call 17; refine (call_alike _ _ b w7 HO7.out HAb7.out.sl (by have := HLb.out; omega)).mono ?_; rintro e w8 ⟨rfl, hb8⟩; have HB8 := Lib.hid (below_after HB7.out hb8); clear hb8))
        go_ret
        exact ⟨rfl, HB8.out⟩
      | none =>
        have HPo := Lib.hid hpo
        clear hpo
        go_step; go_step
        go_wp2_with (first
          | (go_at_call 14; refine (call_twin _ l' w1 HA1.out.sl HA1.out.nil (LsSm.short HA1.out.sm)).mono ?_; rintro e w2 ⟨⟨v2, L2, rfl, ht2⟩, hb2⟩; have HT2 := Lib.hid (TwinS.mb ht2); have HB2 := Lib.hid (below_after HB1.out hb2); have HA2 := Lib.hid (HA1.out.keep (keeps_below hb2)); clear ht2 hb2)
          | (go_at_call 16; refine (call_make l' _ w2 (Sl.mb HA2.out.sl) HA1.out.sm (HP.out.below HB2.out) (HMx.out.below HB2.out)).mono ?_; intro e w5 h5; rw [MakePost.bad HG.out] at h5; obtain ⟨rfl, hb5⟩ := h5; have HB5 := Lib.hid (below_after HB2.out hb5); have HAb5 := Lib.hid (HAb.out.keep (keeps_below HB5.out)); clear hb5)
          | (go_at_call 21; refine (call_open (.slice ab nb cb) b w5 HAb5.out.sl (by have := HLb.out; omega) HAb5.out.cap (HP.out.below HB5.out) (HMx.out.below HB5.out) (open_sm HLb.out)).mono ?_; intro e w6 h6; rw [OpenPost.none_iff HPo.out] at h6; obtain ⟨hb6, rfl⟩ := h6; have HB6 := Lib.hid (below_after HB5.out hb6); clear hb6))
        go_ret
        exact ⟨rfl, HB6.out⟩
end Go.Proofs.YtlecpjfggoehdaaDoor.Ar
