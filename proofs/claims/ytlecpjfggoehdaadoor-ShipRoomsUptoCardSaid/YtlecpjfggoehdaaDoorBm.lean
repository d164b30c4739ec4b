/- Archive: the law ArchiveBack, walked. Archive: the law ArchiveWhole, walked. -/
import Derived.Test.YtlecpjfggoehdaaDoorBk
import Derived.Deep.DeepCutAuto
set_option linter.unusedVariables false
set_option linter.unusedSimpArgs false
set_option maxRecDepth 100000
namespace Go.Proofs.YtlecpjfggoehdaaDoor.Ar
open Go.RowKit Go.Sort Go.Lib Go.Proofs.YtlecpjfggoehdaaDoor.Rs

theorem makeB_len13 {l : List Mb} (h : goodB l = true) (hl : LsSm l) : (makeB l).length ≤ 10000000000000 := by
  have hp := h
  rw [← pGood_eq] at hp
  obtain ⟨h1, h2⟩ := pGood_iff.1 hp
  have := out_le hl h1 (k := l.length) (fun j m _ hj => h2 j m hj)
  rw [List.take_of_length_le (Nat.le_refl _)] at this
  rw [make_len]
  omega
theorem opened_sm {b : List UInt8} {ms : List Mb} (h : pOpen b = some ms) (hb : b.length ≤ 1048576) : LsSm ms := by
  have h2 := parseR_count (open_parts h).2
  exact ⟨by omega, fun m hm => (opened_mb h hb m hm).sm⟩

set_option maxHeartbeats 1000000 in
theorem call_archiveBack (v vb : Value) (l : List Mb) (b : List UInt8) (w : World) (ha : ArgL w v l) (hab : ArgB w vb b) (hp : Stp w) (hm : MaxL w) :
    Calls Tryd.prog 6 #[v, vb] w fun e w' => e = .returned (.bool true) ∧ Below w.heap.size w w' := by
  obtain ⟨al, bl, ol, cl, rfl, hal, hcl⟩ := ha.sl
  obtain ⟨ab, bb, ob, cb, rfl, hbl, hcb⟩ := hab.sl
  obtain ⟨mp, hmp⟩ : ∃ n, l.length = n := ⟨_, rfl⟩
  obtain ⟨nb, hnb⟩ : ∃ n, b.length = n := ⟨_, rfl⟩
  have hcap := ha.cap _ _ _ rfl
  have hlen := ha.sm.len
  rw [hmp] at hal ha hcap hlen ⊢
  rw [hnb] at hbl hab ⊢
  have HM := Lib.hid hmp
  have HN := Lib.hid hnb
  have HA := Lib.hid ha
  have HAb := Lib.hid hab
  have HP := Lib.hid hp
  have HMx := Lib.hid hm
  clear hmp hnb ha hab hp hm hcl hcb hbl
  by_cases hbig : 1048576 < nb
  · clear hal hcap hlen
    go_enter Tryd.func6, Tryd.ntmps6
    go_wp2_with fail
    refine (call_first w HP.out HMx.out).mono ?_
    rintro e w1 ⟨rfl, hb1⟩
    have HB1 := Lib.hid hb1
    clear hb1
    go_wp2_with fail
    refine (call_first w1 (HP.out.below HB1.out) (HMx.out.below HB1.out)).mono ?_
    rintro e w2 ⟨rfl, hb2⟩
    have HB2 := Lib.hid (below_after HB1.out hb2)
    clear hb2
    go_wp2
    go_ret
    exact ⟨rfl, HB2.out⟩
  · have HLb : Hid (b.length ≤ 1048576) := Lib.hid (by rw [HN.out]; omega)
    go_enter Tryd.func6, Tryd.ntmps6
    go_wp2_with fail
    refine (call_first w HP.out HMx.out).mono ?_
    rintro e w1 ⟨rfl, hb1⟩
    have HB1 := Lib.hid hb1
    have HAw := Lib.hid (HA.out.keep (keeps_below hb1))
    clear hb1
    go_upto_if 23 with (fail)
    go_cut [0] (fun v0 wc => w1 = wc ∧ ∃ l' a n c, v0 = .slice a n c ∧ n = l'.length ∧ ArgL w1 v0 l')
    case first =>
      by_cases h120 : 120 < mp
      · have hal' := hal (by omega)
        subst hal'
        have hc2 : (120 : Int) ≤ cl := by omega
        have HL : Hid (ArgL w1 (.slice (some ⟨bl, ol, none⟩) 120 cl) (l.take 120)) := Lib.hid ⟨Sl.take HAw.out.sl (by omega) cl, (fun n c e => by cases e), (fun a n c e => by cases e; omega), ⟨by rw [List.length_take]; omega, fun m hm => HA.out.sm.mb m (List.mem_of_mem_take hm)⟩⟩
        have HLn : Hid (120 = (l.take 120).length) := Lib.hid (by rw [List.length_take, HM.out]; omega)
        clear hal
        go_wp2
        go_meet
        case rel => exact ⟨rfl, _, _, _, _, rfl, HLn.out, HL.out⟩
      · go_wp2
        go_meet
        case rel => exact ⟨rfl, l, al, mp, cl, rfl, HM.out.symm, HAw.out⟩
    case rest =>
    obtain ⟨rfl, l', a0, n0, c0, rfl, hn0, ha0⟩ := hcut
    have HA1 := Lib.hid ha0
    clear ha0 hal hn0 hcap hlen
    cases hg : goodB l' with
    | true =>
      have HG := Lib.hid hg
      clear hg
      cases hpo : pOpen b with
      | some ms =>
        have HPo := Lib.hid hpo
        clear hpo
        go_step; go_step
        go_wp2_with (first
          | (go_at_call 14; refine (call_twin _ l' w1 HA1.out.sl HA1.out.nil (LsSm.short HA1.out.sm)).mono ?_; rintro e w2 ⟨⟨v2, L2, rfl, ht2⟩, hb2⟩; have HT2 := Lib.hid (TwinS.mb ht2); have HB2 := Lib.hid (below_after HB1.out hb2); have HA2 := Lib.hid (HA1.out.keep (keeps_below hb2)); clear ht2 hb2)
          | (go_at_call 16; refine (call_make ms v6 w6 (HM6.out.mb (opened_mb HPo.out HLb.out)) (opened_sm HPo.out HLb.out) (HP.out.below HB6.out) (HMx.out.below HB6.out)).mono ?_; intro e w7 h7; rw [MakePost.good (forth HPo.out).1] at h7; obtain ⟨⟨v7, rfl, ho7⟩, hb7⟩ := h7; have HB7 := Lib.hid (below_after HB6.out hb7); have HO7 : Hid (Sl RByte 1 w7 v7 b) := Lib.hid (by have h := own_bytes ho7; rw [(forth HPo.out).2] at h; exact h); have HAb7 := Lib.hid (HAb.out.keep (keeps_below HB7.out)); clear ho7 hb7)
          | (go_at_call 16; refine (call_make l' _ w2 (Sl.mb HA2.out.sl) HA1.out.sm (HP.out.below HB2.out) (HMx.out.below HB2.out)).mono ?_; intro e w3 h3; rw [MakePost.good HG.out] at h3; obtain ⟨⟨v3, rfl, ho3⟩, hb3⟩ := h3; have HO3 := Lib.hid ho3; have HB3 := Lib.hid (below_after HB2.out hb3); have HT3 := Lib.hid (HT2.out.keep RMb.stays (keeps_below hb3)); clear ho3 hb3)
          | (go_at_call 21; refine (call_open (.slice ab nb cb) b w5 HAb5.out.sl (by have := HLb.out; omega) HAb5.out.cap (HP.out.below HB5.out) (HMx.out.below HB5.out) (open_sm HLb.out)).mono ?_; intro e w6 h6; rw [OpenPost.some_iff HPo.out] at h6; obtain ⟨hb6, v6, L6, rfl, hm6⟩ := h6; have HM6 := Lib.hid hm6; have HB6 := Lib.hid (below_after HB5.out hb6); clear hm6 hb6)
          | (go_at_call 21; refine (call_open v3 (makeB l') w3 (own_bytes HO3.out) (makeB_len13 HG.out HA1.out.sm) (own_cap HO3.out) (HP.out.below HB3.out) (HMx.out.below HB3.out) (make_hsm0 HG.out HA1.out.sm)).mono ?_; intro e w4 h4; rw [OpenPost.some_iff (back HG.out HA1.out.sm.mb)] at h4; obtain ⟨hb4, v4, L4, rfl, hm4⟩ := h4; have HB4 := Lib.hid (below_after HB3.out hb4); have HM4 := Lib.hid (hm4.mb (mbR_of HT2.out HA1.out.sm)); have HT4 := Lib.hid (HT3.out.keep RMb.stays (keeps_below hb4)); clear hm4 hb4)
          | (go_at_call 18; refine (call_same _ _ l' w4 HM4.out HT4.out (LsSm.short HA1.out.sm)).mono ?_; rintro e w5 ⟨rfl, hb5⟩; have HB5 := Lib.hid (below_after HB4.out hb5); have HAb5 := Lib.hid (HAb.out.keep (keeps_below HB5.out)); clear hb5)
          | (go_at_call 17; refine (call_alike _ _ b w7 HO7.out HAb7.out.sl (by have := HLb.out; omega)).mono ?_; rintro e w8 ⟨rfl, hb8⟩; have HB8 := Lib.hid (below_after HB7.out hb8); clear hb8))
        go_ret
        exact ⟨rfl, HB8.out⟩
      | none =>
        have HPo := Lib.hid hpo
        clear hpo
        go_step; go_step
        go_wp2_with (first
          | (go_at_call 14; refine (call_twin _ l' w1 HA1.out.sl HA1.out.nil (LsSm.short HA1.out.sm)).mono ?_; rintro e w2 ⟨⟨v2, L2, rfl, ht2⟩, hb2⟩; have HT2 := Lib.hid (TwinS.mb ht2); have HB2 := Lib.hid (below_after HB1.out hb2); have HA2 := Lib.hid (HA1.out.keep (keeps_below hb2)); clear ht2 hb2)
          | (go_at_call 16; refine (call_make l' _ w2 (Sl.mb HA2.out.sl) HA1.out.sm (HP.out.below HB2.out) (HMx.out.below HB2.out)).mono ?_; intro e w3 h3; rw [MakePost.good HG.out] at h3; obtain ⟨⟨v3, rfl, ho3⟩, hb3⟩ := h3; have HO3 := Lib.hid ho3; have HB3 := Lib.hid (below_after HB2.out hb3); have HT3 := Lib.hid (HT2.out.keep RMb.stays (keeps_below hb3)); clear ho3 hb3)
          | (go_at_call 21; refine (call_open (.slice ab nb cb) b w5 HAb5.out.sl (by have := HLb.out; omega) HAb5.out.cap (HP.out.below HB5.out) (HMx.out.below HB5.out) (open_sm HLb.out)).mono ?_; intro e w6 h6; rw [OpenPost.none_iff HPo.out] at h6; obtain ⟨hb6, rfl⟩ := h6; have HB6 := Lib.hid (below_after HB5.out hb6); clear hb6)
          | (go_at_call 21; refine (call_open v3 (makeB l') w3 (own_bytes HO3.out) (makeB_len13 HG.out HA1.out.sm) (own_cap HO3.out) (HP.out.below HB3.out) (HMx.out.below HB3.out) (make_hsm0 HG.out HA1.out.sm)).mono ?_; intro e w4 h4; rw [OpenPost.some_iff (back HG.out HA1.out.sm.mb)] at h4; obtain ⟨hb4, v4, L4, rfl, hm4⟩ := h4; have HB4 := Lib.hid (below_after HB3.out hb4); have HM4 := Lib.hid (hm4.mb (mbR_of HT2.out HA1.out.sm)); have HT4 := Lib.hid (HT3.out.keep RMb.stays (keeps_below hb4)); clear hm4 hb4)
          | (go_at_call 18; refine (call_same _ _ l' w4 HM4.out HT4.out (LsSm.short HA1.out.sm)).mono ?_; rintro e w5 ⟨rfl, hb5⟩; have HB5 := Lib.hid (below_after HB4.out hb5); have HAb5 := Lib.hid (HAb.out.keep (keeps_below HB5.out)); clear hb5))
        go_ret
        exact ⟨rfl, HB6.out⟩
    | false =>
      have HG := Lib.hid hg
      clear hg
      cases hpo : pOpen b with
      | some ms =>
        have HPo := Lib.hid hpo
        clear hpo
        go_step; go_step
        go_wp2_with (first
          | (go_at_call 14; refine (call_twin _ l' w1 HA1.out.sl HA1.out.nil (LsSm.short HA1.out.sm)).mono ?_; rintro e w2 ⟨⟨v2, L2, rfl, ht2⟩, hb2⟩; have HT2 := Lib.hid (TwinS.mb ht2); have HB2 := Lib.hid (below_after HB1.out hb2); have HA2 := Lib.hid (HA1.out.keep (keeps_below hb2)); clear ht2 hb2)
          | (go_at_call 16; refine (call_make ms v6 w6 (HM6.out.mb (opened_mb HPo.out HLb.out)) (opened_sm HPo.out HLb.out) (HP.out.below HB6.out) (HMx.out.below HB6.out)).mono ?_; intro e w7 h7; rw [MakePost.good (forth HPo.out).1] at h7; obtain ⟨⟨v7, rfl, ho7⟩, hb7⟩ := h7; have HB7 := Lib.hid (below_after HB6.out hb7); have HO7 : Hid (Sl RByte 1 w7 v7 b) := Lib.hid (by have h := own_bytes ho7; rw [(forth HPo.out).2] at h; exact h); have HAb7 := Lib.hid (HAb.out.keep (keeps_below HB7.out)); clear ho7 hb7)
          | (go_at_call 16; refine (call_make l' _ w2 (Sl.mb HA2.out.sl) HA1.out.sm (HP.out.below HB2.out) (HMx.out.below HB2.out)).mono ?_; intro e w5 h5; rw [MakePost.bad HG.out] at h5; obtain ⟨rfl, hb5⟩ := h5; have HB5 := Lib.hid (below_after HB2.out hb5); have HAb5 := Lib.hid (HAb.out.keep (keeps_below HB5.out)); clear hb5)
          | (go_at_call 21; refine (call_open (.slice ab nb cb) b w5 HAb5.out.sl (by have := HLb.out; omega) HAb5.out.cap (HP.out.below HB5.out) (HMx.out.below HB5.out) (open_sm HLb.out)).mono ?_; intro e w6 h6; rw [OpenPost.some_iff HPo.out] at h6; obtain ⟨hb6, v6, L6, rfl, hm6⟩ := h6; have HM6 := Lib.hid hm6; have HB6 := Lib.hid (below_after HB5.out hb6); clear hm6 hb6)
          | (go_at_call 17; refine (call_alike _ _ b w7 HO7.out HAb7.out.sl (by have := HLb.out; omega)).mono ?_; rintro e w8 ⟨rfl, hb8⟩; have HB8 := Lib.hid (below_after HB7.out hb8); clear hb8))
        go_ret
        exact ⟨rfl, HB8.out⟩
      | none =>
        have HPo := Lib.hid hpo
        clear hpo
        go_step; go_step
        go_wp2_with (first
          | (go_at_call 14; refine (call_twin _ l' w1 HA1.out.sl HA1.out.nil (LsSm.short HA1.out.sm)).mono ?_; rintro e w2 ⟨⟨v2, L2, rfl, ht2⟩, hb2⟩; have HT2 := Lib.hid (TwinS.mb ht2); have HB2 := Lib.hid (below_after HB1.out hb2); have HA2 := Lib.hid (HA1.out.keep (keeps_below hb2)); clear ht2 hb2)
          | (go_at_call 16; refine (call_make l' _ w2 (Sl.mb HA2.out.sl) HA1.out.sm (HP.out.below HB2.out) (HMx.out.below HB2.out)).mono ?_; intro e w5 h5; rw [MakePost.bad HG.out] at h5; obtain ⟨rfl, hb5⟩ := h5; have HB5 := Lib.hid (below_after HB2.out hb5); have HAb5 := Lib.hid (HAb.out.keep (keeps_below HB5.out)); clear hb5)
          | (go_at_call 21; refine (call_open (.slice ab nb cb) b w5 HAb5.out.sl (by have := HLb.out; omega) HAb5.out.cap (HP.out.below HB5.out) (HMx.out.below HB5.out) (open_sm HLb.out)).mono ?_; intro e w6 h6; rw [OpenPost.none_iff HPo.out] at h6; obtain ⟨hb6, rfl⟩ := h6; have HB6 := Lib.hid (below_after HB5.out hb6); clear hb6))
        go_ret
        exact ⟨rfl, HB6.out⟩
end Go.Proofs.YtlecpjfggoehdaaDoor.Ar

set_option linter.unusedVariables false
set_option linter.unusedSimpArgs false
set_option maxRecDepth 100000
namespace Go.Proofs.YtlecpjfggoehdaaDoor.Ar
open Go.RowKit Go.Sort Go.Lib Go.Proofs.YtlecpjfggoehdaaDoor.Rs

theorem makeB_len5 {l : List Mb} (h : goodB l = true) (hl : LsSm l) : (makeB l).length ≤ 5000000000064 := by
  have hp := h
  rw [← pGood_eq] at hp
  obtain ⟨h1, h2⟩ := pGood_iff.1 hp
  have := out_le hl h1 (k := l.length) (fun j m _ hj => h2 j m hj)
  rw [List.take_of_length_le (Nat.le_refl _)] at this
  rw [make_len]
  omega
theorem parse_short {b : List UInt8} (h : b.length < 64) : ∀ i pre k, parse b i = some (pre, k) → k = 64
  | 0, pre, k, e => by cases e; rfl
  | i + 1, pre, k, e => by
    rw [parse] at e
    obtain ⟨r, hr, e2⟩ := Option.bind_eq_some_iff.1 e
    obtain ⟨x, hx, e3⟩ := Option.map_eq_some_iff.1 e2
    have := parse_short h i r.1 r.2 hr
    rw [this, raw_short (by omega)] at hx
    cases hx
theorem cut_hsm {l : List Mb} (hg : goodB l = true) (hs : LsSm l) (n : Nat) : ∀ i pre k m k', i < numN ((makeB l).take n) 8 → parse ((makeB l).take n) i = some (pre, k) → pMem ((makeB l).take n) k = some (m, k') → MbSm m := fun i pre k m k' hi hp hm => by
  rcases Nat.lt_or_ge ((makeB l).take n).length 64 with h64 | h64
  · rw [parse_short h64 i pre k hp, raw_short (by omega)] at hm
    cases hm
  · have hl : l.length ≤ 8192 := by rw [goodB, Bool.and_eq_true] at hg; exact of_decide_eq_true hg.1
    have e := List.take_append_drop n (makeB l)
    have hn : numN ((makeB l).take n) 8 = l.length := by
      have h1 : numN ((makeB l).take n ++ (makeB l).drop n) 8 = numN ((makeB l).take n) 8 := by rw [numN, numAt_left _ _ _ (by omega), ← numN]
      rw [← h1, e, make_num (by omega)]
    rw [hn] at hi
    obtain ⟨K, hK, _, _⟩ := pMem_raw hm
    have hpR := parseR_app ((makeB l).drop n) (parse_R h64 hp).1
    have hKR := rawMem_app ((makeB l).drop n) hK
    rw [e] at hpR hKR
    have hq := parseR_make (good_fits hg hs.mb) (i + 1) (by omega)
    rw [parseR, hpR, Option.bind_some] at hq
    simp only at hq
    rw [hKR, Option.map_some] at hq
    injection hq with hq
    injection hq with hq _
    have hm2 : m ∈ l.take (i + 1) := by rw [← hq]; simp
    exact hs.mb m (List.mem_of_mem_take hm2)

theorem src_of {w : World} {a : Option Addr} {n c : Nat} {b : List UInt8} (h : Sl RByte 1 w (.slice a n c) b) : ∃ ad c', Value.slice a n c = .slice ad n c' ∧ (0 < n → ∃ g off, ad = some ⟨g, off, none⟩ ∧ ∀ j u, (b.map byteV)[j]? = some u → w.cell? ⟨g, off + j, none⟩ = some u) := by
  obtain ⟨a', b', o', c', e, ha, hc⟩ := h
  cases e
  refine ⟨_, _, rfl, fun h0 => ⟨b', o', ha h0, fun j u hj => ?_⟩⟩
  rw [List.getElem?_map, Option.map_eq_some_iff] at hj
  obtain ⟨z, hz, rfl⟩ := hj
  have := hc j z hz
  rw [Nat.mul_one] at this
  exact this
theorem own_two {base : Nat} {w : World} {v : Value} {b more : List UInt8} {n : Nat} (h : w.ownsRow base 5 1 v (b.length + n) (b.map byteV ++ more.map byteV)) (hn : more.length = n) : Own base w v (b ++ more) := by
  show World.ownsRow _ _ _ _ _ (b ++ more).length ((b ++ more).map byteV)
  rw [List.length_append, hn, List.map_append]
  exact h

set_option maxHeartbeats 2000000 in
theorem call_archiveWhole (v vm : Value) (l : List Mb) (cut : Int) (more : List UInt8) (w : World) (ha : ArgL w v l) (hab : ArgB w vm more) (hp : Stp w) (hm : MaxL w) :
    Calls Tryd.prog 8 #[v, .int .i64 cut, vm] w fun e w' => e = .returned (.bool true) ∧ Below w.heap.size w w' := by
  obtain ⟨al, bl, ol, cl, rfl, hal, hcl⟩ := ha.sl
  obtain ⟨am, bm, om, cm, rfl, ham, hcm⟩ := hab.sl
  obtain ⟨mp, hmp⟩ : ∃ n, l.length = n := ⟨_, rfl⟩
  obtain ⟨nm, hnm⟩ : ∃ n, more.length = n := ⟨_, rfl⟩
  have hcap := ha.cap _ _ _ rfl
  have hlen := ha.sm.len
  rw [hmp] at hal ha hcap hlen ⊢
  rw [hnm] at ham hab ⊢
  have HM := Lib.hid hmp
  have HN := Lib.hid hnm
  have HA := Lib.hid ha
  have HAb := Lib.hid hab
  have HP := Lib.hid hp
  have HMx := Lib.hid hm
  clear hmp hnm ha hab hp hm hcl hcm ham
  go_enter Tryd.func8, Tryd.ntmps8
  go_wp2_with fail
  refine (call_first w HP.out HMx.out).mono ?_
  rintro e w1 ⟨rfl, hb1⟩
  have HB1 := Lib.hid hb1
  have HAw := Lib.hid (HA.out.keep (keeps_below hb1))
  clear hb1
  go_upto_if 15 with (fail)
  go_cut [0] (fun v0 wc => w1 = wc ∧ ∃ l' a n c, v0 = .slice a n c ∧ n = l'.length ∧ ArgL w1 v0 l')
  case first =>
    by_cases h120 : 120 < mp
    · have hal' := hal (by omega)
      subst hal'
      have hc2 : (120 : Int) ≤ cl := by omega
      have HL : Hid (ArgL w1 (.slice (some ⟨bl, ol, none⟩) 120 cl) (l.take 120)) := Lib.hid ⟨Sl.take HAw.out.sl (by omega) cl, (fun n c e => by cases e), (fun a n c e => by cases e; omega), ⟨by rw [List.length_take]; omega, fun m hm => HA.out.sm.mb m (List.mem_of_mem_take hm)⟩⟩
      have HLn : Hid (120 = (l.take 120).length) := Lib.hid (by rw [List.length_take, HM.out]; omega)
      clear hal
      go_wp2
      go_meet
      case rel => exact ⟨rfl, _, _, _, _, rfl, HLn.out, HL.out⟩
    · go_wp2
      go_meet
      case rel => exact ⟨rfl, l, al, mp, cl, rfl, HM.out.symm, HAw.out⟩
  case rest =>
  obtain ⟨rfl, l', a0, n0, c0, rfl, hn0, ha0⟩ := hcut
  have HA1 := Lib.hid ha0
  clear ha0 hal hn0 hcap hlen
  cases hg : goodB l' with
  | false =>
    have HG := Lib.hid hg
    clear hg
    go_step; go_step
    go_wp2_with (go_at_call 16; refine (call_make l' _ w1 (Sl.mb HA1.out.sl) HA1.out.sm (HP.out.below HB1.out) (HMx.out.below HB1.out)).mono ?_; intro e w2 h2; rw [MakePost.bad HG.out] at h2; obtain ⟨rfl, hb2⟩ := h2; have HB2 := Lib.hid (below_after HB1.out hb2); clear hb2)
    go_ret
    exact ⟨rfl, HB2.out⟩
  | true =>
    have HG := Lib.hid hg
    clear hg
    have hN13 := makeB_len5 HG.out HA1.out.sm
    have hN64 : 64 ≤ (makeB l').length := by rw [make_len]; omega
    obtain ⟨N, hN⟩ : ∃ N, (makeB l').length = N := ⟨_, rfl⟩
    have HNl := Lib.hid hN
    rw [hN] at hN13 hN64
    clear hN
    go_step; go_step
    go_upto_region 8 with (go_at_call 16; refine (call_make l' _ w1 (Sl.mb HA1.out.sl) HA1.out.sm (HP.out.below HB1.out) (HMx.out.below HB1.out)).mono ?_; intro e w2 h2; rw [MakePost.good HG.out] at h2; obtain ⟨⟨v2, rfl, ho2⟩, hb2⟩ := h2; have HO2 := Lib.hid ho2; have HB2 := Lib.hid (below_after HB1.out hb2); obtain ⟨g, c, rfl, _, _, hc, _, _⟩ := own_form ho2 (by rw [HNl.out]; omega); rw [HNl.out] at hc HO2 ⊢; clear ho2 hb2)
    go_cut [34] (fun v34 wc => w2 = wc ∧ ∃ t : Bool, v34 = .bool t ∧ (t = false → ∃ k : Nat, cut = k ∧ k < N))
    case first =>
      by_cases hc0 : cut < 0
      · have d0 : decide (cut < 0) = true := decide_eq_true hc0
        go_wp2
        go_meet
        case rel => exact ⟨rfl, true, rfl, fun h => by cases h⟩
      · have d0 : decide (cut < 0) = false := decide_eq_false hc0
        obtain ⟨k, rfl⟩ := Int.eq_ofNat_of_zero_le (show 0 ≤ cut by omega)
        by_cases hk : N ≤ k
        · have d1 : decide ((N : Int) ≤ (k : Int)) = true := decide_eq_true (by omega)
          go_wp2
          go_meet
          case rel => exact ⟨rfl, true, rfl, fun h => by cases h⟩
        · have d1 : decide ((N : Int) ≤ (k : Int)) = false := decide_eq_false (by omega)
          go_wp2
          go_meet
          case rel => exact ⟨rfl, false, rfl, fun _ => ⟨k, rfl, by omega⟩⟩
    case rest =>
    obtain ⟨rfl, tt, rfl, htt⟩ := hcut
    have HTt := Lib.hid htt
    clear htt
    go_step
    go_cut [1] (fun v1 wc => w2 = wc ∧ ∃ k : Nat, v1 = .int .i64 k ∧ k < N)
    case first =>
      cases tt with
      | true =>
        go_wp2
        go_meet
        case rel => exact ⟨rfl, N / 2, by go_num, by omega⟩
      | false =>
        obtain ⟨k, rfl, hk⟩ := HTt.out rfl
        go_wp2
        go_meet
        case rel => exact ⟨rfl, k, rfl, hk⟩
    case rest =>
    obtain ⟨rfl, k, rfl, hk⟩ := hcut
    have HT : Hid (Sl RByte 1 w2 (.slice (some ⟨g, 0, none⟩) k c) ((makeB l').take k)) := Lib.hid (Sl.take (own_bytes HO2.out) (by omega) c)
    have HTl : Hid (((makeB l').take k).length ≤ 10000000000000) := Lib.hid (by rw [List.length_take, HNl.out]; omega)
    have HNo : Hid (pOpen ((makeB l').take k) = none) := Lib.hid (whole_cut HG.out HA1.out.sm.mb (by rw [HNl.out]; exact hk))
    have HO2' : Hid (Sl RByte 1 w2 (.slice (some ⟨g, 0, none⟩) N c) (makeB l')) := Lib.hid (own_bytes HO2.out)
    have kc : (k : Int) ≤ c := by omega
    obtain ⟨i0, hi0, hz1, hs0, hb0⟩ := info_parts info5
    have HLe : Hid ((makeB l').length ≤ 10000000000000) := Lib.hid (by rw [HNl.out]; omega)
    by_cases hz : nm = 0
    · subst hz
      go_step; go_step
      go_wp2_with (go_at_call 21; refine (call_open (.slice (some ⟨g, 0, none⟩) k c) ((makeB l').take k) w2 HT.out HTl.out (fun a n q e => by cases e; omega) (HP.out.below HB2.out) (HMx.out.below HB2.out) (cut_hsm HG.out HA1.out.sm k)).mono ?_; intro e w3 h3; rw [OpenPost.none_iff HNo.out] at h3; obtain ⟨hb3, rfl⟩ := h3; have HB3 := Lib.hid (below_after HB2.out hb3); have HO3 := Lib.hid (HO2'.out.keep RByte.stays (keeps_below hb3)); have HAb3 := Lib.hid (HAb.out.keep (keeps_below HB3.out)); clear hb3)
      go_ret
      exact ⟨rfl, HB3.out⟩
    · have hz0 : ((nm : Int) == 0) = false := beq_eq_false_iff_ne.2 (by omega)
      by_cases hbg : 65536 < nm
      · have d1 : decide ((65536 : Int) < (nm : Int)) = true := decide_eq_true (by omega)
        go_step; go_step
        go_wp2_with (go_at_call 21; refine (call_open (.slice (some ⟨g, 0, none⟩) k c) ((makeB l').take k) w2 HT.out HTl.out (fun a n q e => by cases e; omega) (HP.out.below HB2.out) (HMx.out.below HB2.out) (cut_hsm HG.out HA1.out.sm k)).mono ?_; intro e w3 h3; rw [OpenPost.none_iff HNo.out] at h3; obtain ⟨hb3, rfl⟩ := h3; have HB3 := Lib.hid (below_after HB2.out hb3); have HO3 := Lib.hid (HO2'.out.keep RByte.stays (keeps_below hb3)); have HAb3 := Lib.hid (HAb.out.keep (keeps_below HB3.out)); clear hb3)
        go_ret
        exact ⟨rfl, HB3.out⟩
      · have d1 : decide ((65536 : Int) < (nm : Int)) = false := decide_eq_false (by omega)
        have HMo : Hid (more ≠ []) := Lib.hid (fun e => by have := HN.out; rw [e] at this; exact hz this.symm)
        go_step; go_step
        go_wp2_with (first
          | (go_at_call 21; refine (call_open v5 (makeB l' ++ more) w5 (own_bytes HO5.out) (by rw [List.length_append, HNl.out, HN.out]; omega) (own_cap HO5.out) (HP.out.below HB5.out) (HMx.out.below HB5.out) (make_hsm HG.out HA1.out.sm more)).mono ?_; intro e w6 h6; rw [OpenPost.none_iff (whole_more HG.out HA1.out.sm.mb HMo.out)] at h6; obtain ⟨hb6, rfl⟩ := h6; have HB6 := Lib.hid (below_after HB5.out hb6); clear hb6)
          | (go_at_call 21; refine (call_open (.slice (some ⟨g, 0, none⟩) k c) ((makeB l').take k) w2 HT.out HTl.out (fun a n q e => by cases e; omega) (HP.out.below HB2.out) (HMx.out.below HB2.out) (cut_hsm HG.out HA1.out.sm k)).mono ?_; intro e w3 h3; rw [OpenPost.none_iff HNo.out] at h3; obtain ⟨hb3, rfl⟩ := h3; have HB3 := Lib.hid (below_after HB2.out hb3); have HO3 := Lib.hid (HO2'.out.keep RByte.stays (keeps_below hb3)); have HAb3 := Lib.hid (HAb.out.keep (keeps_below HB3.out)); clear hb3)
          | (refine wpl_copyb rfl _ _ rfl rfl _ (by rfl) (makeB l') HO3.out (fun n c e => by cases e) HLe.out ?_; intro v4 w4 ho4 hb4; have HB4 := Lib.hid (below_after HB3.out hb4); have HO4 := Lib.hid ho4; have HL4 := Lib.hid hb4.size; have HAb4 := Lib.hid (HAb3.out.keep (keeps_below hb4)); clear ho4 hb4)
          | (at_builtin; refine wpl_many 31 5 i0 _ 1 1 Tryd.underlying31 hi0 hz1 hs0 hb0 rfl (by decide) HO4.out (by rfl) _ _ (by rfl) (by rfl) (.slice am nm cm) (by rfl) (more.map byteV) nm (by rw [List.length_map, HN.out, Nat.mul_one]) HAb4.out.nil (src_of HAb4.out.sl) (one_bytes _) HL4.out (by rw [HNl.out]; omega) (by decide) ?_; intro v5 w5 h1 h2 h3; have HB5 := Lib.hid (HB4.out.grown h2 HB4.out.size (fun r e => Nat.le_trans HB3.out.size (HO4.out.lt r e).1)); have HO5 : Hid (Own w3.heap.size w5 v5 (makeB l' ++ more)) := Lib.hid (own_two h1 HN.out); clear h1 h2 h3))
        go_ret
        exact ⟨rfl, HB6.out⟩
end Go.Proofs.YtlecpjfggoehdaaDoor.Ar
