/- Archive: the law ArchiveMakes, walked. -/
import Derived.Test.YtlecpjfggoehdaaDoorArTy
import Derived.Test.YtlecpjfggoehdaaDoorArY
set_option linter.unusedVariables false
set_option linter.unusedSimpArgs false
set_option maxRecDepth 100000
namespace Go.Proofs.YtlecpjfggoehdaaDoor.Ar
open Go.RowKit Go.Sort Go.Lib Go.Proofs.YtlecpjfggoehdaaDoor.Rs

theorem TwinS.mb {w0 wr : World} {base : Nat} {v : Value} {l : List Mb} {L : List MV} (h : TwinS w0 base wr v l l.length L) : Sl RMb 5 wr v l := by
  have hl : L.length = l.length := by rw [← h.fst, List.length_map]
  have := h.row.sl (fun x hx => by
    obtain ⟨j, hj⟩ := List.getElem?_of_mem hx
    have hm : x.1 ∈ l := by rw [← h.fst]; exact List.mem_map_of_mem hx
    have hn := h.num x.1 hm
    exact ⟨(h.own j x (by have := (List.getElem?_eq_some_iff.1 hj).1; omega) hj).1.sl hn.2.2, hn.1, hn.2.1⟩)
  rw [h.fst] at this
  exact this
theorem LsSm.short {l : List Mb} (h : LsSm l) : LsSm' l := ⟨h.len, fun m hm => (h.mb m hm).pieces⟩
theorem own_bytes {base : Nat} {w : World} {v : Value} {l : List UInt8} (h : Own base w v l) : Sl RByte 1 w v l := by
  by_cases h0 : 0 < l.length
  · exact (bytes_own h h0).2.1
  · have e := List.eq_nil_of_length_eq_zero (by omega : l.length = 0)
    subst e
    rcases h.2 with ⟨rfl, _⟩ | ⟨g, cap, cur, rfl, _⟩
    · exact ⟨none, 0, 0, 0, rfl, fun h => by simp at h, fun j x hj => by simp at hj⟩
    · exact ⟨_, g, 0, cap, rfl, fun h => by simp at h, fun j x hj => by simp at hj⟩
theorem nil_bytes (w : World) : Sl RByte 1 w (.slice none 0 0) [] := ⟨none, 0, 0, 0, rfl, fun h => by simp at h, fun j x hj => by simp at hj⟩
theorem makeB_len_le {l : List Mb} (h : goodB l = true) (hl : LsSm l) : (makeB l).length ≤ 100000000000000 := by
  have h1 := makeB_le h hl l.length
  rw [List.take_of_length_le (Nat.le_refl _)] at h1
  rw [makeB, List.length_append, closeB_len _ (lineB_len _)]
  omega
theorem Sl.take {α : Type} {R : World → Nat → Nat → α → Prop} {sz : Nat} {w : World} {a : Option Addr} {n c : Nat} {xs : List α} (h : Sl R sz w (.slice a n c) xs) {k : Nat} (hk : k ≤ n) (c' : Nat) : Sl R sz w (.slice a k c') (xs.take k) := by
  obtain ⟨a', b, o, cap, e, ha, hc⟩ := h
  cases e
  have hl : (xs.take k).length = k := by rw [List.length_take]; omega
  exact ⟨a, b, o, c', by rw [hl], fun h0 => ha (by omega), fun j x hj => by
    rw [List.getElem?_take] at hj
    split at hj
    · exact hc j x hj
    · cases hj⟩

/-- what the law's list is -/
structure ArgL (w : World) (v : Value) (l : List Mb) : Prop where
  sl : Sl RMbN 5 w v l
  nil : NilOk v
  cap : ∀ a n c, v = .slice a n c → n ≤ c
  sm : LsSm l
theorem ArgL.keep {w w' : World} {v : Value} {l : List Mb} (h : ArgL w v l) (hk : Keeps w w') : ArgL w' v l := ⟨h.sl.keep RMbN.stays hk, h.nil, h.cap, h.sm⟩

set_option maxHeartbeats 8000000 in
theorem call_archiveMakes (v : Value) (l : List Mb) (w : World) (ha : ArgL w v l) (hp : Stp w) (hm : MaxL w) :
    Calls Tryd.prog 4 #[v] w fun e w' => e = .returned (.bool true) ∧ Below w.heap.size w w' := by
  obtain ⟨al, bl, ol, cl, rfl, hal, hcl⟩ := ha.sl
  obtain ⟨mp, hmp⟩ : ∃ n, l.length = n := ⟨_, rfl⟩
  have hcap := ha.cap _ _ _ rfl
  have hlen := ha.sm.len
  rw [hmp] at hal ha hcap hlen ⊢
  have HM := Lib.hid hmp
  have HA := Lib.hid ha
  have HP := Lib.hid hp
  have HMx := Lib.hid hm
  clear hmp ha hp hm hcl
  go_enter Tryd.func4, Tryd.ntmps4
  go_upto_if 11 with (fail)
  go_cut [0] (fun v0 wc => w = wc ∧ ∃ l' a n c, v0 = .slice a n c ∧ n = l'.length ∧ ArgL w v0 l')
  case first =>
    by_cases h120 : 120 < mp
    · have hal' := hal (by omega)
      subst hal'
      have hc2 : (120 : Int) ≤ cl := by omega
      have HL : Hid (ArgL w (.slice (some ⟨bl, ol, none⟩) 120 cl) (l.take 120)) := Lib.hid ⟨Sl.take HA.out.sl (by omega) cl, (fun n c e => by cases e), (fun a n c e => by cases e; omega), ⟨by rw [List.length_take]; omega, fun m hm => HA.out.sm.mb m (List.mem_of_mem_take hm)⟩⟩
      have HLn : Hid (120 = (l.take 120).length) := Lib.hid (by rw [List.length_take, HM.out]; omega)
      clear hal
      go_wp2
      go_meet
      case rel => exact ⟨rfl, _, _, _, _, rfl, HLn.out, HL.out⟩
    · go_wp2
      go_meet
      case rel => exact ⟨rfl, l, al, mp, cl, rfl, HM.out.symm, HA.out⟩
  case rest =>
    obtain ⟨rfl, l', a0, n0, c0, rfl, hn0, ha0⟩ := hcut
    have HA0 := Lib.hid ha0
    have HN0 := Lib.hid hn0
    have hcap0 := ha0.cap _ _ _ rfl
    have hlen0 := ha0.sm.len
    rw [← hn0] at hlen0
    clear ha0 hal hn0 HA HM hcap hlen
    cases hg : goodB l' with
    | true =>
      have HG := Lib.hid hg
      have HMl := Lib.hid (makeB_len_le hg HA0.out.sm)
      clear hg
      go_step; go_step
      go_wp2_with (first
        | (go_at_call 14; refine (call_twin _ l' w HA0.out.sl HA0.out.nil (LsSm.short HA0.out.sm)).mono ?_; rintro e w1 ⟨⟨v1, L1, rfl, ht1⟩, hb1⟩; have HT1 := Lib.hid (TwinS.mb ht1); have HB1 := Lib.hid hb1; clear ht1 hb1)
        | (go_at_call 13; refine (call_rmake l' v1 w1 HT1.out HA0.out.sm).mono ?_; rintro e w2 ⟨h2, hb2⟩; rw [if_pos HG.out] at h2; obtain ⟨v2, rfl, ho2⟩ := h2; have HO2 := Lib.hid ho2; have HB2 := Lib.hid (below_after HB1.out hb2); have HA2 := Lib.hid (HA0.out.keep (keeps_below HB2.out)); clear ho2 hb2)
        | (go_at_call 15; refine (call_roomy _ l' w2 HA2.out.sl HA2.out.nil (LsSm.short HA2.out.sm)).mono ?_; rintro e w3 ⟨⟨g3, c3, vm3, rfl, hc3, hs3, hm3⟩, hb3⟩; rw [← HN0.out] at hc3 hs3 ⊢; have HS3 := Lib.hid hs3; have HM3 := Lib.hid hm3; have HO3 := Lib.hid (own_below HO2.out hb3); have HB3 := Lib.hid (below_after HB2.out hb3); have HTk3 : Hid (Sl RMb 5 w3 (.slice (some ⟨g3, 0, none⟩) n0 c3) l') := Lib.hid (by have h := Sl.take hs3 (k := n0) (by omega) c3; rw [List.take_left' HN0.out.symm] at h; exact h); clear hs3 hm3 hb3)
        | (go_at_call 16; refine (call_make l' _ w3 HTk3.out HA0.out.sm (HP.out.below HB3.out) (HMx.out.below HB3.out)).mono ?_; intro e w4 h4; rw [MakePost.good HG.out] at h4; obtain ⟨⟨v4, rfl, ho4⟩, hb4⟩ := h4; have HO4 := Lib.hid (own_bytes ho4); have HO5 := Lib.hid (own_bytes (own_below HO3.out hb4)); have HB4 := Lib.hid (below_after HB3.out hb4); have HS4 := Lib.hid (HS3.out.keep RMb.stays (keeps_below hb4)); have HM4 := Lib.hid (HM3.out.keep RPcs.stays (keeps_below hb4)); have HT4 := Lib.hid (HTk3.out.keep RMb.stays (keeps_below hb4)); clear ho4 hb4)
        | (go_at_call 17; refine (call_alike _ _ _ w4 HO4.out HO5.out HMl.out).mono ?_; rintro e w5 ⟨rfl, hb5⟩; have HB5 := Lib.hid (below_after HB4.out hb5); have HS5 := Lib.hid (HS4.out.keep RMb.stays (keeps_below hb5)); have HM5 := Lib.hid (HM4.out.keep RPcs.stays (keeps_below hb5)); have HT5 := Lib.hid (HT4.out.keep RMb.stays (keeps_below hb5)); have HA5 := Lib.hid (HA0.out.keep (keeps_below HB5.out)); clear hb5)
        | (go_at_call 18; refine (call_same _ _ l' w5 HT5.out (Sl.mb HA5.out.sl) (LsSm.short HA0.out.sm)).mono ?_; rintro e w6 ⟨rfl, hb6⟩; have HB6 := Lib.hid (below_after HB5.out hb6); have HS6 := Lib.hid (HS5.out.keep RMb.stays (keeps_below hb6)); have HM6 := Lib.hid (HM5.out.keep RPcs.stays (keeps_below hb6)); clear hb6)
        | (go_at_call 19; refine (call_marked _ _ l' markM (l'.map (·.pieces)) w6 HS6.out (by rw [List.map_map]; exact HM6.out) rfl HA0.out.sm.len (by rw [List.length_map]; exact HA0.out.sm.len) (fun p hp => by obtain ⟨m, hm, rfl⟩ := List.mem_map.1 hp; exact (HA0.out.sm.mb m hm).pieces)).mono ?_; rintro e w7 ⟨rfl, hb7⟩; have HB7 := Lib.hid (below_after HB6.out hb7); clear hb7))
      go_ret
      exact ⟨rfl, HB7.out⟩
    | false =>
      have HG := Lib.hid hg
      clear hg
      go_step; go_step
      go_wp2_with (first
        | (go_at_call 14; refine (call_twin _ l' w HA0.out.sl HA0.out.nil (LsSm.short HA0.out.sm)).mono ?_; rintro e w1 ⟨⟨v1, L1, rfl, ht1⟩, hb1⟩; have HT1 := Lib.hid (TwinS.mb ht1); have HB1 := Lib.hid hb1; clear ht1 hb1)
        | (go_at_call 13; refine (call_rmake l' v1 w1 HT1.out HA0.out.sm).mono ?_; rintro e w2 ⟨h2, hb2⟩; rw [if_neg (by rw [HG.out]; simp)] at h2; obtain rfl := h2; have HB2 := Lib.hid (below_after HB1.out hb2); have HA2 := Lib.hid (HA0.out.keep (keeps_below HB2.out)); clear hb2)
        | (go_at_call 15; refine (call_roomy _ l' w2 HA2.out.sl HA2.out.nil (LsSm.short HA2.out.sm)).mono ?_; rintro e w3 ⟨⟨g3, c3, vm3, rfl, hc3, hs3, hm3⟩, hb3⟩; rw [← HN0.out] at hc3 hs3 ⊢; have HS3 := Lib.hid hs3; have HM3 := Lib.hid hm3; have HB3 := Lib.hid (below_after HB2.out hb3); have HTk3 : Hid (Sl RMb 5 w3 (.slice (some ⟨g3, 0, none⟩) n0 c3) l') := Lib.hid (by have h := Sl.take hs3 (k := n0) (by omega) c3; rw [List.take_left' HN0.out.symm] at h; exact h); clear hs3 hm3 hb3)
        | (go_at_call 16; refine (call_make l' _ w3 HTk3.out HA0.out.sm (HP.out.below HB3.out) (HMx.out.below HB3.out)).mono ?_; intro e w4 h4; rw [MakePost.bad HG.out] at h4; obtain ⟨rfl, hb4⟩ := h4; have HB4 := Lib.hid (below_after HB3.out hb4); have HS4 := Lib.hid (HS3.out.keep RMb.stays (keeps_below hb4)); have HM4 := Lib.hid (HM3.out.keep RPcs.stays (keeps_below hb4)); have HT4 := Lib.hid (HTk3.out.keep RMb.stays (keeps_below hb4)); clear hb4)
        | (go_at_call 17; refine (call_alike _ _ [] w4 (nil_bytes w4) (nil_bytes w4) (by simp)).mono ?_; rintro e w5 ⟨rfl, hb5⟩; have HB5 := Lib.hid (below_after HB4.out hb5); have HS5 := Lib.hid (HS4.out.keep RMb.stays (keeps_below hb5)); have HM5 := Lib.hid (HM4.out.keep RPcs.stays (keeps_below hb5)); have HT5 := Lib.hid (HT4.out.keep RMb.stays (keeps_below hb5)); have HA5 := Lib.hid (HA0.out.keep (keeps_below HB5.out)); clear hb5)
        | (go_at_call 18; refine (call_same _ _ l' w5 HT5.out (Sl.mb HA5.out.sl) (LsSm.short HA0.out.sm)).mono ?_; rintro e w6 ⟨rfl, hb6⟩; have HB6 := Lib.hid (below_after HB5.out hb6); have HS6 := Lib.hid (HS5.out.keep RMb.stays (keeps_below hb6)); have HM6 := Lib.hid (HM5.out.keep RPcs.stays (keeps_below hb6)); clear hb6)
        | (go_at_call 19; refine (call_marked _ _ l' markM (l'.map (·.pieces)) w6 HS6.out (by rw [List.map_map]; exact HM6.out) rfl HA0.out.sm.len (by rw [List.length_map]; exact HA0.out.sm.len) (fun p hp => by obtain ⟨m, hm, rfl⟩ := List.mem_map.1 hp; exact (HA0.out.sm.mb m hm).pieces)).mono ?_; rintro e w7 ⟨rfl, hb7⟩; have HB7 := Lib.hid (below_after HB6.out hb7); clear hb7))
      go_ret
      exact ⟨rfl, HB7.out⟩
end Go.Proofs.YtlecpjfggoehdaaDoor.Ar
