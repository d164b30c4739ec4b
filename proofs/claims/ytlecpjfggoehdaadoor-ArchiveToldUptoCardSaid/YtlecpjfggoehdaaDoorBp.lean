/- Archive: the law ArchiveTold, walked. -/
import Derived.Test.YtlecpjfggoehdaaDoorBo
set_option linter.unusedVariables false
set_option linter.unusedSimpArgs false
set_option maxRecDepth 100000
namespace Go.Proofs.YtlecpjfggoehdaaDoor.Ar
open Go.RowKit Go.Sort Go.Lib Go.Proofs.YtlecpjfggoehdaaDoor.Rs

theorem call_turnedI (vb : Value) (b : List UInt8) (x y z : Int) (lo hi at' : Nat) (e1 : x = lo) (e2 : y = hi) (e3 : z = at') (mask : Int) (w : World) (hs : ArgB w vb b) (hl : b.length ≤ 100000) (hb0 : 0 < b.length) (h1 : lo ≤ 100000) (h2 : hi ≤ b.length) (h3 : at' ≤ 10000000) (m0 : 0 ≤ mask) (m1 : mask < 4294967296) :
    Calls Tryd.prog 23 #[vb, .int .i64 x, .int .i64 y, .int .i64 z, .int .u32 mask] w (TurnPost w b (lo * 8 + at') (hi * 8) (mbit mask)) := by
  subst e1 e2 e3
  exact call_turned vb b lo hi at' mask w hs hl hb0 h1 h2 h3 m0 m1
/-- the one member of the law -/
def nameM (s : List UInt8) : Mb := ⟨2, s, [], 0, []⟩
theorem name_good {s : List UInt8} (h : goodB [nameM s] = true) : 0 < s.length ∧ s.length ≤ 199 := by
  have hp := h
  rw [← pGood_eq] at hp
  have ha := (pGood_iff.1 hp).2 0 (nameM s) rfl
  rw [addAt, addOk] at ha
  split at ha
  · cases ha
  · rename_i ns hns
    have hlen : s.length ≤ 199 := (names_some (show namesB s = some ns from hns)).2.2
    refine ⟨?_, hlen⟩
    cases s with
    | nil => exact absurd h (by decide +kernel)
    | cons c r => simp
theorem name_len (s : List UInt8) : (makeB [nameM s]).length = 88 + s.length := by
  rw [make_len]
  simp only [List.map_cons, List.map_nil, List.flatten_cons, List.flatten_nil, List.append_nil, member_len]
  show 64 + ((innerB (nameM s)).length + 4) = _
  have : (innerB (nameM s)).length = 20 + s.length := by
    rw [innerB, List.length_append, front_len]
    simp [nameM]
  omega
theorem name_sm {s : List UInt8} (h : s.length ≤ 1048576) : LsSm [nameM s] := ⟨by simp, fun m hm => by
  rw [List.mem_singleton.1 hm]
  exact ⟨h, by simp [nameM], by simp [nameM], by simp [nameM]⟩⟩

theorem nil_own {base : Nat} {w : World} {v : Value} {l : List UInt8} (h : Own base w v l) (h0 : 0 < l.length) : NilOk v := by
  obtain ⟨g, c, rfl, _⟩ := own_form h h0
  exact fun n c e => by cases e
theorem turn_small {b : List UInt8} {o : Nat} {f : Nat → Bool} {n : Nat} (h : b.length = 88 + n) (hn : n ≤ 199) : (turnB b o f 32).length ≤ 1048576 := by rw [turnB_len]; omega

set_option maxHeartbeats 2000000 in
theorem call_archiveTold (s : List UInt8) (at0 mask : Int) (w : World) (hs : s.length ≤ 1048576) (m0 : 0 ≤ mask) (m1 : mask < 4294967296) (hp : Stp w) (hm : MaxL w) :
    Calls Tryd.prog 7 #[.string (bs s), .int .i64 at0, .int .u32 mask] w fun e w' => e = .returned (.bool true) ∧ Below w.heap.size w w' := by
  have HP := Lib.hid hp
  have HMx := Lib.hid hm
  have hsz := bs_size s
  obtain ⟨n, hn⟩ : ∃ n, s.length = n := ⟨_, rfl⟩
  have HN := Lib.hid hn
  rw [hn] at hs hsz
  have HSz := Lib.hid hsz
  clear hp hm hn hsz
  go_enter Tryd.func7, Tryd.ntmps7
  go_wp2_with fail
  refine (call_first w HP.out HMx.out).mono ?_
  rintro e w1 ⟨rfl, hb1⟩
  have HB1 := Lib.hid hb1
  clear hb1
  go_upto_region 3 with (fail)
  go_cut [23] (fun v23 wc => w1 = wc ∧ ∃ t : Bool, v23 = .bool t ∧ (t = false → ∃ k : Nat, at0 = k ∧ k ≤ 1048576))
  case first =>
    by_cases hc0 : at0 < 0
    · have d0 : decide (at0 < 0) = true := decide_eq_true hc0
      go_wp2
      go_meet
      case rel => exact ⟨rfl, true, rfl, fun h => by cases h⟩
    · have d0 : decide (at0 < 0) = false := decide_eq_false hc0
      obtain ⟨k, rfl⟩ := Int.eq_ofNat_of_zero_le (show 0 ≤ at0 by omega)
      by_cases hk : 1048576 < k
      · have d1 : decide ((1048576 : Int) < (k : Int)) = true := decide_eq_true (by omega)
        go_wp2
        go_meet
        case rel => exact ⟨rfl, true, rfl, fun h => by cases h⟩
      · have d1 : decide ((1048576 : Int) < (k : Int)) = false := decide_eq_false (by omega)
        go_wp2
        go_meet
        case rel => exact ⟨rfl, false, rfl, fun _ => ⟨k, rfl, by omega⟩⟩
  case rest =>
  obtain ⟨rfl, tt, rfl, htt⟩ := hcut
  have HTt := Lib.hid htt
  clear htt
  go_step
  go_cut [1] (fun v1 wc => w1 = wc ∧ ∃ k : Nat, v1 = .int .i64 k ∧ k ≤ 1048576)
  case first =>
    cases tt with
    | true =>
      go_wp2
      go_meet
      case rel => exact ⟨rfl, 0, rfl, by omega⟩
    | false =>
      obtain ⟨k, rfl, hk⟩ := HTt.out rfl
      go_wp2
      go_meet
      case rel => exact ⟨rfl, k, rfl, hk⟩
  case rest =>
  obtain ⟨rfl, k, rfl, hk⟩ := hcut
  clear HTt
  have HLs : Hid (LsSm [nameM s]) := Lib.hid (name_sm (by rw [HN.out]; exact hs))
  have HRl := Lib.hid (Row.new w1 51 [.int .i64 2, .string (bs s), .string ⟨#[]⟩, .int .i64 0, .slice none 0 0])
  have HSl : Hid (Sl RMb 5 (w1.alloc (.cells #[.int .i64 2, .string (bs s), .string ⟨#[]⟩, .int .i64 0, .slice none 0 0] 51)) (.slice (some ⟨w1.heap.size, 0, none⟩) 1 1) [nameM s]) := Lib.hid (by
    refine ⟨_, w1.heap.size, 0, 1, rfl, fun _ => rfl, fun j x hj => ?_⟩
    have c := HRl.out.cell
    match j, hj with
    | 0, hj =>
      cases hj
      exact ⟨.slice none 0 0, c 0, c 1, c 2, c 3, c 4, ⟨nil_pc _, ⟨by show (_ : Int) ≤ 2; decide, by show (2 : Int) ≤ _; decide⟩, ⟨by show (_ : Int) ≤ 0; decide, by show (0 : Int) ≤ _; decide⟩⟩⟩
    | j + 1, hj => cases hj)
  have HB1a := Lib.hid (below_after HB1.out (below_alloc1 w1 (.cells #[.int .i64 2, .string (bs s), .string ⟨#[]⟩, .int .i64 0, .slice none 0 0] 51)))
  clear HRl
  go_step; go_step
  cases hg : goodB [nameM s] with
  | false =>
    have HG := Lib.hid hg
    clear hg
    go_wp2_with (go_at_call 16; refine (call_make [nameM s] _ _ HSl.out HLs.out (HP.out.below HB1a.out) (HMx.out.below HB1a.out)).mono ?_; intro e w2 h2; rw [MakePost.bad HG.out] at h2; obtain ⟨rfl, hb2⟩ := h2; have HB2 := Lib.hid (below_after HB1a.out hb2); clear hb2)
    go_ret
    exact ⟨rfl, HB2.out⟩
  | true =>
    have HG := Lib.hid hg
    have HNm := Lib.hid (name_good hg)
    have hn0 : 0 < n := by have := HNm.out; have := HN.out; omega
    have hn199 : n ≤ 199 := by have := HNm.out; have := HN.out; omega
    have HMl : Hid ((makeB [nameM s]).length = 88 + n) := Lib.hid (by rw [name_len, HN.out])
    have hn8 : (0 : Int) < 8 * (n : Int) := by omega
    have hn84 : (0 : Int) ≤ 84 + (n : Int) := by omega
    clear hg
    go_wp2_with (go_at_call 16; refine (call_make [nameM s] _ _ HSl.out HLs.out (HP.out.below HB1a.out) (HMx.out.below HB1a.out)).mono ?_; intro e w2 h2; rw [MakePost.good HG.out] at h2; obtain ⟨⟨v2, rfl, ho2⟩, hb2⟩ := h2; have HB2 := Lib.hid (below_after HB1a.out hb2); have HA2 : Hid (ArgB w2 v2 (makeB [nameM s])) := Lib.hid ⟨own_bytes ho2, nil_own ho2 (by rw [HMl.out]; omega), own_cap ho2⟩; clear ho2 hb2)
    have hsz := HSz.out
    refine (call_turnedI v2 (makeB [nameM s]) _ _ _ 0 64 (k % 512) rfl rfl (by omega) mask w2 HA2.out (by rw [HMl.out]; omega) (by rw [HMl.out]; omega) (by omega) (by rw [HMl.out]; omega) (by omega) m0 m1).mono ?_
    intro e w3 h3
    obtain ⟨hb3, ⟨v3, rfl, ho3, hin3⟩ | rfl⟩ := h3
    · have HO3 := Lib.hid ho3
      have HB3 := Lib.hid (below_after HB2.out hb3)
      have HB23 := Lib.hid hb3
      have HNo3 : Hid (pOpen (turnB (makeB [nameM s]) (0 * 8 + k % 512) (mbit mask) 32) = none) := Lib.hid (turned_line (mbit_zero mask) (by omega))
      clear ho3 hb3 hin3
      go_wp2_with (go_at_call 21; refine (call_open v3 _ w3 (own_bytes HO3.out) (Nat.le_trans (turn_small HMl.out hn199) (by omega)) (own_cap HO3.out) (HP.out.below HB3.out) (HMx.out.below HB3.out) (open_sm (turn_small HMl.out hn199))).mono ?_; intro e w4 h4; rw [OpenPost.none_iff HNo3.out] at h4; obtain ⟨hb4, rfl⟩ := h4; have HBw := Lib.hid (below_after HB3.out hb4); have HBv := Lib.hid (below_after HB23.out hb4); clear hb4)
      have HA4 := Lib.hid (HA2.out.keep (keeps_below HBv.out))
      refine (call_turnedI v2 (makeB [nameM s]) _ _ _ 84 (84 + n) (k % (8 * n)) rfl (by rw [Int.natCast_add]; rfl) (by rw [Int.natCast_emod, Int.natCast_mul]; rfl) mask w4 HA4.out (by rw [HMl.out]; omega) (by rw [HMl.out]; omega) (by omega) (by rw [HMl.out]; omega) (Nat.le_trans (Nat.mod_le _ _) (by omega)) m0 m1).mono ?_
      intro e w6 h6
      obtain ⟨hb6, ⟨v6, rfl, ho6, hin6⟩ | rfl⟩ := h6
      · have HO6 := Lib.hid ho6
        have HB6 := Lib.hid (below_after HBw.out hb6)
        have HNo6 : Hid (pOpen (turnB (makeB [nameM s]) (84 * 8 + k % (8 * n)) (mbit mask) 32) = none) := Lib.hid (turned_member (mbit_zero mask) (by omega) (by rw [HMl.out]; omega))
        clear ho6 hb6 hin6
        go_wp2_with (go_at_call 21; refine (call_open v6 _ w6 (own_bytes HO6.out) (Nat.le_trans (turn_small HMl.out hn199) (by omega)) (own_cap HO6.out) (HP.out.below HB6.out) (HMx.out.below HB6.out) (open_sm (turn_small HMl.out hn199))).mono ?_; intro e w7 h7; rw [OpenPost.none_iff HNo6.out] at h7; obtain ⟨hb7, rfl⟩ := h7; have HB7 := Lib.hid (below_after HB6.out hb7); clear hb7)
        go_ret
        exact ⟨rfl, HB7.out⟩
      · have HB6 := Lib.hid (below_after HBw.out hb6)
        clear hb6
        go_wp2
        go_ret
        exact ⟨rfl, HB6.out⟩
    · have HBw := Lib.hid (below_after HB2.out hb3)
      have HBv := Lib.hid hb3
      clear hb3
      go_wp2_with fail
      have HA3 := Lib.hid (HA2.out.keep (keeps_below HBv.out))
      refine (call_turnedI v2 (makeB [nameM s]) _ _ _ 84 (84 + n) (k % (8 * n)) rfl (by rw [Int.natCast_add]; rfl) (by rw [Int.natCast_emod, Int.natCast_mul]; rfl) mask w3 HA3.out (by rw [HMl.out]; omega) (by rw [HMl.out]; omega) (by omega) (by rw [HMl.out]; omega) (Nat.le_trans (Nat.mod_le _ _) (by omega)) m0 m1).mono ?_
      intro e w6 h6
      obtain ⟨hb6, ⟨v6, rfl, ho6, hin6⟩ | rfl⟩ := h6
      · have HO6 := Lib.hid ho6
        have HB6 := Lib.hid (below_after HBw.out hb6)
        have HNo6 : Hid (pOpen (turnB (makeB [nameM s]) (84 * 8 + k % (8 * n)) (mbit mask) 32) = none) := Lib.hid (turned_member (mbit_zero mask) (by omega) (by rw [HMl.out]; omega))
        clear ho6 hb6 hin6
        go_wp2_with (go_at_call 21; refine (call_open v6 _ w6 (own_bytes HO6.out) (Nat.le_trans (turn_small HMl.out hn199) (by omega)) (own_cap HO6.out) (HP.out.below HB6.out) (HMx.out.below HB6.out) (open_sm (turn_small HMl.out hn199))).mono ?_; intro e w7 h7; rw [OpenPost.none_iff HNo6.out] at h7; obtain ⟨hb7, rfl⟩ := h7; have HB7 := Lib.hid (below_after HB6.out hb7); clear hb7)
        go_ret
        exact ⟨rfl, HB7.out⟩
      · have HB6 := Lib.hid (below_after HBw.out hb6)
        clear hb6
        go_wp2
        go_ret
        exact ⟨rfl, HB6.out⟩
theorem call_toldS (s : ByteArray) (at0 mask : Int) (w : World) (hs : s.data.toList.length ≤ 1048576) (m0 : 0 ≤ mask) (m1 : mask ≤ 4294967295) (hp : Stp w) (hm : MaxL w) :
    Calls Tryd.prog 7 #[.string s, .int .i64 at0, .int .u32 mask] w fun e w' => e = .returned (.bool true) ∧ Below w.heap.size w w' := by
  have h := call_archiveTold s.data.toList at0 mask w hs m0 (by omega) hp hm
  rw [show bs s.data.toList = s by simp [bs]] at h
  exact h
end Go.Proofs.YtlecpjfggoehdaaDoor.Ar
