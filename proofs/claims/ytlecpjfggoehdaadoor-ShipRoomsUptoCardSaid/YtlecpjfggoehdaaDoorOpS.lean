/- Archive: the law ArchiveOpens, walked. -/
import Derived.Test.YtlecpjfggoehdaaDoorOpR
import Derived.Test.YtlecpjfggoehdaaDoorArTz
set_option linter.unusedVariables false
set_option linter.unusedSimpArgs false
set_option maxRecDepth 100000
namespace Go.Proofs.YtlecpjfggoehdaaDoor.Ar
open Go.RowKit Go.Sort Go.Lib Go.Proofs.YtlecpjfggoehdaaDoor.Rs

section
variable {ops : Array Oper} {rest : List Oper} {o : Oper} {a : Act} {Q : Exit → Act → World → Prop} {W : World}
/-- append([]byte{}, b...), the empty list laid -/
theorem wpl_copyb (hgd : o.guard = none) (s x : Operand) (ho : o.op = .call { callee := .builtin .append, args := #[s, x], argTypes := #[31, 31] }) (hs : a.eval s = .slice (some ⟨W.heap.size, 0, none⟩) 0 0) (vb : Value) (hx : a.eval x = vb) (b : List UInt8) (hb : Sl RByte 1 W vb b) (hnil : NilOk vb) (hl : b.length ≤ 10000000000000)
    (h : ∀ v' w', Own W.heap.size w' v' b → Below W.heap.size W w' → wpList Tryd.prog ops Q rest (a.put o.dst v') w') : wpList Tryd.prog ops Q (o :: rest) a (W.alloc (.cells #[] 5)) := by
  obtain ⟨i0, hi, hz0, hz1, hz2⟩ := info_parts info5
  have ho5 := World.ownsRow_made W #[] 0 (e := 5) (size := 1) (base := W.heap.size) (Nat.le_refl _) (by simp [maxLen]) rfl
  have hb2 := hb.keep RByte.stays (keeps_alloc W (.cells #[] 5))
  obtain ⟨av, bv, ov, cv, e, hav, hcv⟩ := hb2
  refine wpl_many 31 5 i0 _ 1 1 Tryd.underlying31 hi hz0 hz1 hz2 rfl (by decide) (n := 0) (xs := []) (base := W.heap.size) ho5 hgd s x ho hs vb hx (b.map byteV) b.length (by rw [List.length_map, Nat.mul_one]) hnil ⟨av, cv, e, fun h0 => ⟨bv, ov, hav h0, fun j u hj => ?_⟩⟩ (one_bytes _) (by rw [alloc_size]; omega) (by omega) (by decide) (fun v' w' h1 h2 h3 => h v' w' ?_ ?_)
  · rw [List.getElem?_map, Option.map_eq_some_iff] at hj
    obtain ⟨z, hz, rfl⟩ := hj
    have := hcv j z hz
    rw [Nat.mul_one] at this
    exact this
  · show World.ownsRow _ _ _ _ _ _ _
    rw [Nat.zero_add, List.nil_append] at h1
    exact h1
  · exact (below_alloc1 W (.cells #[] 5)).grown h2 (by rw [alloc_size]; omega) (fun r e => by cases e; exact Nat.le_refl _)
end
theorem OpenPost.some_iff {w w' : World} {b : List UInt8} {ms : List Mb} {e : Ending} (h : pOpen b = some ms) : OpenPost w b e w' ↔ Below w.heap.size w w' ∧ ∃ v L, e = .returned (.tuple #[v, .int .i64 0]) ∧ MemS w.heap.size w' v ms L := by unfold OpenPost; rw [h]
theorem OpenPost.none_iff {w w' : World} {b : List UInt8} {e : Ending} (h : pOpen b = none) : OpenPost w b e w' ↔ Below w.heap.size w w' ∧ e = .returned (.tuple #[.slice none 0 0, .int .i64 210]) := by unfold OpenPost; rw [h]
theorem opened_mb {b : List UInt8} {ms : List Mb} (h : pOpen b = some ms) (hb : b.length ≤ 1048576) : ∀ m ∈ ms, MbR m := parseR_mb hb (open_parts h).2
theorem open_sm {b : List UInt8} (hb : b.length ≤ 1048576) : ∀ i pre k m k', i < numN b 8 → parse b i = some (pre, k) → pMem b k = some (m, k') → MbSm m := fun i pre k m k' _ _ h => by
  obtain ⟨K, hK, _⟩ := pMem_raw h
  exact raw_small hK hb
theorem open_short {b : List UInt8} {ms : List Mb} (h : pOpen b = some ms) (hb : b.length ≤ 1048576) : LsSm' ms := by
  have h2 := parseR_count (open_parts h).2
  exact ⟨by omega, fun m hm => (opened_mb h hb m hm).sm.pieces⟩
def tail8 : List UInt8 := [1, 2, 3, 4, 5, 6, 7, 8]
/-- bytes as an argument -/
structure ArgB (w : World) (v : Value) (b : List UInt8) : Prop where
  sl : Sl RByte 1 w v b
  nil : NilOk v
  cap : ∀ a n c, v = .slice a n c → n ≤ c
theorem ArgB.keep {w w' : World} {v : Value} {b : List UInt8} (h : ArgB w v b) (hk : Keeps w w') : ArgB w' v b := ⟨h.sl.keep RByte.stays hk, h.nil, h.cap⟩

theorem own_cap {w : World} {base e size n : Nat} {v : Value} {xs : List Value} (h : w.ownsRow base e size v n xs) : ∀ a k c, v = .slice a k c → k ≤ c := fun a k c e => by
  subst e
  rcases h.2 with ⟨h, hn⟩ | ⟨g, cap, cur, h, _, _, hc, _⟩
  · cases h; exact Nat.le_refl _
  · cases h; exact hc
theorem tail8_get (k : Nat) (h : k < 8) : ∃ x : UInt8, tail8[k]? = some x ∧ (x.toNat : Int) = (k : Int) + 1 := by
  match k, h with
  | 0, _ | 1, _ | 2, _ | 3, _ | 4, _ | 5, _ | 6, _ | 7, _ => exact ⟨_, rfl, rfl⟩
theorem wrap8 (k : Nat) (h : k < 8) : IntKind.u8.wrap ((k : Int) + 1) = (k : Int) + 1 := by
  match k, h with
  | 0, _ | 1, _ | 2, _ | 3, _ | 4, _ | 5, _ | 6, _ | 7, _ => rfl
theorem nil_mb (w : World) : Sl RMb 5 w (.slice none 0 0) [] := ⟨none, 0, 0, 0, rfl, fun h => by simp at h, fun j x hj => by simp at hj⟩
theorem get_two {b t : List UInt8} {j : Nat} {x : UInt8} (hj : (b ++ t)[j]? = some x) : (b.map byteV ++ t.map byteV)[j]? = some (byteV x) := by rw [← List.map_append, List.getElem?_map, hj]; rfl
/-- the bytes with eight more behind them, sliced to what they were -/
structure Full (w : World) (g n c : Nat) (b : List UInt8) : Prop where
  cells : ∀ j x, (b ++ tail8)[j]? = some x → w.cell? ⟨g, j, none⟩ = some (byteV x)
  len : b.length = n
  cap : n + 8 ≤ c
theorem Full.keep {w w' : World} {g n c : Nat} {b : List UInt8} (h : Full w g n c b) (hk : Keeps w w') : Full w' g n c b := ⟨fun j x hj => hk _ _ _ (h.cells j x hj), h.len, h.cap⟩
theorem Full.sl {w : World} {g n c : Nat} {b : List UInt8} (h : Full w g n c b) : Sl RByte 1 w (.slice (some ⟨g, 0, none⟩) n c) b :=
  ⟨_, g, 0, c, by rw [h.len], fun _ => rfl, fun j x hj => by
    rw [Nat.zero_add, Nat.mul_one]
    exact h.cells j x (by rw [List.getElem?_append_left (List.getElem?_eq_some_iff.1 hj).1]; exact hj)⟩
theorem Full.at {w : World} {g n c : Nat} {b : List UInt8} (h : Full w g n c b) {k : Nat} (hk : k < 8) : w.cell? ⟨g, n + k, none⟩ = some (.int .u8 ((k : Int) + 1)) := by
  obtain ⟨x, hx, hv⟩ := tail8_get k hk
  have := h.cells (n + k) x (by rw [List.getElem?_append_right (by have := h.len; omega), h.len, Nat.add_sub_cancel_left]; exact hx)
  rw [this, byteV, hv]

set_option maxHeartbeats 2000000 in
theorem call_archiveOpens (v : Value) (b : List UInt8) (w : World) (ha : ArgB w v b) (hp : Stp w) (hm : MaxL w) :
    Calls Tryd.prog 5 #[v] w fun e w' => e = .returned (.bool true) ∧ Below w.heap.size w w' := by
  obtain ⟨al, bl, ol, cl, rfl, hal, hcl⟩ := ha.sl
  obtain ⟨n, hn⟩ : ∃ n, b.length = n := ⟨_, rfl⟩
  have hcap := ha.cap _ _ _ rfl
  rw [hn] at hal ha hcap ⊢
  have HN := Lib.hid hn
  have HA := Lib.hid ha
  have HP := Lib.hid hp
  have HMx := Lib.hid hm
  clear hn ha hp hm hcl
  by_cases hbig : 1048576 < n
  · clear hal
    go_enter Tryd.func5, Tryd.ntmps5
    go_wp2
    go_ret
    exact ⟨rfl, Below.refl _ _⟩
  · have hsm : n ≤ 1048576 := by omega
    clear hal
    have HLb : Hid (b.length ≤ 1048576) := Lib.hid (by rw [HN.out]; exact hsm)
    have HNl8 : ∀ g, Hid (NilOk (.slice (some ⟨g, 0, none⟩) 8 8)) := fun g => Lib.hid (fun n c e => by cases e)
    obtain ⟨i0, hi0, hz0, hs0, hb0⟩ := info_parts info5
    cases hpo : pOpen b with
    | some ms =>
      have HPo := Lib.hid hpo
      clear hpo
      go_enter Tryd.func5, Tryd.ntmps5
      go_wp2_with (first
        | (refine wpl_copyb rfl _ _ rfl rfl _ (by rfl) b HA.out.sl HA.out.nil (by rw [HN.out]; omega) ?_; intro v1 w1 ho1 hb1; have HO1 := Lib.hid ho1; have HB1 := Lib.hid hb1; have HA1 := Lib.hid (HA.out.keep (keeps_below hb1)); clear ho1 hb1)
        | (refine wpl_copyb rfl _ _ rfl rfl _ (by rfl) b HA1.out.sl HA.out.nil (by rw [HN.out]; omega) ?_; intro v2 w2 ho2 hb2; have HO2 := Lib.hid ho2; have HB2 := Lib.hid (below_after HB1.out hb2); have HO12 := Lib.hid (own_below HO1.out hb2); clear ho2 hb2)
        | (go_at_call 20; refine (call_ropen v2 b w2 (own_bytes HO2.out) HLb.out (own_cap HO2.out)).mono ?_; intro e w3 h3; rw [OpenPost.some_iff HPo.out] at h3; obtain ⟨hb3, vw, Lw, rfl, hw3⟩ := h3; have HW3 := Lib.hid hw3; clear hw3; have HB3 := Lib.hid (below_after HB2.out hb3); have HO13 := Lib.hid (own_below HO12.out hb3); have HA3 := Lib.hid (HA.out.keep (keeps_below HB3.out)); clear hb3)
        | (refine wpl_copyb rfl _ _ rfl rfl _ (by rfl) b HA3.out.sl HA.out.nil (by rw [HN.out]; omega) ?_; intro v4 w4 ho4 hb4; have HB4 := Lib.hid (below_after HB3.out hb4); have HO14 := Lib.hid (own_below HO13.out hb4); have HW4 := Lib.hid (HW3.out.below hb4); have HO4 : Hid ((w4.alloc (.cells #[.int .u8 1, .int .u8 2, .int .u8 3, .int .u8 4, .int .u8 5, .int .u8 6, .int .u8 7, .int .u8 8] 5)).ownsRow w3.heap.size 5 1 v4 n (b.map byteV)) := Lib.hid (by have h := own_below ho4 (below_alloc1 w4 (.cells #[.int .u8 1, .int .u8 2, .int .u8 3, .int .u8 4, .int .u8 5, .int .u8 6, .int .u8 7, .int .u8 8] 5)); rw [HN.out] at h; exact h); have HS4 : Hid (∃ ad c, Value.slice (some ⟨w4.heap.size, 0, none⟩) 8 8 = .slice ad 8 c ∧ (0 < 8 → ∃ g off, ad = some ⟨g, off, none⟩ ∧ ∀ j u, (tail8.map byteV)[j]? = some u → (w4.alloc (.cells #[.int .u8 1, .int .u8 2, .int .u8 3, .int .u8 4, .int .u8 5, .int .u8 6, .int .u8 7, .int .u8 8] 5)).cell? ⟨g, off + j, none⟩ = some u)) := Lib.hid ⟨_, _, rfl, fun _ => ⟨_, 0, rfl, fun j u hj => by rw [Nat.zero_add]; exact ((Row.new w4 5 [.int .u8 1, .int .u8 2, .int .u8 3, .int .u8 4, .int .u8 5, .int .u8 6, .int .u8 7, .int .u8 8]).cell j).trans hj⟩⟩; have HL4 : Hid (w3.heap.size ≤ (w4.alloc (.cells #[.int .u8 1, .int .u8 2, .int .u8 3, .int .u8 4, .int .u8 5, .int .u8 6, .int .u8 7, .int .u8 8] 5)).heap.size) := Lib.hid (by rw [alloc_size]; have := hb4.size; omega); have HBa : Hid (Below w.heap.size w (w4.alloc (.cells #[.int .u8 1, .int .u8 2, .int .u8 3, .int .u8 4, .int .u8 5, .int .u8 6, .int .u8 7, .int .u8 8] 5))) := Lib.hid (below_after HB4.out (below_alloc1 w4 _)); have HBf := Lib.hid (hb4.trans ((below_alloc1 w4 (.cells #[.int .u8 1, .int .u8 2, .int .u8 3, .int .u8 4, .int .u8 5, .int .u8 6, .int .u8 7, .int .u8 8] 5)).mono hb4.size)); clear ho4 hb4)
        | (at_builtin; refine wpl_many 31 5 i0 _ 1 1 Tryd.underlying31 hi0 hz0 hs0 hb0 rfl (by decide) HO4.out (by rfl) _ _ (by rfl) (by rfl) (.slice (some ⟨w4.heap.size, 0, none⟩) 8 8) (by rfl) (tail8.map byteV) 8 rfl (HNl8 _).out HS4.out (one_bytes _) HL4.out (by omega) (by decide) ?_; intro v5 w5 h1 h2 h3; have HB35 := Lib.hid (HBf.out.grown h2 HL4.out (fun r e => (HO4.out.lt r e).1)); have HB5 := Lib.hid (below_after HB3.out HB35.out); have HO15 := Lib.hid (own_below HO13.out HB35.out); have HW5 := Lib.hid (HW3.out.below HB35.out); obtain ⟨g5, c5, rfl, _, _, hc5, hcl5, _⟩ := own_form h1 (by omega); have HF5 : Hid (Full w5 g5 n c5 b) := Lib.hid ⟨fun j x hj => hcl5 j (byteV x) (get_two hj), HN.out, hc5⟩; have n5 : (n : Int) ≤ c5 := (by omega); clear h1 h2 h3 hcl5)
        | (go_at_call 21; refine (call_open _ b w5 HF5.out.sl (by rw [HN.out]; omega) (fun a k c e => by cases e; omega) (HP.out.below HB5.out) (HMx.out.below HB5.out) (open_sm HLb.out)).mono ?_; intro e w6 h6; rw [OpenPost.some_iff HPo.out] at h6; obtain ⟨hb6, vg, Lg, rfl, hg6⟩ := h6; have HG6 := Lib.hid hg6; have HW6 := Lib.hid (HW5.out.below hb6); clear hg6; have HB6 := Lib.hid (below_after HB5.out hb6); have HO16 := Lib.hid (own_below HO15.out hb6); have HF6 := Lib.hid (HF5.out.keep (keeps_below hb6)); clear hb6))


      go_loop [9] (fun i => ∃ k : Nat, i = .int .i64 k ∧ k ≤ 8) (fun i => 8 - (RowKit.intOf i).toNat)
      case atStart => exact ⟨0, rfl, Nat.zero_le _⟩
      case round =>
        obtain ⟨k, rfl, hk⟩ := hrel
        by_cases hlt : k < 8
        · have hcell := HF6.out.at hlt
          have hw8 := wrap8 k hlt
          have s0 : (0 : Int) ≤ (n : Int) + k := by omega
          have s1 : (n : Int) + k < ((n + 8 : Nat) : Int) := by omega
          go_wp2
          go_round
          case rel => exact ⟨k + 1, by go_num, by omega⟩
          case measure => simp [RowKit.intOf]; omega
        · obtain rfl : k = 8 := by omega
          go_wp2_with (first
            | (go_at_call 18; refine (call_same _ _ ms w6 (HG6.out.mb (opened_mb HPo.out HLb.out)) (HW6.out.mb (opened_mb HPo.out HLb.out)) (open_short HPo.out HLb.out)).mono ?_; rintro e w7 ⟨rfl, hb7⟩; have HB7 := Lib.hid (below_after HB6.out hb7); have HF7 := Lib.hid (HF6.out.keep (keeps_below hb7)); have HO17 := Lib.hid (own_below HO16.out hb7); clear hb7)
            | (go_at_call 17; refine (call_alike _ _ b w7 HF7.out.sl (own_bytes HO17.out) (by rw [HN.out]; omega)).mono ?_; rintro e w8 ⟨rfl, hb8⟩; have HB8 := Lib.hid (below_after HB7.out hb8); clear hb8))
          go_ret
          exact ⟨rfl, HB8.out⟩
    | none =>
      have HPo := Lib.hid hpo
      clear hpo
      go_enter Tryd.func5, Tryd.ntmps5
      go_wp2_with (first
        | (refine wpl_copyb rfl _ _ rfl rfl _ (by rfl) b HA.out.sl HA.out.nil (by rw [HN.out]; omega) ?_; intro v1 w1 ho1 hb1; have HO1 := Lib.hid ho1; have HB1 := Lib.hid hb1; have HA1 := Lib.hid (HA.out.keep (keeps_below hb1)); clear ho1 hb1)
        | (refine wpl_copyb rfl _ _ rfl rfl _ (by rfl) b HA1.out.sl HA.out.nil (by rw [HN.out]; omega) ?_; intro v2 w2 ho2 hb2; have HO2 := Lib.hid ho2; have HB2 := Lib.hid (below_after HB1.out hb2); have HO12 := Lib.hid (own_below HO1.out hb2); clear ho2 hb2)
        | (go_at_call 20; refine (call_ropen v2 b w2 (own_bytes HO2.out) HLb.out (own_cap HO2.out)).mono ?_; intro e w3 h3; rw [OpenPost.none_iff HPo.out] at h3; obtain ⟨hb3, rfl⟩ := h3; have HB3 := Lib.hid (below_after HB2.out hb3); have HO13 := Lib.hid (own_below HO12.out hb3); have HA3 := Lib.hid (HA.out.keep (keeps_below HB3.out)); clear hb3)
        | (refine wpl_copyb rfl _ _ rfl rfl _ (by rfl) b HA3.out.sl HA.out.nil (by rw [HN.out]; omega) ?_; intro v4 w4 ho4 hb4; have HB4 := Lib.hid (below_after HB3.out hb4); have HO14 := Lib.hid (own_below HO13.out hb4); skip; have HO4 : Hid ((w4.alloc (.cells #[.int .u8 1, .int .u8 2, .int .u8 3, .int .u8 4, .int .u8 5, .int .u8 6, .int .u8 7, .int .u8 8] 5)).ownsRow w3.heap.size 5 1 v4 n (b.map byteV)) := Lib.hid (by have h := own_below ho4 (below_alloc1 w4 (.cells #[.int .u8 1, .int .u8 2, .int .u8 3, .int .u8 4, .int .u8 5, .int .u8 6, .int .u8 7, .int .u8 8] 5)); rw [HN.out] at h; exact h); have HS4 : Hid (∃ ad c, Value.slice (some ⟨w4.heap.size, 0, none⟩) 8 8 = .slice ad 8 c ∧ (0 < 8 → ∃ g off, ad = some ⟨g, off, none⟩ ∧ ∀ j u, (tail8.map byteV)[j]? = some u → (w4.alloc (.cells #[.int .u8 1, .int .u8 2, .int .u8 3, .int .u8 4, .int .u8 5, .int .u8 6, .int .u8 7, .int .u8 8] 5)).cell? ⟨g, off + j, none⟩ = some u)) := Lib.hid ⟨_, _, rfl, fun _ => ⟨_, 0, rfl, fun j u hj => by rw [Nat.zero_add]; exact ((Row.new w4 5 [.int .u8 1, .int .u8 2, .int .u8 3, .int .u8 4, .int .u8 5, .int .u8 6, .int .u8 7, .int .u8 8]).cell j).trans hj⟩⟩; have HL4 : Hid (w3.heap.size ≤ (w4.alloc (.cells #[.int .u8 1, .int .u8 2, .int .u8 3, .int .u8 4, .int .u8 5, .int .u8 6, .int .u8 7, .int .u8 8] 5)).heap.size) := Lib.hid (by rw [alloc_size]; have := hb4.size; omega); have HBa : Hid (Below w.heap.size w (w4.alloc (.cells #[.int .u8 1, .int .u8 2, .int .u8 3, .int .u8 4, .int .u8 5, .int .u8 6, .int .u8 7, .int .u8 8] 5))) := Lib.hid (below_after HB4.out (below_alloc1 w4 _)); have HBf := Lib.hid (hb4.trans ((below_alloc1 w4 (.cells #[.int .u8 1, .int .u8 2, .int .u8 3, .int .u8 4, .int .u8 5, .int .u8 6, .int .u8 7, .int .u8 8] 5)).mono hb4.size)); clear ho4 hb4)
        | (at_builtin; refine wpl_many 31 5 i0 _ 1 1 Tryd.underlying31 hi0 hz0 hs0 hb0 rfl (by decide) HO4.out (by rfl) _ _ (by rfl) (by rfl) (.slice (some ⟨w4.heap.size, 0, none⟩) 8 8) (by rfl) (tail8.map byteV) 8 rfl (HNl8 _).out HS4.out (one_bytes _) HL4.out (by omega) (by decide) ?_; intro v5 w5 h1 h2 h3; have HB35 := Lib.hid (HBf.out.grown h2 HL4.out (fun r e => (HO4.out.lt r e).1)); have HB5 := Lib.hid (below_after HB3.out HB35.out); have HO15 := Lib.hid (own_below HO13.out HB35.out); skip; obtain ⟨g5, c5, rfl, _, _, hc5, hcl5, _⟩ := own_form h1 (by omega); have HF5 : Hid (Full w5 g5 n c5 b) := Lib.hid ⟨fun j x hj => hcl5 j (byteV x) (get_two hj), HN.out, hc5⟩; have n5 : (n : Int) ≤ c5 := (by omega); clear h1 h2 h3 hcl5)
        | (go_at_call 21; refine (call_open _ b w5 HF5.out.sl (by rw [HN.out]; omega) (fun a k c e => by cases e; omega) (HP.out.below HB5.out) (HMx.out.below HB5.out) (open_sm HLb.out)).mono ?_; intro e w6 h6; rw [OpenPost.none_iff HPo.out] at h6; obtain ⟨hb6, rfl⟩ := h6; have HB6 := Lib.hid (below_after HB5.out hb6); have HO16 := Lib.hid (own_below HO15.out hb6); have HF6 := Lib.hid (HF5.out.keep (keeps_below hb6)); clear hb6))
      go_loop [9] (fun i => ∃ k : Nat, i = .int .i64 k ∧ k ≤ 8) (fun i => 8 - (RowKit.intOf i).toNat)
      case atStart => exact ⟨0, rfl, Nat.zero_le _⟩
      case round =>
        obtain ⟨k, rfl, hk⟩ := hrel
        by_cases hlt : k < 8
        · have hcell := HF6.out.at hlt
          have hw8 := wrap8 k hlt
          have s0 : (0 : Int) ≤ (n : Int) + k := by omega
          have s1 : (n : Int) + k < ((n + 8 : Nat) : Int) := by omega
          go_wp2
          go_round
          case rel => exact ⟨k + 1, by go_num, by omega⟩
          case measure => simp [RowKit.intOf]; omega
        · obtain rfl : k = 8 := by omega
          go_wp2_with (first
            | (go_at_call 18; refine (call_same _ _ [] w6 (nil_mb w6) (nil_mb w6) ⟨by simp, by simp⟩).mono ?_; rintro e w7 ⟨rfl, hb7⟩; have HB7 := Lib.hid (below_after HB6.out hb7); have HF7 := Lib.hid (HF6.out.keep (keeps_below hb7)); have HO17 := Lib.hid (own_below HO16.out hb7); clear hb7)
            | (go_at_call 17; refine (call_alike _ _ b w7 HF7.out.sl (own_bytes HO17.out) (by rw [HN.out]; omega)).mono ?_; rintro e w8 ⟨rfl, hb8⟩; have HB8 := Lib.hid (below_after HB7.out hb8); clear hb8))
          go_ret
          exact ⟨rfl, HB8.out⟩
end Go.Proofs.YtlecpjfggoehdaaDoor.Ar
