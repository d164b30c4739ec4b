/- Archive: the chapter's example, made and opened. Archive: what each statement begins with. -/
import Derived.Test.YtlecpjfggoehdaaDoorOpS
set_option linter.unusedVariables false
set_option linter.unusedSimpArgs false
set_option maxRecDepth 100000
namespace Go.Proofs.YtlecpjfggoehdaaDoor.Ar
open Go.RowKit Go.Sort Go.Lib Go.Proofs.YtlecpjfggoehdaaDoor.Rs

def xB : List UInt8 := 120 :: List.replicate 511 0
def exampleL : List Mb := [⟨2, [100], [], 0, []⟩, ⟨1, [100, 47, 102], [], 600, [⟨0, xB⟩]⟩, ⟨3, [103], [100, 47, 102], 0, []⟩]
def zeros512 : List Value := List.replicate 512 (.int .u8 0)
theorem zeros512_get (j : Nat) (h : j < 512) : zeros512[j]? = some (.int .u8 0) := by rw [zeros512, List.getElem?_replicate, if_pos h]
theorem make512 (w : World) : (Instr.makeSlice 31 (.int .i64 512) (.int .i64 512)).run Tryd.prog w = .ok (.slice (some ⟨w.heap.size, 0, none⟩) 512 512) (w.alloc (.cells zeros512.toArray 5)) := by kernel_rfl
theorem x_row : zeros512.set 0 (.int .u8 120) = xB.map byteV := by
  show Value.int .u8 120 :: List.replicate 511 (Value.int .u8 0) = byteV 120 :: (List.replicate 511 (0 : UInt8)).map byteV
  rw [List.map_replicate]
  rfl
theorem x_len : xB.length = 512 := by rw [xB, List.length_cons, List.length_replicate]
set_option maxHeartbeats 1000000 in
theorem call_x (w : World) : Calls Tryd.prog 77 #[] w fun e w' => e = .returned (.string (bs xB)) ∧ Below w.heap.size w w' := by
  have hmk := make512
  have hr := Row.new w 5 zeros512
  have c0 := (show _ = some (Value.int .u8 0) from hr.cell 0)
  have f0 := hr.free 0
  have hr2 := Row.new w 5 (zeros512.set 0 (.int .u8 120))
  have hcv : (convert 31 9 (.slice (some ⟨w.heap.size, 0, none⟩) 512 512)).run Tryd.prog (w.alloc (.cells (zeros512.set 0 (.int .u8 120)).toArray 5)) = .ok (.string (bs xB)) (w.alloc (.cells (zeros512.set 0 (.int .u8 120)).toArray 5)) := by
    have h := conv_txt (w := w.alloc (.cells (zeros512.set 0 (.int .u8 120)).toArray 5)) (B := w.heap.size) (o := 0) (c := 512) (l := xB) (fun j x hj => by
      rw [Nat.zero_add, hr2.cell, x_row, List.getElem?_map, hj]; rfl)
    rw [x_len] at h
    exact h
  obtain ⟨X, hX⟩ : ∃ X, bs xB = X := ⟨_, rfl⟩
  rw [hX] at hcv ⊢
  clear hr hr2 hX
  go_enter Tryd.func77, Tryd.ntmps77
  go_wp2
  go_ret
  exact ⟨rfl, below_alloc1 _ _⟩
theorem example_good : goodB exampleL = true := by decide +kernel
theorem example_len : (makeB exampleL).length = 664 := by decide +kernel
theorem example_magic : (makeB exampleL).take 8 = magicB := by decide +kernel
theorem example_three : (makeB exampleL)[8]? = some 3 := by decide +kernel
theorem example_sm : LsSm exampleL := ⟨by decide, fun m hm => by
  simp only [exampleL, List.mem_cons, List.not_mem_nil, or_false] at hm
  rcases hm with rfl | rfl | rfl
  · exact ⟨by decide, by decide, by decide, by simp⟩
  · exact ⟨by decide, by decide, by decide, fun p hp => by rw [List.mem_singleton.1 hp]; decide +kernel⟩
  · exact ⟨by decide, by decide, by decide, by simp⟩⟩
theorem nil_pc (w : World) : Sl RPc 2 w (.slice none 0 0) [] := ⟨none, 0, 0, 0, rfl, fun h => by simp at h, fun j x hj => by simp at hj⟩
set_option maxHeartbeats 1000000 in
theorem call_example (w : World) : Calls Tryd.prog 50 #[] w fun e w' => ∃ v, e = .returned v ∧ Sl RMb 5 w' v exampleL ∧ Below w.heap.size w w' := by
  go_enter Tryd.func50, Tryd.ntmps50
  go_wp2_with (go_at_call 77; refine (call_x w).mono ?_; rintro e w1 ⟨rfl, hb1⟩; have HB1 := Lib.hid hb1; clear hb1)
  go_ret
  have r1 := (Row.new w1 82 [.int .i64 0, .string (bs xB)]).alloc (.cells #[.int .i64 2, .string ⟨#[100]⟩, .string ⟨#[]⟩, .int .i64 0, .slice none 0 0, .int .i64 1, .string ⟨#[100, 47, 102]⟩, .string ⟨#[]⟩, .int .i64 600, .slice (some ⟨w1.heap.size, 0, none⟩) 1 1, .int .i64 3, .string ⟨#[103]⟩, .string ⟨#[100, 47, 102]⟩, .int .i64 0, .slice none 0 0] 51)
  have r2 := row_new1 w1 (.cells #[.int .i64 0, .string (bs xB)] 82) 51 [.int .i64 2, .string ⟨#[100]⟩, .string ⟨#[]⟩, .int .i64 0, .slice none 0 0, .int .i64 1, .string ⟨#[100, 47, 102]⟩, .string ⟨#[]⟩, .int .i64 600, .slice (some ⟨w1.heap.size, 0, none⟩) 1 1, .int .i64 3, .string ⟨#[103]⟩, .string ⟨#[100, 47, 102]⟩, .int .i64 0, .slice none 0 0]
  refine ⟨_, rfl, ⟨_, w1.heap.size + 1, 0, 3, rfl, fun _ => rfl, fun j x hj => ?_⟩, below_after HB1.out (below_alloc2 w1 _ _)⟩
  have c := r2.cell
  have i0 : ∀ z : Int, 0 ≤ z → z ≤ 1000 → I64 z := fun z h1 h2 => ⟨by omega, by omega⟩
  match j, hj with
  | 0, hj =>
    cases hj
    exact ⟨.slice none 0 0, c 0, c 1, c 2, c 3, c 4, ⟨nil_pc _, i0 _ (by decide) (by decide), i0 _ (by decide) (by decide)⟩⟩
  | 1, hj =>
    cases hj
    refine ⟨.slice (some ⟨w1.heap.size, 0, none⟩) 1 1, c 5, c 6, c 7, c 8, c 9, ⟨⟨_, w1.heap.size, 0, 1, rfl, fun _ => rfl, fun j x hj => ?_⟩, i0 _ (by decide) (by decide), i0 _ (by decide) (by decide)⟩⟩
    match j, hj with
    | 0, hj =>
      cases hj
      exact ⟨r1.cell 0, r1.cell 1, i0 _ (by decide) (by decide)⟩
    | j + 1, hj => cases hj
  | 2, hj =>
    cases hj
    exact ⟨.slice none 0 0, c 10, c 11, c 12, c 13, c 14, ⟨nil_pc _, i0 _ (by decide) (by decide), i0 _ (by decide) (by decide)⟩⟩
  | j + 3, hj => cases hj

/-- Open, of what Make made -/
theorem make_hsm {l : List Mb} (hg : goodB l = true) (hs : LsSm l) (c : List UInt8) : ∀ i pre k m k', i < numN (makeB l ++ c) 8 → parse (makeB l ++ c) i = some (pre, k) → pMem (makeB l ++ c) k = some (m, k') → MbSm m := fun i pre k m k' hi hp hm => by
  have hl : l.length ≤ 8192 := by rw [goodB, Bool.and_eq_true] at hg; exact of_decide_eq_true hg.1
  have h64 : 64 ≤ (makeB l).length := by rw [make_len]; omega
  have hn : numN (makeB l ++ c) 8 = l.length := by rw [numN, numAt_left _ _ _ (by omega), ← numN, make_num (by omega)]
  rw [hn] at hi
  obtain ⟨K, hK, _, _⟩ := pMem_raw hm
  have hq := parseR_app c (parseR_make (good_fits hg hs.mb) (i + 1) (by omega))
  rw [parseR, (parse_R (by rw [List.length_append]; omega) hp).1, Option.bind_some] at hq
  simp only at hq
  rw [hK, Option.map_some] at hq
  injection hq with hq
  injection hq with hq _
  have hm2 : m ∈ l.take (i + 1) := by rw [← hq]; simp
  exact hs.mb m (List.mem_of_mem_take hm2)
theorem make_hsm0 {l : List Mb} (hg : goodB l = true) (hs : LsSm l) : ∀ i pre k m k', i < numN (makeB l) 8 → parse (makeB l) i = some (pre, k) → pMem (makeB l) k = some (m, k') → MbSm m := by
  have h := make_hsm hg hs []
  rw [List.append_nil] at h
  exact h
theorem mbR_of {l : List Mb} {w : World} {v : Value} (hv : Sl RMb 5 w v l) (hs : LsSm l) : ∀ m ∈ l, MbR m := fun m hm => by
  obtain ⟨a, b, o, c, rfl, ha, hc⟩ := hv
  obtain ⟨j, hj⟩ := List.getElem?_of_mem hm
  obtain ⟨vp, _, _, _, _, _, hw⟩ := hc j m hj
  obtain ⟨a', b', o', c', _, _, hp⟩ := hw.pieces
  refine ⟨hw.kind, hw.size, fun p hp2 => ?_, hs.mb m hm⟩
  obtain ⟨i, hi⟩ := List.getElem?_of_mem hp2
  exact (hp i p hi).2.2
end Go.Proofs.YtlecpjfggoehdaaDoor.Ar

set_option linter.unusedVariables false
set_option linter.unusedSimpArgs false
set_option maxRecDepth 100000
namespace Go.Proofs.YtlecpjfggoehdaaDoor.Ar
open Go.RowKit Go.Sort Go.Lib Go.Proofs.YtlecpjfggoehdaaDoor.Rs

theorem own_sl {base : Nat} {w : World} {v : Value} {l : List UInt8} (h : Own base w v l) : Sl RByte 1 w v l := own_bytes h
/-- what is asked of the example's bytes -/
theorem first_facts {base : Nat} {w : World} {v : Value} (h : Own base w v (makeB exampleL)) : ∃ g c, v = .slice (some ⟨g, 0, none⟩) 664 c ∧ (664 : Int) ≤ c ∧ w.cell? ⟨g, 8, none⟩ = some (.int .u8 3) ∧
    (convert 31 9 (.slice (some ⟨g, 0, none⟩) 8 c)).run Tryd.prog w = .ok (.string (bs magicB)) w := by
  obtain ⟨g, c, e, _, _, hc, hcell, _⟩ := own_form h (by rw [example_len]; decide)
  rw [example_len] at e hc
  have hget : ∀ j x, (makeB exampleL)[j]? = some x → w.cell? ⟨g, j, none⟩ = some (byteV x) := fun j x hj => hcell j _ (by rw [List.getElem?_map, hj]; rfl)
  refine ⟨g, c, e, by omega, hget 8 3 example_three, ?_⟩
  have h8 := conv_txt (w := w) (B := g) (o := 0) (c := c) (l := magicB) (fun j x hj => by
    rw [Nat.zero_add]
    refine hget j x ?_
    rw [← example_magic, List.getElem?_take] at hj
    split at hj
    · exact hj
    · cases hj)
  exact h8
set_option maxHeartbeats 1000000 in
theorem call_first (w : World) (hp : Stp w) (hm : MaxL w) : Calls Tryd.prog 22 #[] w fun e w' => e = .returned (.bool true) ∧ Below w.heap.size w w' := by
  have HP := Lib.hid hp
  have HMx := Lib.hid hm
  clear hp hm
  have hq : ((bs magicB).toList == [70, 85, 82, 82, 79, 87, 65, 82]) = true := by rw [bs_toList]; rfl
  obtain ⟨Y, hY⟩ : ∃ Y, bs magicB = Y := ⟨_, rfl⟩
  have HY := Lib.hid hY
  rw [hY] at hq
  clear hY
  go_enter Tryd.func22, Tryd.ntmps22
  go_wp2_with (first
    | (go_at_call 50; refine (call_example w3).mono ?_; rintro e w4 ⟨v4, rfl, hs4, hb4⟩; have HS4 := Lib.hid hs4; have HB4 := Lib.hid (below_after HB3.out hb4); have HM4 := Lib.hid ((HM3.out.below hb4).mb (mbR_of HS1.out example_sm)); clear hs4 hb4)
    | (go_at_call 50; refine (call_example w).mono ?_; rintro e w1 ⟨v1, rfl, hs1, hb1⟩; have HS1 := Lib.hid hs1; have HB1 := Lib.hid hb1; clear hs1 hb1)
    | (go_at_call 16; refine (call_make exampleL v1 w1 HS1.out example_sm (HP.out.below HB1.out) (HMx.out.below HB1.out)).mono ?_; intro e w2 h2; rw [MakePost.good example_good] at h2; obtain ⟨⟨v2, rfl, ho2⟩, hb2⟩ := h2; have HB2 := Lib.hid (below_after HB1.out hb2); have HO2 := Lib.hid ho2; obtain ⟨g, c, rfl, hc664, hg8, hcv⟩ := first_facts ho2; rw [HY.out] at hcv; clear ho2 hb2)
    | (go_at_call 21; refine (call_open _ (makeB exampleL) w2 (own_bytes HO2.out) (by rw [example_len]; decide) (own_cap HO2.out) (HP.out.below HB2.out) (HMx.out.below HB2.out) (make_hsm0 example_good example_sm)).mono ?_; intro e w3 h3; rw [OpenPost.some_iff (back example_good example_sm.mb)] at h3; obtain ⟨hb3, v3, L3, rfl, hm3⟩ := h3; have HB3 := Lib.hid (below_after HB2.out hb3); have HM3 := Lib.hid hm3; clear hm3 hb3 hg8 hcv)
    | (go_at_call 18; refine (call_same _ _ exampleL w4 HM4.out HS4.out (LsSm.short example_sm)).mono ?_; rintro e w5 ⟨rfl, hb5⟩; have HB5 := Lib.hid (below_after HB4.out hb5); clear hb5))
  go_ret
  exact ⟨rfl, HB5.out⟩
end Go.Proofs.YtlecpjfggoehdaaDoor.Ar
