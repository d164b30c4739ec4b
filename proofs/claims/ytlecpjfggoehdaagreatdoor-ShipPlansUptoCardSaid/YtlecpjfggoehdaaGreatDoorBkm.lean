/- Bk Bm -/
import Derived.Test.YtlecpjfggoehdaaGreatDoorOpS
import Derived.Deep.DeepCutAuto
/- Archive: the chapter's example, made and opened. Archive: what each statement begins with. -/
set_option linter.unusedVariables false
set_option linter.unusedSimpArgs false
set_option maxRecDepth 100000
namespace Go.Proofs.YtlecpjfggoehdaaGreatDoor.Ar
open Go.RowKit Go.Sort Go.Lib Go.Proofs.YtlecpjfggoehdaaGreatDoor.Rs

def xB : List UInt8 := 120 :: List.replicate 511 0
def exampleL : List Mb := [⟨2, [100], [], 0, []⟩, ⟨1, [100, 47, 102], [], 600, [⟨0, xB⟩]⟩, ⟨3, [103], [100, 47, 102], 0, []⟩]
def zeros512 : List Value := List.replicate 512 (.int .u8 0)
theorem zeros512_get (j : Nat) (h : j < 512) : zeros512[j]? = some (.int .u8 0) := by rw [zeros512, List.getElem?_replicate, if_pos h]
theorem make512 (w : World) : (Instr.makeSlice 22 (.int .i64 512) (.int .i64 512)).run Tryz.prog w = .ok (.slice (some ⟨w.heap.size, 0, none⟩) 512 512) (w.alloc (.cells zeros512.toArray 5)) := by kernel_rfl
theorem x_row : zeros512.set 0 (.int .u8 120) = xB.map byteV := by
  show Value.int .u8 120 :: List.replicate 511 (Value.int .u8 0) = byteV 120 :: (List.replicate 511 (0 : UInt8)).map byteV
  rw [List.map_replicate]
  rfl
theorem x_len : xB.length = 512 := by rw [xB, List.length_cons, List.length_replicate]
theorem example_good : goodB exampleL = true := by decide +kernel
theorem example_len : (makeB exampleL).length = 664 := by decide +kernel
theorem example_magic : (makeB exampleL).take 8 = magicB := by decide +kernel
theorem example_three : (makeB exampleL)[8]? = some 3 := by decide +kernel
theorem example_sm : LsSm exampleL := ⟨by decide, fun m hm => by
  simp only [exampleL, List.mem_cons, List.not_mem_nil, or_false] at hm
  rcases hm with rfl | rfl | rfl
  · exact ⟨by decide, by decide, by decide, by simp⟩
  · exact ⟨by decide, by decide, by decide, fun p hp => by rw [List.mem_singleton.1 hp]; decide +kernel⟩
  · exact ⟨by decide, by decide, by decide, by simp⟩⟩
theorem nil_pc (w : World) : Sl RPc 2 w (.slice none 0 0) [] := ⟨none, 0, 0, 0, rfl, fun h => by simp at h, fun j x hj => by simp at hj⟩
/-- Open, of what Make made -/
theorem make_hsm {l : List Mb} (hg : goodB l = true) (hs : LsSm l) (c : List UInt8) : ∀ i pre k m k', i < numN (makeB l ++ c) 8 → parse (makeB l ++ c) i = some (pre, k) → pMem (makeB l ++ c) k = some (m, k') → MbSm m := fun i pre k m k' hi hp hm => by
  have hl : l.length ≤ 8192 := by rw [goodB, Bool.and_eq_true] at hg; exact of_decide_eq_true hg.1
  have h64 : 64 ≤ (makeB l).length := by rw [make_len]; omega
  have hn : numN (makeB l ++ c) 8 = l.length := by rw [numN, numAt_left _ _ _ (by omega), ← numN, make_num (by omega)]
  rw [hn] at hi
  obtain ⟨K, hK, _, _⟩ := pMem_raw hm
  have hq := parseR_app c (parseR_make (good_fits hg hs.mb) (i + 1) (by omega))
  rw [parseR, (parse_R (by rw [List.length_append]; omega) hp).1, Option.bind_some] at hq
  simp only at hq
  rw [hK, Option.map_some] at hq
  injection hq with hq
  injection hq with hq _
  have hm2 : m ∈ l.take (i + 1) := by rw [← hq]; simp
  exact hs.mb m (List.mem_of_mem_take hm2)
theorem make_hsm0 {l : List Mb} (hg : goodB l = true) (hs : LsSm l) : ∀ i pre k m k', i < numN (makeB l) 8 → parse (makeB l) i = some (pre, k) → pMem (makeB l) k = some (m, k') → MbSm m := by
  have h := make_hsm hg hs []
  rw [List.append_nil] at h
  exact h
theorem mbR_of {l : List Mb} {w : World} {v : Value} (hv : Sl RMb 5 w v l) (hs : LsSm l) : ∀ m ∈ l, MbR m := fun m hm => by
  obtain ⟨a, b, o, c, rfl, ha, hc⟩ := hv
  obtain ⟨j, hj⟩ := List.getElem?_of_mem hm
  obtain ⟨vp, _, _, _, _, _, hw⟩ := hc j m hj
  obtain ⟨a', b', o', c', _, _, hp⟩ := hw.pieces
  refine ⟨hw.kind, hw.size, fun p hp2 => ?_, hs.mb m hm⟩
  obtain ⟨i, hi⟩ := List.getElem?_of_mem hp2
  exact (hp i p hi).2.2
end Go.Proofs.YtlecpjfggoehdaaGreatDoor.Ar

set_option linter.unusedVariables false
set_option linter.unusedSimpArgs false
set_option maxRecDepth 100000
namespace Go.Proofs.YtlecpjfggoehdaaGreatDoor.Ar
open Go.RowKit Go.Sort Go.Lib Go.Proofs.YtlecpjfggoehdaaGreatDoor.Rs

theorem own_sl {base : Nat} {w : World} {v : Value} {l : List UInt8} (h : Own base w v l) : Sl RByte 1 w v l := own_bytes h
/-- what is asked of the example's bytes -/
theorem first_facts {base : Nat} {w : World} {v : Value} (h : Own base w v (makeB exampleL)) : ∃ g c, v = .slice (some ⟨g, 0, none⟩) 664 c ∧ (664 : Int) ≤ c ∧ w.cell? ⟨g, 8, none⟩ = some (.int .u8 3) ∧
    (convert 22 9 (.slice (some ⟨g, 0, none⟩) 8 c)).run Tryz.prog w = .ok (.string (bs magicB)) w := by
  obtain ⟨g, c, e, _, _, hc, hcell, _⟩ := own_form h (by rw [example_len]; decide)
  rw [example_len] at e hc
  have hget : ∀ j x, (makeB exampleL)[j]? = some x → w.cell? ⟨g, j, none⟩ = some (byteV x) := fun j x hj => hcell j _ (by rw [List.getElem?_map, hj]; rfl)
  refine ⟨g, c, e, by omega, hget 8 3 example_three, ?_⟩
  have h8 := conv_txt (w := w) (B := g) (o := 0) (c := c) (l := magicB) (fun j x hj => by
    rw [Nat.zero_add]
    refine hget j x ?_
    rw [← example_magic, List.getElem?_take] at hj
    split at hj
    · exact hj
    · cases hj)
  exact h8
end Go.Proofs.YtlecpjfggoehdaaGreatDoor.Ar

/- Archive: the law ArchiveBack, walked. Archive: the law ArchiveWhole, walked. -/
set_option linter.unusedVariables false
set_option linter.unusedSimpArgs false
set_option maxRecDepth 100000
namespace Go.Proofs.YtlecpjfggoehdaaGreatDoor.Ar
open Go.RowKit Go.Sort Go.Lib Go.Proofs.YtlecpjfggoehdaaGreatDoor.Rs

theorem makeB_len13 {l : List Mb} (h : goodB l = true) (hl : LsSm l) : (makeB l).length ≤ 10000000000000 := by
  have hp := h
  rw [← pGood_eq] at hp
  obtain ⟨h1, h2⟩ := pGood_iff.1 hp
  have := out_le hl h1 (k := l.length) (fun j m _ hj => h2 j m hj)
  rw [List.take_of_length_le (Nat.le_refl _)] at this
  rw [make_len]
  omega
theorem opened_sm {b : List UInt8} {ms : List Mb} (h : pOpen b = some ms) (hb : b.length ≤ 1048576) : LsSm ms := by
  have h2 := parseR_count (open_parts h).2
  exact ⟨by omega, fun m hm => (opened_mb h hb m hm).sm⟩

end Go.Proofs.YtlecpjfggoehdaaGreatDoor.Ar

set_option linter.unusedVariables false
set_option linter.unusedSimpArgs false
set_option maxRecDepth 100000
namespace Go.Proofs.YtlecpjfggoehdaaGreatDoor.Ar
open Go.RowKit Go.Sort Go.Lib Go.Proofs.YtlecpjfggoehdaaGreatDoor.Rs

theorem makeB_len5 {l : List Mb} (h : goodB l = true) (hl : LsSm l) : (makeB l).length ≤ 5000000000064 := by
  have hp := h
  rw [← pGood_eq] at hp
  obtain ⟨h1, h2⟩ := pGood_iff.1 hp
  have := out_le hl h1 (k := l.length) (fun j m _ hj => h2 j m hj)
  rw [List.take_of_length_le (Nat.le_refl _)] at this
  rw [make_len]
  omega
theorem parse_short {b : List UInt8} (h : b.length < 64) : ∀ i pre k, parse b i = some (pre, k) → k = 64
  | 0, pre, k, e => by cases e; rfl
  | i + 1, pre, k, e => by
    rw [parse] at e
    obtain ⟨r, hr, e2⟩ := Option.bind_eq_some_iff.1 e
    obtain ⟨x, hx, e3⟩ := Option.map_eq_some_iff.1 e2
    have := parse_short h i r.1 r.2 hr
    rw [this, raw_short (by omega)] at hx
    cases hx
theorem cut_hsm {l : List Mb} (hg : goodB l = true) (hs : LsSm l) (n : Nat) : ∀ i pre k m k', i < numN ((makeB l).take n) 8 → parse ((makeB l).take n) i = some (pre, k) → pMem ((makeB l).take n) k = some (m, k') → MbSm m := fun i pre k m k' hi hp hm => by
  rcases Nat.lt_or_ge ((makeB l).take n).length 64 with h64 | h64
  · rw [parse_short h64 i pre k hp, raw_short (by omega)] at hm
    cases hm
  · have hl : l.length ≤ 8192 := by rw [goodB, Bool.and_eq_true] at hg; exact of_decide_eq_true hg.1
    have e := List.take_append_drop n (makeB l)
    have hn : numN ((makeB l).take n) 8 = l.length := by
      have h1 : numN ((makeB l).take n ++ (makeB l).drop n) 8 = numN ((makeB l).take n) 8 := by rw [numN, numAt_left _ _ _ (by omega), ← numN]
      rw [← h1, e, make_num (by omega)]
    rw [hn] at hi
    obtain ⟨K, hK, _, _⟩ := pMem_raw hm
    have hpR := parseR_app ((makeB l).drop n) (parse_R h64 hp).1
    have hKR := rawMem_app ((makeB l).drop n) hK
    rw [e] at hpR hKR
    have hq := parseR_make (good_fits hg hs.mb) (i + 1) (by omega)
    rw [parseR, hpR, Option.bind_some] at hq
    simp only at hq
    rw [hKR, Option.map_some] at hq
    injection hq with hq
    injection hq with hq _
    have hm2 : m ∈ l.take (i + 1) := by rw [← hq]; simp
    exact hs.mb m (List.mem_of_mem_take hm2)

theorem src_of {w : World} {a : Option Addr} {n c : Nat} {b : List UInt8} (h : Sl RByte 1 w (.slice a n c) b) : ∃ ad c', Value.slice a n c = .slice ad n c' ∧ (0 < n → ∃ g off, ad = some ⟨g, off, none⟩ ∧ ∀ j u, (b.map byteV)[j]? = some u → w.cell? ⟨g, off + j, none⟩ = some u) := by
  obtain ⟨a', b', o', c', e, ha, hc⟩ := h
  cases e
  refine ⟨_, _, rfl, fun h0 => ⟨b', o', ha h0, fun j u hj => ?_⟩⟩
  rw [List.getElem?_map, Option.map_eq_some_iff] at hj
  obtain ⟨z, hz, rfl⟩ := hj
  have := hc j z hz
  rw [Nat.mul_one] at this
  exact this
theorem own_two {base : Nat} {w : World} {v : Value} {b more : List UInt8} {n : Nat} (h : w.ownsRow base 5 1 v (b.length + n) (b.map byteV ++ more.map byteV)) (hn : more.length = n) : Own base w v (b ++ more) := by
  show World.ownsRow _ _ _ _ _ (b ++ more).length ((b ++ more).map byteV)
  rw [List.length_append, hn, List.map_append]
  exact h

end Go.Proofs.YtlecpjfggoehdaaGreatDoor.Ar
