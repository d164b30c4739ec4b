/- RunStates: the reference's Quote. -/
import Derived.Test.YtlecpjfggoehdaaDoorRsQ
import Derived.Test.YtlecpjfggoehdaaDoorRsP
set_option linter.unusedVariables false
set_option linter.unusedSimpArgs false
namespace Go.Proofs.YtlecpjfggoehdaaDoor.Rs
open Go.RowKit Go.Sort Go.Lib Go.Proofs.YtlecpjfggoehdaaDoorW.PrintWords Go.Proofs.YtlecpjfggoehdaaDoor.PRunStates

theorem escFin : ∀ n : Fin 256, furrowref19_escaped.f (n.val : Int) = some (bs (escB (UInt8.ofNat n.val))) := by decide +kernel
theorem esc (c : UInt8) : furrowref19_escaped.f (c.toNat : Int) = some (bs (escB c)) := by simpa using escFin ⟨c.toNat, c.toNat_lt⟩

/-- The inner loop copies; D: what a round of the outer loop wants. -/
theorem rquote_l1 (s : List UInt8) (i : Nat) (t : List UInt8) (hi : i < 1048576) (ht : t.length ≤ 4) (d : Nat) : ∀ (k j : Nat) (a : List UInt8), j + d = t.length → d < k → a.length + d ≤ 5000000 →
    furrowref19_Quote.l1 k (bs s) (ti a) (i : Int) (bs t) (j : Int) = furrowref19_Quote.l0 (k - d - 1) (bs s) (ti (a ++ t.drop j)) ((i + 1 : Nat) : Int) := by
  induction d with
  | zero =>
    intro k j a hj hk ha
    obtain ⟨k, rfl⟩ : ∃ m, k = m + 1 := ⟨k - 1, by omega⟩
    simp only [furrowref19_Quote.l1]
    rw [if_neg (by rw [bs_size]; omega), List.drop_of_length_le (by omega), show wrap64 ((i : Int) + 1) = ((i + 1 : Nat) : Int) from by unfold wrap64; omega]
    simp
  | succ d ih =>
    intro k j a hj hk ha
    obtain ⟨k, rfl⟩ : ∃ m, k = m + 1 := ⟨k - 1, by omega⟩
    obtain ⟨c, hc⟩ : ∃ c, t[j]? = some c := ⟨_, List.getElem?_eq_getElem (by omega)⟩
    have hd : t.drop j = c :: t.drop (j + 1) := by
      obtain ⟨hj, rfl⟩ := List.getElem?_eq_some_iff.1 hc
      rw [List.drop_eq_getElem_cons hj]
    simp only [furrowref19_Quote.l1]
    rw [if_pos (by rw [bs_size]; omega), if_pos (by omega), if_pos (by rw [ti_length]; omega), bt_bs hc, show wrap64 ((j : Int) + 1) = ((j + 1 : Nat) : Int) from by unfold wrap64; omega,
      show ([(c.toNat : Int)] : List Int) = ti [c] from rfl, ← ti_append, ih k (j + 1) _ (by omega) (by omega) (by simp; omega), hd]
    simp [show k + 1 - (d + 1) - 1 = k - d - 1 by omega]

theorem rquote_l0 (s : List UInt8) (hs : s.length ≤ 1048576) (d : Nat) : ∀ (k i : Nat) (a : List UInt8), i + d = s.length → 10 * d < k → a.length + 4 * d ≤ 5000000 - 10 →
    furrowref19_Quote.l0 k (bs s) (ti a) (i : Int) = some (bs (a ++ (s.drop i).flatMap escB ++ [34])) := by
  induction d with
  | zero =>
    intro k i a hi hk ha
    obtain ⟨k, rfl⟩ : ∃ m, k = m + 1 := ⟨k - 1, by omega⟩
    simp only [furrowref19_Quote.l0]
    rw [if_neg (by rw [bs_size]; omega), if_pos (by rw [ti_length]; omega), show ([34] : List Int) = ti [34] from rfl, ← ti_append, strOfNums_ti, List.drop_of_length_le (by omega)]
    simp
  | succ d ih =>
    intro k i a hi hk ha
    obtain ⟨k, rfl⟩ : ∃ m, k = m + 1 := ⟨k - 1, by omega⟩
    obtain ⟨c, hc⟩ : ∃ c, s[i]? = some c := ⟨_, List.getElem?_eq_getElem (by omega)⟩
    have hd : (s.drop i).flatMap escB = escB c ++ (s.drop (i + 1)).flatMap escB := by
      obtain ⟨hi, rfl⟩ := List.getElem?_eq_some_iff.1 hc
      rw [List.drop_eq_getElem_cons hi, List.flatMap_cons]
    have he := escB_le c
    simp only [furrowref19_Quote.l0]
    rw [if_pos (by rw [bs_size]; omega), if_pos (by omega), bt_bs hc, esc]
    simp only [Option.bind_some]
    rw [show (0 : Int) = ((0 : Nat) : Int) from rfl, rquote_l1 s i (escB c) (by omega) he (escB c).length k 0 a (by omega) (by omega) (by omega), List.drop_zero,
      ih _ (i + 1) _ (by omega) (by omega) (by simp; omega), hd]
    simp

theorem call_rquote (s : List UInt8) (w : World) (h : s.length ≤ 1048576) : Calls Tryd.prog 81 #[.string (bs s)] w fun e w' => e = .returned (.string (bs (quoteB s))) ∧ Below w.heap.size w w' :=
  furrowref19_Quote.calls (10 * s.length + 1) (bs s) _ w (rquote_l0 s h s.length (10 * s.length + 1) 0 [34] (by omega) (by omega) (by simp; omega))
end Go.Proofs.YtlecpjfggoehdaaDoor.Rs
