/- RunStates: Quote, both. -/
import Derived.Test.YtlecpjfggoehdaaDoorRsB
import Derived.Test.YtlecpjfggoehdaaDoorPRunStatesx2
set_option linter.unusedVariables false
set_option linter.unusedSimpArgs false
namespace Go.Proofs.YtlecpjfggoehdaaDoor.Rs
open Go.RowKit Go.Sort Go.Lib Go.Proofs.YtlecpjfggoehdaaDoorW.PrintWords Go.Proofs.YtlecpjfggoehdaaDoor.PRunStates

def ti (l : List UInt8) : List Int := l.map fun c => (c.toNat : Int)
theorem ti_append (a b : List UInt8) : ti (a ++ b) = ti a ++ ti b := by simp [ti]
theorem ti_length (a : List UInt8) : (ti a).length = a.length := by simp [ti]
theorem strOfNums_ti (l : List UInt8) : strOfNums (ti l) = bs l := by
  unfold strOfNums ti bs
  simp [Function.comp_def]
theorem bt_bs {s : List UInt8} {i : Nat} {c : UInt8} (h : s[i]? = some c) : bt (bs s) (i : Int) = (c.toNat : Int) := by
  obtain ⟨hi, rfl⟩ := List.getElem?_eq_some_iff.1 h
  unfold bt
  rw [dif_pos (by rw [bs_size]; omega)]
  simp [bs, ByteArray.getElem_eq_getElem_data]

abbrev hexs : ByteArray := ⟨#[48, 49, 50, 51, 52, 53, 54, 55, 56, 57, 97, 98, 99, 100, 101, 102]⟩
theorem hexHi : ∀ n : Fin 256, bt hexs ((n.val : Int) / 16) = ((hexB ((UInt8.ofNat n.val) / 16)).toNat : Int) := by decide +kernel
theorem hexLo : ∀ n : Fin 256, bt hexs ((n.val : Int) % 16) = ((hexB ((UInt8.ofNat n.val) % 16)).toNat : Int) := by decide +kernel
theorem hexhi (c : UInt8) : bt hexs ((c.toNat : Int) / 16) = ((hexB (c / 16)).toNat : Int) := by simpa using hexHi ⟨c.toNat, c.toNat_lt⟩
theorem hexlo (c : UInt8) : bt hexs ((c.toNat : Int) % 16) = ((hexB (c % 16)).toNat : Int) := by simpa using hexLo ⟨c.toNat, c.toNat_lt⟩

theorem ne_of {c : UInt8} {n : Nat} (hn : n < 256) (h : c ≠ UInt8.ofNat n) : ¬ (c.toNat : Int) = (n : Int) := by
  intro e
  apply h
  apply UInt8.toNat_inj.1
  simp only [UInt8.toNat_ofNat']
  omega

theorem quote_l0 (s : List UInt8) (hs : s.length ≤ 1048576) (d : Nat) : ∀ (k i : Nat) (a : List UInt8), i + d = s.length → 2 * d < k → a.length + 4 * d ≤ 5000000 →
    script_Quote.l0 k (bs s) (ti a) (s.length : Int) (i : Int) = some (bs (a ++ (s.drop i).flatMap escB ++ [34])) := by
  induction d with
  | zero =>
    intro k i a hi hk ha
    obtain ⟨k, rfl⟩ : ∃ m, k = m + 1 := ⟨k - 1, by omega⟩
    simp only [script_Quote.l0]
    rw [if_neg (by omega), if_pos (by rw [ti_length]; omega), show ([34] : List Int) = ti [34] from rfl, ← ti_append, strOfNums_ti, List.drop_of_length_le (by omega)]
    simp
  | succ d ih =>
    intro k i a hi hk ha
    obtain ⟨k, rfl⟩ : ∃ m, k = m + 2 := ⟨k - 2, by omega⟩
    obtain ⟨c, hc⟩ : ∃ c, s[i]? = some c := ⟨_, List.getElem?_eq_getElem (by omega)⟩
    have hd : (s.drop i).flatMap escB = escB c ++ (s.drop (i + 1)).flatMap escB := by
      obtain ⟨hi, rfl⟩ := List.getElem?_eq_some_iff.1 hc
      rw [List.drop_eq_getElem_cons hi, List.flatMap_cons]
    have hw : wrap64 ((i : Int) + 1) = ((i + 1 : Nat) : Int) := by unfold wrap64; omega
    have hl := c.toNat_lt
    have he := escB_le c
    rw [script_Quote.l0]
    rw [if_pos (by omega), if_pos (by omega), if_pos (by rw [bs_size]; omega), bt_bs hc]
    by_cases c10 : c = 10
    · subst c10
      rw [if_pos (by decide)]
      simp only [Option.bind_some]
      rw [if_pos (by rw [ti_length]; simp; omega), hw, show ([92, 110] : List Int) = ti [92, 110] from rfl, ← ti_append, ih (k + 1) (i + 1) _ (by omega) (by omega) (by simp; omega), hd]
      simp [escB]
    · have n10 := ne_of (n := 10) (by decide) c10
      rw [if_neg (by exact n10)]
      by_cases c34 : c = 34
      · subst c34
        rw [if_pos (by decide)]
        simp only [script_Quote.j1]
        rw [if_pos (by decide), if_pos (by rw [ti_length]; omega)]
        simp only [Option.bind_some]
        rw [if_pos (by simp [ti_length]; omega), hw, show ([92] : List Int) = ti [92] from rfl, show ([((34 : UInt8).toNat : Int)] : List Int) = ti [34] from rfl, ← ti_append, ← ti_append, ih k (i + 1) _ (by omega) (by omega) (by simp; omega), hd]
        simp [escB]
      · have n34 := ne_of (n := 34) (by decide) c34
        rw [if_neg (by exact n34)]
        simp only [script_Quote.j1]
        by_cases c92 : c = 92
        · subst c92
          rw [if_pos (by decide), if_pos (by rw [ti_length]; omega)]
          simp only [Option.bind_some]
          rw [if_pos (by simp [ti_length]; omega), hw, show ([92] : List Int) = ti [92] from rfl, show ([((92 : UInt8).toNat : Int)] : List Int) = ti [92] from rfl, ← ti_append, ← ti_append, ih k (i + 1) _ (by omega) (by omega) (by simp; omega), hd]
          simp [escB]
        · have n92 := ne_of (n := 92) (by decide) c92
          rw [if_neg (by simpa using n92)]
          by_cases pl : 32 ≤ c ∧ c ≤ 126
          · have p1 := UInt8.le_iff_toNat_le.1 pl.1
            have p2 := UInt8.le_iff_toNat_le.1 pl.2
            simp only [UInt8.reduceToNat] at p1 p2
            have e : escB c = [c] := by rw [escB, if_neg c10, if_neg (by simp [c34, c92]), if_pos pl]
            rw [if_pos (by omega), if_pos (by omega), if_pos (by rw [ti_length]; omega), hw, show ([(c.toNat : Int)] : List Int) = ti [c] from rfl, ← ti_append, ih k (i + 1) _ (by omega) (by omega) (by simp; omega), hd, e]
            simp
          · have e : escB c = [92, 120, hexB (c / 16), hexB (c % 16)] := by rw [escB, if_neg c10, if_neg (by simp [c34, c92]), if_neg pl]
            have q : ¬ ((c.toNat : Int) ≥ 32 ∧ (c.toNat : Int) ≤ 126) := by
              intro h
              exact pl ⟨UInt8.le_iff_toNat_le.2 (by simp only [UInt8.reduceToNat]; omega), UInt8.le_iff_toNat_le.2 (by simp only [UInt8.reduceToNat]; omega)⟩
            have b15 : Go.bits .and .u8 (c.toNat : Int) 15 = (c.toNat : Int) % 16 := u8_and15 _ (by omega) (by omega)
            have fin : (if 0 ≤ ((c.toNat : Int) / 16) then (if ((c.toNat : Int) / 16) < 16 then (if 0 ≤ (Go.bits .and .u8 (c.toNat : Int) 15) then (if (Go.bits .and .u8 (c.toNat : Int) 15) < 16 then ((some (([92, 120, bt hexs ((c.toNat : Int) / 16), bt hexs (Go.bits .and .u8 (c.toNat : Int) 15)] : List Int) : List Int)).bind fun y174 => (if (ti a).length + y174.length < 140737488355328 then (script_Quote.l0 k (bs s) (ti a ++ y174) (s.length : Int) (wrap64 ((i : Int) + 1))) else (none))) else (none)) else (none)) else (none)) else (none)) = some (bs (a ++ (s.drop i).flatMap escB ++ [34])) := by
              rw [if_pos (by omega), if_pos (by omega), b15, if_pos (by omega), if_pos (by omega), hexhi, hexlo]
              simp only [Option.bind_some]
              rw [if_pos (by simp [ti_length]; omega), hw, show ([92, 120, ((hexB (c / 16)).toNat : Int), ((hexB (c % 16)).toNat : Int)] : List Int) = ti [92, 120, hexB (c / 16), hexB (c % 16)] from rfl, ← ti_append, ih k (i + 1) _ (by omega) (by omega) (by simp; omega), hd, e]
              simp
            by_cases g : (c.toNat : Int) ≥ 32
            · rw [if_pos g, if_neg (fun h => q ⟨g, h⟩)]; exact fin
            · rw [if_neg g]; exact fin

theorem call_quote (s : List UInt8) (w : World) (h : s.length ≤ 1048576) : Calls Tryd.prog 60 #[.string (bs s)] w fun e w' => e = .returned (.string (bs (quoteB s))) ∧ Below w.heap.size w w' := by
  have hq := quote_l0 s h s.length (2 * s.length + 1) 0 [34] (by omega) (by omega) (by simp; omega)
  refine script_Quote.calls (2 * s.length + 1) (bs s) _ w ?_
  unfold script_Quote.f
  rw [bs_size]
  exact hq
end Go.Proofs.YtlecpjfggoehdaaDoor.Rs
