
/- Archive: names. -/
import Derived.Test.YtlecpjfggoehdaaGreatDoorArH
set_option linter.unusedVariables false
set_option linter.unusedSimpArgs false
set_option maxRecDepth 100000
namespace Go.Proofs.YtlecpjfggoehdaaGreatDoor.Ar
open Go.RowKit Go.Sort Go.Lib Go.Proofs.YtlecpjfggoehdaaGreatDoor.Rs

def okByte (c : UInt8) : Bool := !(c == 0 || c == 47)
def validB (n : List UInt8) : Bool := !(n.length == 0 || decide (28 < n.length) || n == [46] || n == [46, 46]) && n.all okByte

theorem bs_toList (p : List UInt8) : (bs p).toList = p := by
  rw [ByteArray.toList_eq]
  simp [bs]

theorem bs_get {p : List UInt8} {k : Nat} {c : UInt8} (hc : p[k]? = some c) : ∀ h : k < (bs p).size, (bs p)[k]'h = c := fun h => by
  obtain ⟨h1, h2⟩ := List.getElem?_eq_some_iff.1 hc
  show (bs p).data[k] = c
  simpa [bs] using h2
theorem okByte_nat (c : UInt8) : okByte c = !(decide (c.toNat = 0) || decide (c.toNat = 47)) := by
  have h : ∀ d : UInt8, (c == d) = decide (c.toNat = d.toNat) := fun d => by
    rw [Bool.eq_iff_iff]
    simp [UInt8.toNat_inj]
  rw [okByte, h 0, h 47]
  rfl
theorem all_take_succ {f : UInt8 → Bool} {l : List UInt8} {k : Nat} {c : UInt8} (hc : l[k]? = some c) : (l.take (k + 1)).all f = ((l.take k).all f && f c) := by
  rw [List.take_add_one, hc, List.all_append]; simp
theorem all_false {f : UInt8 → Bool} {l : List UInt8} {k : Nat} {c : UInt8} (hc : l[k]? = some c) (h : f c = false) : l.all f = false := by
  rw [Bool.eq_false_iff]
  intro ha
  have := List.all_eq_true.1 ha c (List.mem_of_getElem? hc)
  rw [h] at this
  cases this
theorem call_rvalid (p : List UInt8) (hp : p.length ≤ 1048576) (w : World) :
    Calls Tryz.prog 100 #[.string (bs p)] w fun e w' => e = .returned (.bool (validB p)) ∧ w' = w := by
  obtain ⟨n, hn⟩ : ∃ n, p.length = n := ⟨_, rfl⟩
  have e0 := bs_toList p
  have z0 : (bs p).size = n := (bs_size p).trans hn
  by_cases h1 : p = []
  · have hv : validB p = false := by rw [h1]; rfl
    rw [hv]
    replace e0 := e0.trans h1
    clear h1 hv
    go_enter Tryz.func100, Tryz.ntmps100
    go_wp2
    go_ret
    exact ⟨rfl, rfl⟩
  · by_cases h2 : p = [46]
    · have hv : validB p = false := by rw [h2]; rfl
      rw [hv]
      replace e0 := e0.trans h2
      clear h1 h2 hv
      go_enter Tryz.func100, Tryz.ntmps100
      go_wp2
      go_ret
      exact ⟨rfl, rfl⟩
    · by_cases h3 : p = [46, 46]
      · have hv : validB p = false := by rw [h3]; rfl
        rw [hv]
        replace e0 := e0.trans h3
        clear h1 h2 h3 hv
        go_enter Tryz.func100, Tryz.ntmps100
        go_wp2
        go_ret
        exact ⟨rfl, rfl⟩
      · have q1 : p.isEmpty = false := by simpa using h1
        have q2 : (p == [46]) = false := by simpa using h2
        have q3 : (p == [46, 46]) = false := by simpa using h3
        by_cases h4 : n ≤ 28
        · have hv : validB p = p.all okByte := by
            have : ¬ 28 < n := by omega
            have q4 : (p.length == 0) = false := by simp [List.length_eq_zero_iff, h1]
            have q5 : decide (28 < p.length) = false := decide_eq_false (by omega)
            simp only [validB, q2, q3, q4, q5]
            simp
          have HV := Lib.hid hv
          have HN := Lib.hid hn
          clear hv hn
          go_enter Tryz.func100, Tryz.ntmps100
          go_wp2
          go_loopw [3] (fun i wr => ∃ (k : Nat), i = .int .i64 k ∧ k ≤ n ∧ (p.take k).all okByte = true ∧ wr = w)
            (fun i _ => n - (RowKit.intOf i).toNat)
          case atStart => exact ⟨0, rfl, Nat.zero_le _, rfl, rfl⟩
          case round =>
            obtain ⟨k, rfl, hk, hall, rfl⟩ := hrel
            have HA := Lib.hid hall
            clear hall
            by_cases hlt : k < n
            · obtain ⟨c, hc⟩ : ∃ c, p[k]? = some c := ⟨_, List.getElem?_eq_getElem (by have := HN.out; omega)⟩
              have HC := Lib.hid hc
              have hg := bs_get hc
              clear hc
              by_cases c0 : c.toNat = 0
              · have hv : validB p = false := by rw [HV.out]; exact all_false HC.out (by rw [okByte_nat, c0]; rfl)
                have HV2 := Lib.hid hv
                clear hv
                have b0 : ((c.toNat : Int) == 0) = true := by rw [c0]; rfl
                go_wp2
                go_ret
                exact ⟨by rw [HV2.out]; rfl, rfl⟩
              · have b0 : ((c.toNat : Int) == 0) = false := by rw [beq_eq_false_iff_ne]; omega
                by_cases c1 : c.toNat = 47
                · have hv : validB p = false := by rw [HV.out]; exact all_false HC.out (by rw [okByte_nat, c1]; rfl)
                  have HV2 := Lib.hid hv
                  clear hv
                  have b1 : ((c.toNat : Int) == 47) = true := by rw [c1]; rfl
                  go_wp2
                  go_ret
                  exact ⟨by rw [HV2.out]; rfl, rfl⟩
                · have b1 : ((c.toNat : Int) == 47) = false := by rw [beq_eq_false_iff_ne]; omega
                  have hok : okByte c = true := by rw [okByte_nat]; simp [c0, c1]
                  go_wp2
                  go_roundw
                  case rel => exact ⟨k + 1, by go_num, by omega, by rw [all_take_succ HC.out, HA.out, hok]; rfl, trivial⟩
                  case measure => simp [RowKit.intOf]; omega
            · obtain rfl : k = n := by omega
              have hv : validB p = true := by
                rw [HV.out]
                have h := HA.out
                rwa [List.take_of_length_le (by have := HN.out; omega)] at h
              have HV2 := Lib.hid hv
              clear hv
              go_wp2
              go_ret
              exact ⟨by rw [HV2.out]; rfl, rfl⟩
        · have hv : validB p = false := by simp [validB, hn]; omega
          rw [hv]
          clear hv
          go_enter Tryz.func100, Tryz.ntmps100
          go_wp2
          go_ret
          exact ⟨rfl, rfl⟩

theorem call_valid (p : List UInt8) (hp : p.length ≤ 1048576) (w : World) :
    Calls Tryz.prog 60 #[.string (bs p)] w fun e w' => e = .returned (.bool (validB p)) ∧ Below w.heap.size w w' := by
  obtain ⟨n, hn⟩ : ∃ n, p.length = n := ⟨_, rfl⟩
  have e0 := bs_toList p
  have z0 : (bs p).size = n := (bs_size p).trans hn
  by_cases h1 : n = 0
  · have hv : validB p = false := by rw [List.length_eq_zero_iff.1 (hn.trans h1)]; rfl
    rw [hv]
    clear hv
    go_enter Tryz.func60, Tryz.ntmps60
    go_wp2
    go_ret
    exact ⟨rfl, Below.refl _ _⟩
  · by_cases h4 : n ≤ 28
    · by_cases h2 : p = [46]
      · have hv : validB p = false := by rw [h2]; rfl
        rw [hv]
        replace e0 := e0.trans h2
        clear h2 hv
        go_enter Tryz.func60, Tryz.ntmps60
        go_wp2
        go_ret
        exact ⟨rfl, Below.refl _ _⟩
      · by_cases h3 : p = [46, 46]
        · have hv : validB p = false := by rw [h3]; rfl
          rw [hv]
          replace e0 := e0.trans h3
          clear h2 h3 hv
          go_enter Tryz.func60, Tryz.ntmps60
          go_wp2
          go_ret
          exact ⟨rfl, Below.refl _ _⟩
        · have q2 : (p == [46]) = false := by simpa using h2
          have q3 : (p == [46, 46]) = false := by simpa using h3
          have hv : validB p = p.all okByte := by
            have q4 : (p.length == 0) = false := by rw [hn]; simpa using h1
            have q5 : decide (28 < p.length) = false := decide_eq_false (by omega)
            simp only [validB, q2, q3, q4, q5]
            simp
          have HV := Lib.hid hv
          have HN := Lib.hid hn
          clear hv hn
          have n0 : 0 < n := by omega
          have n1 : ((n : Int) == 0) = false := by rw [beq_eq_false_iff_ne]; omega
          have n2 : ¬ (28 : Int) < n := by omega
          go_enter Tryz.func60, Tryz.ntmps60
          go_wp2_with (refine wpl_conv rfl _ rfl p rfl ?_; intro B1 c1 w1 hr1 hb1; rw [HN.out]; have HC := Lib.hid hr1; have HB := Lib.hid hb1; clear hr1 hb1)
          go_loopw [24] (fun i wr => ∃ (k : Nat), i = .int .i64 k ∧ k ≤ n ∧ (p.take k).all okByte = true ∧ wr = w1)
            (fun i _ => n - (RowKit.intOf i).toNat)
          case atStart => exact ⟨0, rfl, Nat.zero_le _, rfl, rfl⟩
          case round =>
            obtain ⟨k, rfl, hk, hall, rfl⟩ := hrel
            have HA := Lib.hid hall
            clear hall
            by_cases hlt : k < n
            · obtain ⟨c, hc⟩ : ∃ c, p[k]? = some c := ⟨_, List.getElem?_eq_getElem (by have := HN.out; omega)⟩
              have HCk := Lib.hid hc
              have hcw := HC.out k c hc
              rw [Nat.zero_add] at hcw
              simp only [byteV] at hcw
              clear hc
              by_cases c0 : c.toNat = 0
              · have hv : validB p = false := by rw [HV.out]; exact all_false HCk.out (by rw [okByte_nat, c0]; rfl)
                have HV2 := Lib.hid hv
                clear hv
                have b0 : ((c.toNat : Int) == 0) = true := by rw [c0]; rfl
                go_wp2
                go_ret
                exact ⟨by rw [HV2.out]; rfl, HB.out⟩
              · have b0 : ((c.toNat : Int) == 0) = false := by rw [beq_eq_false_iff_ne]; omega
                by_cases c1 : c.toNat = 47
                · have hv : validB p = false := by rw [HV.out]; exact all_false HCk.out (by rw [okByte_nat, c1]; rfl)
                  have HV2 := Lib.hid hv
                  clear hv
                  have b1 : ((c.toNat : Int) == 47) = true := by rw [c1]; rfl
                  go_wp2
                  go_ret
                  exact ⟨by rw [HV2.out]; rfl, HB.out⟩
                · have b1 : ((c.toNat : Int) == 47) = false := by rw [beq_eq_false_iff_ne]; omega
                  have hok : okByte c = true := by rw [okByte_nat]; simp [c0, c1]
                  go_wp2
                  go_roundw
                  case rel => exact ⟨k + 1, by go_num, by omega, by rw [all_take_succ HCk.out, HA.out, hok]; rfl, trivial⟩
                  case measure => simp [RowKit.intOf]; omega
            · obtain rfl : k = n := by omega
              have hv : validB p = true := by
                rw [HV.out]
                have h := HA.out
                rwa [List.take_of_length_le (by have := HN.out; omega)] at h
              have HV2 := Lib.hid hv
              clear hv
              go_wp2
              go_ret
              exact ⟨by rw [HV2.out]; rfl, HB.out⟩
    · have hv : validB p = false := by simp [validB, hn]; omega
      rw [hv]
      clear hv
      go_enter Tryz.func60, Tryz.ntmps60
      go_wp2
      go_ret
      exact ⟨rfl, Below.refl _ _⟩
end Go.Proofs.YtlecpjfggoehdaaGreatDoor.Ar
