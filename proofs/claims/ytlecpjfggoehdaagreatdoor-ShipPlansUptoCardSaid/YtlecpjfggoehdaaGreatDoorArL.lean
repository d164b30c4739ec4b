
/- Archive: zeros, the parent, a file's pieces. -/
import Derived.Test.YtlecpjfggoehdaaGreatDoorArK
import Derived.Test.YtlecpjfggoehdaaGreatDoorShelfT
import Derived.Lib.TrimByte
set_option linter.unusedVariables false
set_option linter.unusedSimpArgs false
set_option maxRecDepth 100000
namespace Go.Proofs.YtlecpjfggoehdaaGreatDoor.Ar
open Go.RowKit Go.Sort Go.Lib Go.Proofs.YtlecpjfggoehdaaGreatDoor.Rs

def zerosB (s : List UInt8) : Bool := s.all (· == 0)
theorem zero_nat (c : UInt8) : (c == 0) = decide (c.toNat = 0) := by
  rw [Bool.eq_iff_iff]
  simp [← UInt8.toNat_inj]
theorem trimB_zeros (l : List UInt8) : (Lib.trimB l 0 = []) ↔ zerosB l = true := by
  have h1 : ∀ m : List UInt8, m.dropWhile (· == 0) = [] ↔ ∀ a ∈ m, (a == 0) = true := fun m => by
    induction m with
    | nil => simp
    | cons a m ih =>
      rw [List.dropWhile_cons]
      split
      · rename_i h
        rw [ih]
        constructor
        · intro hh b hb
          rcases List.mem_cons.1 hb with rfl | hb
          · exact h
          · exact hh b hb
        · exact fun hh b hb => hh b (List.mem_cons_of_mem _ hb)
      · rename_i h
        constructor
        · intro e; cases e
        · intro hh; exact absurd (hh a (by simp)) h
  have h2 : ∀ m : List UInt8, (∀ a ∈ m.dropWhile (· == 0), (a == 0) = true) → m.dropWhile (· == 0) = [] := fun m => by
    induction m with
    | nil => simp
    | cons a m ih =>
      rw [List.dropWhile_cons]
      split
      · exact ih
      · rename_i h; intro hh; exact absurd (hh a (by simp)) h
  unfold Lib.trimB Lib.trimLeftB Lib.trimRightB zerosB
  rw [h1, List.all_eq_true]
  constructor
  · intro h
    have := h2 l.reverse (fun a ha => h a (by simpa using ha))
    rw [h1] at this
    exact fun a ha => this a (by simpa using ha)
  · intro h a ha
    have e := (h1 l.reverse).2 (fun a ha => h a (by simpa using ha))
    rw [e] at ha
    simp at ha

theorem call_zeros (p : List UInt8) (hp : p.length ≤ 1048576) (w : World) :
    Calls Tryz.prog 101 #[.string (bs p)] w fun e w' => e = .returned (.bool (zerosB p)) ∧ w' = w := by
  obtain ⟨n, hn⟩ : ∃ n, p.length = n := ⟨_, rfl⟩
  have z0 : (bs p).size = n := (bs_size p).trans hn
  have HN := Lib.hid hn
  rw [hn] at hp
  clear hn
  go_enter Tryz.func101, Tryz.ntmps101
  go_wp2
  go_loopw [3] (fun i wr => ∃ (k : Nat), i = .int .i64 k ∧ k ≤ n ∧ (p.take k).all (· == 0) = true ∧ wr = w)
    (fun i _ => n - (RowKit.intOf i).toNat)
  case atStart => exact ⟨0, rfl, Nat.zero_le _, rfl, rfl⟩
  case round =>
    obtain ⟨k, rfl, hk, hall, rfl⟩ := hrel
    have HA := Lib.hid hall
    clear hall
    by_cases hlt : k < n
    · obtain ⟨c, hc⟩ : ∃ c, p[k]? = some c := ⟨_, List.getElem?_eq_getElem (by have := HN.out; omega)⟩
      have HC := Lib.hid hc
      have hg := bs_get hc
      clear hc
      by_cases c0 : c.toNat = 0
      · have hok : (c == 0) = true := by rw [zero_nat, c0]; rfl
        have b0 : ((c.toNat : Int) == 0) = true := by rw [c0]; rfl
        go_wp2
        go_roundw
        case rel => exact ⟨k + 1, by go_num, by omega, by rw [all_take_succ HC.out, HA.out, hok]; rfl, trivial⟩
        case measure => simp [RowKit.intOf]; omega
      · have hv : zerosB p = false := all_false HC.out (by rw [zero_nat]; simpa using c0)
        have HV := Lib.hid hv
        have b0 : ((c.toNat : Int) == 0) = false := by rw [beq_eq_false_iff_ne]; omega
        clear hv
        go_wp2
        go_ret
        exact ⟨by rw [HV.out]; rfl, rfl⟩
    · obtain rfl : k = n := by omega
      have hv : zerosB p = true := by
        have h := HA.out
        rwa [List.take_of_length_le (by have := HN.out; omega)] at h
      have HV := Lib.hid hv
      clear hv
      go_wp2
      go_ret
      exact ⟨by rw [HV.out]; rfl, rfl⟩

/-- a path without its last name -/
def parentAt (p : List UInt8) : Nat → List UInt8
  | 0 => []
  | k + 1 => if p[k]? = some 47 then p.take k else parentAt p k
def parentB (p : List UInt8) : List UInt8 := parentAt p p.length
theorem bs_extract (p : List UInt8) (i j : Nat) : (bs p).extract i j = bs ((p.drop i).take (j - i)) := by
  apply ByteArray.ext
  rw [ByteArray.data_extract]
  simp [bs, List.extract_eq_take_drop]

theorem call_parent (p : List UInt8) (hp : p.length ≤ 1048576) (w : World) :
    Calls Tryz.prog 83 #[.string (bs p)] w fun e w' => e = .returned (.string (bs (parentB p))) ∧ w' = w := by
  obtain ⟨n, hn⟩ : ∃ n, p.length = n := ⟨_, rfl⟩
  have z0 : (bs p).size = n := (bs_size p).trans hn
  have HN := Lib.hid hn
  rw [hn] at hp
  clear hn
  go_enter Tryz.func83, Tryz.ntmps83
  go_wp2
  go_loopw [3] (fun i wr => ∃ (k : Nat), i = .int .i64 ((k : Int) - 1) ∧ k ≤ n ∧ parentAt p k = parentB p ∧ wr = w)
    (fun i _ => ((RowKit.intOf i) + 1).toNat)
  case atStart => exact ⟨n, rfl, Nat.le_refl _, by rw [parentB, HN.out], rfl⟩
  case round =>
    obtain ⟨k, rfl, hk, hall, rfl⟩ := hrel
    have HA := Lib.hid hall
    clear hall
    by_cases hlt : 0 < k
    · obtain ⟨j, rfl⟩ : ∃ j, k = j + 1 := ⟨k - 1, by omega⟩
      obtain ⟨c, hc⟩ : ∃ c, p[j]? = some c := ⟨_, List.getElem?_eq_getElem (by have := HN.out; omega)⟩
      have HC := Lib.hid hc
      have hg := bs_get hc
      clear hc
      have ej : ((j + 1 : Nat) : Int) - 1 = j := by omega
      rw [ej]
      by_cases c0 : c.toNat = 47
      · have b0 : ((c.toNat : Int) == 47) = true := by rw [c0]; rfl
        have hx : (bs p).extract 0 j = bs (p.take j) := by rw [bs_extract]; simp
        have hv : parentB p = p.take j := by
          rw [← HA.out, parentAt, if_pos]
          rw [HC.out, ← UInt8.toNat_inj.1 (show c.toNat = (47 : UInt8).toNat from c0)]
        have HV := Lib.hid hv
        clear hv
        go_wp2
        go_ret
        exact ⟨by rw [HV.out]; rfl, rfl⟩
      · have b0 : ((c.toNat : Int) == 47) = false := by rw [beq_eq_false_iff_ne]; omega
        go_wp2
        go_roundw
        case rel =>
          refine ⟨j, rfl, by omega, ?_, trivial⟩
          rw [← HA.out, parentAt, if_neg]
          rw [HC.out]
          intro e
          cases e
          exact c0 rfl
        case measure => simp [RowKit.intOf]
    · obtain rfl : k = 0 := by omega
      go_wp2
      go_ret
      exact ⟨by rw [← HA.out]; rfl, rfl⟩

def piecesOk (size : Int) : Int → List Pc → Bool
  | _, [] => true
  | next, p :: r => decide (next ≤ p.off) && decide (p.off < size) && decide (p.off % 512 = 0) && decide ((p.data.length : Int) = min 512 (size - p.off)) && !zerosB p.data && piecesOk size (p.off + 512) r
/-- whether a size and pieces are a file's -/
def piecesB (size : Int) (l : List Pc) : Bool := decide (0 ≤ size) && decide (size ≤ 262144) && piecesOk size 0 l
/-- what is asked of one piece -/
def pcOk (size next : Int) (p : Pc) : Bool := decide (next ≤ p.off) && decide (p.off < size) && decide (p.off % 512 = 0) && decide ((p.data.length : Int) = min 512 (size - p.off)) && !zerosB p.data
theorem piecesOk_cons (size next : Int) (p : Pc) (r : List Pc) : piecesOk size next (p :: r) = (pcOk size next p && piecesOk size (p.off + 512) r) := rfl

theorem call_trim0 (s : List UInt8) (hs : s.length ≤ 1048576) (w : World) :
    Calls Tryz.prog 80 #[.string (bs s), .string ⟨#[0]⟩] w fun e w' => e = .returned (.string (bs (Lib.trimB s 0))) ∧ Below w.heap.size w w' := by
  refine (Tryz.strings_Trim_one (bs s) 0 (by decide) w (by rw [bs_size]; omega)).mono fun e w' h => ?_
  obtain ⟨rfl, h⟩ := h
  refine ⟨by simp [bs], ?_⟩
  rcases h with rfl | rfl
  · exact Below.refl _ _
  · exact ⟨rfl, rfl, rfl, Nat.le_refl _, fun i hi => rfl⟩
end Go.Proofs.YtlecpjfggoehdaaGreatDoor.Ar
