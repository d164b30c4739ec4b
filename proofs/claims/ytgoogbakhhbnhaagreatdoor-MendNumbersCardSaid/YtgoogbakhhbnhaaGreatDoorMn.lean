/-
  Mend, n: the layout's pen.
-/
import Derived.Test.YtgoogbakhhbnhaaGreatDoorMm
import Derived.Lib.LazyBuf
import Derived.Deep.RegionLaw
set_option linter.unusedVariables false
set_option linter.unusedSimpArgs false
set_option maxRecDepth 100000
namespace Go.Proofs.YtgoogbakhhbnhaaGreatDoor.Ar
open Go.RowKit Go.Sort Go.Lib Go.Proofs.YtgoogbakhhbnhaaGreatDoor.Rs
def markC : ByteArray := { data := #[70, 85, 82, 82, 79, 87, 48, 49] }
def vb8 (n : Nat) : Value := .int .u8 (n : Int)
/-- 64 bytes and a place -/
def penC (L : List Value) (k : Nat) : List Value := L ++ [.int .i64 (k : Int)]
def mark64 : List Value := ([70, 85, 82, 82, 79, 87, 48, 49].map vb8) ++ List.replicate 56 (vb8 0)
set_option maxHeartbeats 2000000 in
theorem call_ptext (R : Nat) (w : World) (hr : Row w R 84 (penC (List.replicate 64 (vb8 0)) 0)) :
    Calls Tryz.prog 24 #[.pointer (some ⟨R, 0, none⟩), .string markC] w fun e w' => e = .returned (.tuple #[]) ∧ Row w' R 84 (penC mark64 8) ∧ w.grownBy w' (some R) := by
  have r0 := (show w.cell? ⟨R, 64, none⟩ = some (.int .i64 0) from hr.cell 64)
  have f0 := hr.free 64
  have HR := Lib.hid hr
  have hc : Hid (∀ j, j < markC.size → (w.drew.cell? ⟨R, 0 + j, none⟩).isSome = true) := Lib.hid (fun j hj => by
    have hj : j < 8 := hj
    rw [show w.drew.cell? ⟨R, 0 + j, none⟩ = _ from hr.drew.cell (0 + j)]
    rw [Nat.zero_add, penC, List.getElem?_append_left (by rw [List.length_replicate]; omega), List.getElem?_replicate, if_pos (by omega)]
    rfl)
  have hf : Hid (∀ j, j < markC.size → w.drew.frozen? ⟨R, 0 + j, none⟩ = false) := Lib.hid (fun j _ => hr.drew.free (0 + j))
  obtain ⟨W2, hW2⟩ : ∃ W, w.drew.setCells R 0 (List.map (fun x => Value.int IntKind.u8 (x.toNat : Int)) markC.data.toList) = W := ⟨_, rfl⟩
  have hr2 : Row W2 R 84 (penC mark64 0) := by
    rw [← hW2]
    exact ((((((((hr.drew.set 0 _).set 1 _).set 2 _).set 3 _).set 4 _).set 5 _).set 6 _).set 7 _)
  have hg2 : w.grownBy W2 (some R) := by
    rw [← hW2]
    exact grown_set (grown_set (grown_set (grown_set (grown_set (grown_set (grown_set (grown_set (grown_of_below (below_drew w) (some R)) 0 _) 1 _) 2 _) 3 _) 4 _) 5 _) 6 _) 7 _
  have HR2 := Lib.hid hr2
  have HG2 := Lib.hid hg2
  have q0 := (show W2.cell? ⟨R, 64, none⟩ = some (.int .i64 0) from hr2.cell 64)
  have q1 := hr2.free 64
  have hms : ((markC.size : Nat) : Int) = 8 := rfl
  clear hr hr2 hg2
  go_enter Tryz.func24, Tryz.ntmps24
  go_wp2_with fail
  go_region_law ((refine step_copy_string (by rfl) _ _ 23 9 (by rfl) 5 Tryz.underlying23 (by intro w; rfl) R 0 64 64 (by rfl) markC (by rfl) (by decide) hc.out hf.out ?_; simp only [hW2, hms]))
  all_goals (go_end0; exact ⟨rfl, HR2.out.set 64 _, grown_set HG2.out 64 _⟩)
/-- bytes of a number laid into a line -/
def putN (L : List Value) (k v : Nat) : Nat → List Value
  | 0 => L
  | j + 1 => (putN L k v j).set (k + j) (vb8 (v / 256 ^ j % 256))
theorem putN_len (L : List Value) (k v : Nat) : ∀ j, (putN L k v j).length = L.length
  | 0 => rfl
  | j + 1 => by rw [putN, List.length_set, putN_len L k v j]
theorem pen_set {L : List Value} {m : Nat} (hL : L.length = 64) (hm : m < 64) (x : Value) : ((penC L m).set m x).set 64 (.int .i64 ((m : Int) + 1)) = penC (L.set m x) (m + 1) := by
  unfold penC
  rw [List.set_append_left _ _ (by omega), List.set_append_right _ _ (by rw [List.length_set]; omega), List.length_set, hL]
  simp
set_option maxHeartbeats 4000000 in
theorem call_pnumber (R : Nat) (w : World) (L : List Value) (k v : Nat) (hL : L.length = 64) (hk : k + 4 ≤ 64) (hv : v < 4294967296) (hr : Row w R 84 (penC L k)) :
    Calls Tryz.prog 25 #[.pointer (some ⟨R, 0, none⟩), .int .u64 v, .int .i64 4] w fun e w' => e = .returned (.tuple #[]) ∧ Row w' R 84 (penC (putN L k v 4) (k + 4)) ∧ w.grownBy w' (some R) := by
  have HR := Lib.hid hr
  clear hr
  go_enter Tryz.func25, Tryz.ntmps25
  go_wp2_with fail
  go_loopw [1, 7] (fun vv iv wr => ∃ j : Nat, iv = .int .i64 j ∧ j ≤ 4 ∧ vv = .int .u64 ((v / 256 ^ j : Nat) : Int) ∧ Row wr R 84 (penC (putN L k v j) (k + j)) ∧ w.grownBy wr (some R))
    (fun _ iv _ => 4 - (RowKit.intOf iv).toNat)
  case atStart => exact ⟨0, rfl, Nat.zero_le _, by simp, HR.out, grown_of_below (Below.refl _ _) _⟩
  case round =>
    obtain ⟨j, rfl, hj, rfl, hr, hg⟩ := hrel
    have hpl := putN_len L k v j
    have HRr := Lib.hid hr
    have HG := Lib.hid hg
    by_cases hlt : j < 4
    · obtain ⟨x, hx⟩ : ∃ x, v / 256 ^ j = x := ⟨_, rfl⟩
      have hx2 : x < 4294967296 := by rw [← hx]; exact Nat.lt_of_le_of_lt (Nat.div_le_self _ _) hv
      have r0 := (show wr.cell? ⟨R, 64, none⟩ = some (.int .i64 ((k + j : Nat) : Int)) from by rw [hr.cell 64, penC, List.getElem?_append_right (by omega), hpl, hL]; rfl)
      have r1 := hr.free 64
      obtain ⟨m, hm⟩ : ∃ m, k + j = m := ⟨_, rfl⟩
      have HM := Lib.hid hm
      rw [hm] at r0 HRr
      have m0 : (0 : Int) ≤ m := Int.natCast_nonneg _
      have m1 : (m : Int) < 64 := by omega
      have m2 : ¬ m = 64 := by omega
      obtain ⟨y, r2⟩ : ∃ y, wr.cell? ⟨R, k + j, none⟩ = some y := ⟨_, by rw [hr.cell (k + j), penC, List.getElem?_append_left (by omega)]; exact List.getElem?_eq_getElem (by omega)⟩
      have r3 := hr.free (k + j)
      have HX := Lib.hid hx
      rw [hm] at r2 r3
      rw [hx]
      clear hx hr hg hm
      go_wp2
      go_region
      all_goals go_wp2
      refine ⟨⟨j + 1, by go_num, by omega, ?_, ?_, ?_⟩, by simp [RowKit.intOf]; omega⟩
      · rw [Nat.pow_succ, ← Nat.div_div_eq_div_mul, HX.out]
        simp
      · have h := ((HRr.out.set m (.int .u8 ((x : Int) % 256))).set 64 (.int .i64 ((m : Int) + 1))).drew
        rw [pen_set (by rw [hpl, hL]) (by omega)] at h
        rw [putN, HX.out, ← Nat.add_assoc, HM.out, show vb8 (x % 256) = .int .u8 ((x : Int) % 256) by simp [vb8]]
        exact h
      · exact grown_drewN (grown_set (grown_set HG.out m _) 64 _) 1
    · obtain rfl : j = 4 := by omega
      clear hr hg
      go_wp2
      go_end0
      exact ⟨rfl, HRr.out, HG.out⟩
end Go.Proofs.YtgoogbakhhbnhaaGreatDoor.Ar
