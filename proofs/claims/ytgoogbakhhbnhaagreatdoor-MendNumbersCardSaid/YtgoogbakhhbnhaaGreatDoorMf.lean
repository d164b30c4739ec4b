
/-
  Mend, f: a slot opened.
-/
import Derived.Test.YtgoogbakhhbnhaaGreatDoorMe
set_option linter.unusedVariables false
set_option linter.unusedSimpArgs false
set_option maxRecDepth 100000
namespace Go.Proofs.YtgoogbakhhbnhaaGreatDoor.Ar
open Go.RowKit Go.Sort Go.Lib Go.Proofs.YtgoogbakhhbnhaaGreatDoor.Rs
theorem unsealI_lt {p x v : Int} (h : unsealI p x = some v) : 0 ≤ v ∧ v < 4294967296 := by
  unfold unsealI at h
  split at h
  · injection h with h; omega
  · cases h
theorem call_held (p x v err : Int) (w : World) (hp0 : 0 ≤ p) (hp1 : p < 4294967296) (hx0 : 0 ≤ x) (hx1 : x < 18446744073709551616) (hu : unsealI p x = some v) (hst : Stp w) :
    Calls Tryz.prog 112 #[.int .i64 p, .int .u64 x, .int .i64 err] w fun e w' => e = .returned (.int .i64 v) ∧ Below w.heap.size w w' := by
  obtain ⟨v0, v1⟩ := unsealI_lt hu
  have HU := Lib.hid hu
  have HST := Lib.hid hst
  clear hu hst
  go_enter Tryz.func112, Tryz.ntmps112
  go_wp2_with (first
    | (go_at_call 139; refine (call_unseal p x hp0 hp1 hx0 hx1 _ HST.out).mono ?_; rw [HU.out]; rintro e w1 ⟨rfl, hb1⟩; have HB1 := Lib.hid hb1; clear hb1; simp only [unsealR])
    | (go_at_call 79; have hg := HB1.out; clear hg; refine (call_must_ok _ _).mono ?_; rintro e w2 ⟨rfl, rfl⟩))
  go_ret
  exact ⟨rfl, HB1.out⟩
theorem call_within (a b c : Int) (w : World) :
    Calls Tryz.prog 50 #[.int .i64 a, .int .i64 b, .int .i64 c] w fun e w' => e = .returned (.bool (decide (b ≤ a) && decide (a ≤ c))) ∧ w' = w := by
  by_cases h1 : b ≤ a
  · by_cases h2 : a ≤ c
    · go_enter Tryz.func50, Tryz.ntmps50
      go_wp2
      go_ret
      simp [h1, h2]
    · go_enter Tryz.func50, Tryz.ntmps50
      go_wp2
      go_ret
      have h3 : ¬ a ≤ c := by omega
      simp [h1, h3]
  · go_enter Tryz.func50, Tryz.ntmps50
    go_wp2
    go_ret
    have h2 : ¬ b ≤ a := by omega
    simp [h2]
theorem call_isInode (n : Int) (h0 : 1 ≤ n) (h1 : n ≤ 256) (w : World) : Calls Tryz.prog 27 #[.int .i64 n] w fun e w' => e = .returned (.bool true) ∧ w' = w := by
  go_enter Tryz.func27, Tryz.ntmps27
  go_wp2_with (go_at_call 50; refine (call_within n 1 256 _).mono ?_; rw [decide_eq_true h0, decide_eq_true h1]; rintro e w1 ⟨rfl, rfl⟩)
  go_ret
  exact ⟨rfl, rfl⟩
theorem call_slotAt (n : Int) (h0 : 1 ≤ n) (h1 : n ≤ 256) (w : World) : Calls Tryz.prog 30 #[.int .i64 n] w fun e w' => e = .returned (.int .i64 (2048 + (n - 1) * 64)) ∧ w' = w := by
  go_enter Tryz.func30, Tryz.ntmps30
  go_wp2_with (go_at_call 27; refine (call_isInode n h0 h1 _).mono ?_; rintro e w1 ⟨rfl, rfl⟩)
  go_ret
  exact ⟨rfl, rfl⟩
theorem call_goodUse (w : World) : Calls Tryz.prog 28 #[.agg #[.int .i64 2, .int .i64 1, .int .i64 0, .int .i64 0]] w fun e w' => e = .returned (.bool true) ∧ Below w.heap.size w w' := by
  go_enter Tryz.func28, Tryz.ntmps28
  go_wp2
  go_ret
  exact ⟨rfl, below_alloc1 w _⟩
theorem caught_slot (p q : Value) (w : World) : CallsD Tryz.prog 115 #[p, q] .returning w fun e u' w' => e = .returned (.tuple #[]) ∧ u' = .returning ∧ w' = w := by
  refine callsD_of_wpS Tryz.func115 rfl fun c₀ cs hu => ?_
  apply wpS_seq
  apply wpS_region
  simp [wpOpsS, go_sem, recoverD, hu, Tryz.ntmps115, Exit.thenS]
  apply wpS_of_wp
  refine wp_block (wp_seq (wp_region ?_))
  simp [wpOps, go_sem, Exit.then]
  refine Or.inl ?_
  refine wp_cond (t := true) (by simp [Act.eval, Array.replicate]) ?_
  simp only [if_true]
  refine wp_region ?_
  simp [wpOps, go_sem, Exit.inBlock]
  cases c₀
  simp_all [bodyPostS, results, Tryz.results115]
theorem caught_undo (p q : Value) (w : World) : CallsD Tryz.prog 111 #[p, q] .returning w fun e u' w' => e = .returned (.tuple #[]) ∧ u' = .returning ∧ w' = w := by
  refine callsD_of_wpS Tryz.func111 rfl fun c₀ cs hu => ?_
  apply wpS_seq
  apply wpS_region
  simp [wpOpsS, go_sem, recoverD, hu, Tryz.ntmps111, Exit.thenS]
  apply wpS_of_wp
  refine wp_block (wp_seq (wp_region ?_))
  simp [wpOps, go_sem, Exit.then]
  refine Or.inl ?_
  refine wp_cond (t := true) (by simp [Act.eval, Array.replicate]) ?_
  simp only [if_true]
  refine wp_region ?_
  simp [wpOps, go_sem, Exit.inBlock]
  cases c₀
  simp_all [bodyPostS, results, Tryz.results111]
end Go.Proofs.YtgoogbakhhbnhaaGreatDoor.Ar
