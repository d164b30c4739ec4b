/-
  Mend: the sort of two places that lie in order.
-/
import Derived.Test.YtgoogbakhhbnhaaGreatDoorNh
set_option linter.unusedVariables false
set_option linter.unusedSimpArgs false
set_option maxRecDepth 100000
namespace Go.Proofs.YtgoogbakhhbnhaaGreatDoor.Ar
open Go.RowKit Go.Sort Go.Lib Go.Proofs.YtgoogbakhhbnhaaGreatDoor.Rs
set_option maxHeartbeats 1000000 in
theorem call_len64 (w : World) : Calls Tryz.prog 106 #[.int .u64 2] w fun e w' => e = .returned (.int .i64 2) ∧ w' = w := by
  have h2 : Lib.len8 2 = 2 := by kernel_rfl
  go_enter Tryz.func106, Tryz.ntmps106
  go_wp2
  go_ret
  exact ⟨rfl, rfl⟩
theorem call_len (w : World) : Calls Tryz.prog 71 #[.int .u64 2] w fun e w' => e = .returned (.int .i64 2) ∧ w' = w := by
  go_enter Tryz.func71, Tryz.ntmps71
  go_wp2_with (go_at_call 106; refine (call_len64 _).mono ?_; rintro e w3 ⟨rfl, rfl⟩)
  go_ret
  exact ⟨rfl, rfl⟩
def placesL : List Value := [.string lostS, .int .i64 0, .string lost5, .int .i64 5]
set_option maxHeartbeats 4000000 in
theorem call_insertion (L c : Nat) (w : World) (hM : MaxL w) {rest : List Value} (hr : Row w L 118 (placesL ++ rest)) :
    Calls Tryz.prog 97 #[.slice (some ⟨L, 0, none⟩) 2 c, .int .i64 0, .int .i64 2, .func (.func 48) #[] #[]] w fun e w' => (∃ v, e = .returned v) ∧ Below w.heap.size w w' := by
  obtain ⟨S, hS⟩ : ∃ S : World → Prop, ∀ y, S y ↔ Below w.heap.size w y := ⟨_, fun _ => Iff.rfl⟩
  have HM := Lib.hid hM
  have HR := Lib.hid hr
  have HB0 := Lib.hid ((hS _).2 (Below.refl _ w))
  have HSi := Lib.hid hS
  clear hM hr hS
  go_enter Tryz.func97, Tryz.ntmps97
  go_wp2
  go_loopw [8] (fun iv wr => S wr ∧ ∃ j : Nat, iv = .int .i64 j ∧ 1 ≤ j ∧ j ≤ 2) (fun iv _ => 2 - (RowKit.intOf iv).toNat)
  case atStart => exact ⟨HB0.out, 1, rfl, by decide, by decide⟩
  case round =>
    obtain ⟨hs, j, rfl, hj1, hj2⟩ := hrel
    rcases (show j = 1 ∨ j = 2 by omega) with rfl | rfl
    · have HW := Lib.hid hs
      clear hs
      go_wp2
      obtain ⟨wo, rfl⟩ : ∃ x, x = wr := ⟨_, rfl⟩
      go_loopw [9] (fun jv wz => jv = .int .i64 1 ∧ wz = wo) (fun _ _ => 0)
      case atStart => exact ⟨rfl, rfl⟩
      case round =>
        obtain ⟨rfl, rfl⟩ := hrel
        have HW0 := Lib.hid ((HSi.out _).2 ((HSi.out _).1 HW.out).drew)
        haveI : Nonempty (Wd S) := ⟨⟨_, HW0.out⟩⟩
        have hRy : ∀ y : Wd S, Row y.val L 118 (placesL ++ rest) := fun y => HR.out.below ((HSi.out _).1 y.ok) HR.out.lt
        have q0 : ∀ y : Wd S, y.val.cell? ⟨L, 0, none⟩ = some (.string lostS) := fun y => (hRy y).cell 0
        have q1 : ∀ y : Wd S, y.val.cell? ⟨L, 1, none⟩ = some (.int .i64 0) := fun y => (hRy y).cell 1
        have q2 : ∀ y : Wd S, y.val.cell? ⟨L, 2, none⟩ = some (.string lost5) := fun y => (hRy y).cell 2
        have q3 : ∀ y : Wd S, y.val.cell? ⟨L, 3, none⟩ = some (.int .i64 5) := fun y => (hRy y).cell 3
        have hc : Hid (∀ y : Wd S, Calls Tryz.prog 48 #[.agg #[.string lost5, .int .i64 5], .agg #[.string lostS, .int .i64 0]] y.val fun e w' => e = .returned (.int .i64 1) ∧ ∃ z : Wd S, w' = z.val) := Lib.hid (fun y => by
          have h := (HSi.out _).1 y.ok
          exact (call_ahead y.val (HM.out.below h)).mono fun e w' ⟨h1, h2⟩ => ⟨h1, ⟨w', (HSi.out _).2 (below_after h h2)⟩, rfl⟩)
        have hSB : Hid (∀ y : Wd S, S y.val) := Lib.hid (fun y => y.ok)
        clear hRy
        repeat refine wp_seq ?_
        refine wp_region_class S (by kernel_rfl) (by kernel_rfl) HW0.out ?_
        repeat (first | go_big_quiet_skip | (go_big_quiet_want; go_big_quiet_op; first | go_big_quiet_on | go_big_quiet_call ((go_at_call 48; refine (hc.out _).mono ?_; rintro e w2 ⟨rfl, z, rfl⟩; exact ⟨rfl, ⟨z, rfl⟩⟩))))
        refine wpQuiet_nil ?_
        rintro _ ⟨y, rfl⟩
        have HY := Lib.hid (hSB.out y)
        clear q0 q1 q2 q3
        go_wp2
        exact ⟨⟨HY.out, 2, rfl, by decide, by decide⟩, by simp [RowKit.intOf]⟩
    · go_wp2
      go_end0
      exact ⟨⟨_, rfl⟩, (HSi.out _).1 hs⟩
set_option maxHeartbeats 4000000 in
theorem call_pdq (L c : Nat) (w : World) (hM : MaxL w) {rest : List Value} (hr : Row w L 118 (placesL ++ rest)) :
    Calls Tryz.prog 70 #[.slice (some ⟨L, 0, none⟩) 2 c, .int .i64 0, .int .i64 2, .int .i64 2, .func (.func 48) #[] #[]] w fun e w' => (∃ v, e = .returned v) ∧ Below w.heap.size w w' := by
  have HC := Lib.hid (call_insertion L c w hM hr)
  clear hM hr
  go_enter Tryz.func70, Tryz.ntmps70
  go_wp2
  go_loopw [1, 2, 3] (fun av bv lv wz => av = .int .i64 0 ∧ bv = .int .i64 2 ∧ lv = .int .i64 2 ∧ wz = w) (fun _ _ _ _ => 0)
  case atStart => exact ⟨rfl, rfl, rfl, rfl⟩
  case round =>
    obtain ⟨rfl, rfl, rfl, rfl⟩ := hrel
    go_wp2_with (go_at_call 97; refine HC.out.mono ?_; rintro e w3 ⟨⟨v, rfl⟩, hb⟩)
    exact bodyPost_ret (results_none rfl _ _ _) rfl ⟨⟨_, rfl⟩, hb⟩
theorem call_sort (L c : Nat) (w : World) (hM : MaxL w) {rest : List Value} (hr : Row w L 118 (placesL ++ rest)) :
    Calls Tryz.prog 47 #[.slice (some ⟨L, 0, none⟩) 2 c, .func (.func 48) #[] #[]] w fun e w' => (∃ v, e = .returned v) ∧ Below w.heap.size w w' := by
  have HC := Lib.hid (call_pdq L c w hM hr)
  clear hM hr
  go_enter Tryz.func47, Tryz.ntmps47
  go_wp2_with (first | (go_at_call 71; refine (call_len _).mono ?_; rintro e w3 ⟨rfl, rfl⟩) | (go_at_call 70; refine HC.out.mono ?_; rintro e w3 ⟨⟨v, rfl⟩, hb⟩))
  go_end0
  exact ⟨⟨_, rfl⟩, hb⟩
end Go.Proofs.YtgoogbakhhbnhaaGreatDoor.Ar
