
/-
  Mend, g: a slot opened.
-/
import Derived.Test.YtgoogbakhhbnhaaGreatDoorMf
set_option linter.unusedVariables false
set_option linter.unusedSimpArgs false
set_option maxRecDepth 100000
namespace Go.Proofs.YtgoogbakhhbnhaaGreatDoor.Ar
open Go.RowKit Go.Sort Go.Lib Go.Proofs.YtgoogbakhhbnhaaGreatDoor.Rs
/-- the walk of a slot that is opened -/
structure Slo (w w' : World) (a b c : Int) (s : List Value) : Prop where
  arg : Row w' w.heap.size 46 [.int .u64 a, .int .u64 b, .int .u64 c]
  slot : Row w' (w.heap.size + 1) 50 s
  err : Row w' (w.heap.size + 1 + 1) 31 [.int .i64 0]
  below : Below w.heap.size w w'
theorem Slo.first (w : World) (a b c : Int) (s : List Value) : Slo w (((w.alloc (.cells #[.int .u64 a, .int .u64 b, .int .u64 c] 46)).alloc (.cells s.toArray 50)).alloc (.cells #[.int .i64 0] 31)) a b c s := by
  have h1 := Row.new (w.alloc (.cells #[.int .u64 a, .int .u64 b, .int .u64 c] 46)) 50 s
  have h2 := Row.new ((w.alloc (.cells #[.int .u64 a, .int .u64 b, .int .u64 c] 46)).alloc (.cells s.toArray 50)) 31 [.int .i64 0]
  rw [alloc_size] at h1
  rw [alloc_size, alloc_size] at h2
  exact ⟨(Row.new w 46 [.int .u64 a, .int .u64 b, .int .u64 c]).below (below_alloc2 _ _ _) (by simp), h1.below (below_alloc1 _ _) h1.lt, h2, (below_alloc2 w _ _).alloc (by rw [alloc_size, alloc_size]; omega) _⟩
theorem Slo.under {w w' w'' : World} {a b c : Int} {s : List Value} (h : Slo w w' a b c s) (hb : Below w'.heap.size w' w'') : Slo w w'' a b c s :=
  ⟨h.arg.below hb h.arg.lt, h.slot.below hb h.slot.lt, h.err.below hb h.err.lt, below_after h.below hb⟩
theorem Slo.put {w w' : World} {a b c : Int} {s : List Value} (h : Slo w w' a b c s) (j : Nat) (v : Value) : Slo w (w'.setCell ⟨w.heap.size + 1, j, none⟩ v) a b c (s.set j v) := by
  have ne : ∀ n, n ≠ w.heap.size + 1 → (w'.setCell ⟨w.heap.size + 1, j, none⟩ v).heap[n]? = w'.heap[n]? := fun n hn => Below.heap_setCell w' ⟨w.heap.size + 1, j, none⟩ v n (by simpa using hn)
  exact ⟨(ne _ (by omega)).trans h.arg, h.slot.set j v, (ne _ (by omega)).trans h.err, h.below.setCell (Nat.le_succ _) v⟩
theorem Slo.fault {w w' : World} {a b c : Int} {s : List Value} (h : Slo w w' a b c s) : Slo w (w'.setCell ⟨w.heap.size + 1 + 1, 0, none⟩ (.int .i64 0)) a b c s := by
  have ne : ∀ n, n ≠ w.heap.size + 1 + 1 → (w'.setCell ⟨w.heap.size + 1 + 1, 0, none⟩ (.int .i64 0)).heap[n]? = w'.heap[n]? := fun n hn => Below.heap_setCell w' ⟨w.heap.size + 1 + 1, 0, none⟩ _ n (by simpa using hn)
  exact ⟨(ne _ (by omega)).trans h.arg, (ne _ (by omega)).trans h.slot, h.err.set 0 (.int .i64 0), h.below.setCell (p := ⟨w.heap.size + 1 + 1, 0, none⟩) (by show w.heap.size ≤ w.heap.size + 1 + 1; omega) _⟩
set_option maxHeartbeats 2000000 in
theorem call_openSlot_none (n : Nat) (a b c : Int) (w : World) (n0 : 1 ≤ n) (n1 : n ≤ 256) (a0 : 0 ≤ a) (a1 : a < 18446744073709551616) (hu : unsealI (2048 + (n - 1) * 64) a = some 0) (hst : Stp w) :
    Calls Tryz.prog 87 #[.int .i64 n, .agg #[.int .u64 a, .int .u64 b, .int .u64 c]] w fun e w' => e = .returned (.tuple #[.agg #[.int .i64 0, .int .i64 0, .int .i64 0, .int .i64 0], .int .i64 0]) ∧ Below w.heap.size w w' := by
  have h0 : (1 : Int) ≤ n := by omega
  have h1 : (n : Int) ≤ 256 := by omega
  have HU := Lib.hid hu
  have HST := Lib.hid hst
  have H0 := Lib.hid (Slo.first w a b c [.int .i64 0, .int .i64 0, .int .i64 0, .int .i64 0])
  have d0 := (show World.cell? (((w.alloc (.cells #[.int .u64 a, .int .u64 b, .int .u64 c] 46)).alloc (.cells #[.int .i64 0, .int .i64 0, .int .i64 0, .int .i64 0] 50)).alloc (.cells #[.int .i64 0] 31)) ⟨w.heap.size, 0, none⟩ = some (.int .u64 a) from H0.out.arg.cell 0)
  clear hu hst
  go_enter_defers Tryz.func87, Tryz.ntmps87
  go_wp2_with (first
    | (go_at_call 27; refine (call_isInode n h0 h1 _).mono ?_; rintro e w1 ⟨rfl, rfl⟩)
    | (go_at_call 30; refine (call_slotAt n h0 h1 _).mono ?_; rintro e w1 ⟨rfl, rfl⟩)
    | (go_at_call 79; refine (call_must_ok _ _).mono ?_; rintro e w2 ⟨rfl, rfl⟩)
    | (go_at_call 112; have hg := HU.out; clear hg; refine (call_held _ a 0 _ _ (by omega) (by omega) a0 a1 HU.out (HST.out.below H0.out.below)).mono ?_; rintro e w3 ⟨rfl, hb⟩; have H1 := Lib.hid (H0.out.under hb); clear hb H0 HU d0; have s0 := (show w3.cell? ⟨w.heap.size + 1, 0, none⟩ = some (.int .i64 0) from H1.out.slot.cell 0); have s1 := (show w3.cell? ⟨w.heap.size + 1, 1, none⟩ = some (.int .i64 0) from H1.out.slot.cell 1); have s2 := (show w3.cell? ⟨w.heap.size + 1, 2, none⟩ = some (.int .i64 0) from H1.out.slot.cell 2); have s3 := (show w3.cell? ⟨w.heap.size + 1, 3, none⟩ = some (.int .i64 0) from H1.out.slot.cell 3); have s4 := H1.out.slot.free 0; have s5 := H1.out.slot.free 1; have s6 := H1.out.slot.free 2; have s7 := H1.out.slot.free 3; have t0 := (show w3.cell? ⟨w.heap.size + 1 + 1, 0, none⟩ = some (.int .i64 0) from H1.out.err.cell 0); have t1 := H1.out.err.free 0; have d2 := (show w3.cell? ⟨w.heap.size, 2, none⟩ = some (.int .u64 c) from H1.out.arg.cell 2)))
  have hF := (show Slo w (((((w3.setCell ⟨w.heap.size + 1, 0, none⟩ (.int .i64 0)).setCell ⟨w.heap.size + 1, 1, none⟩ (.int .i64 0)).setCell ⟨w.heap.size + 1, 2, none⟩ (.int .i64 0)).setCell ⟨w.heap.size + 1, 3, none⟩ (.int .i64 0)).setCell ⟨w.heap.size + 1 + 1, 0, none⟩ (.int .i64 0)) a b c [.int .i64 0, .int .i64 0, .int .i64 0, .int .i64 0] from ((((H1.out.put 0 (.int .i64 0)).put 1 (.int .i64 0)).put 2 (.int .i64 0)).put 3 (.int .i64 0)).fault)
  clear s0 s1 s2 s3 s4 s5 s6 s7 t0 t1 d2 H1
  generalize (((((w3.setCell ⟨w.heap.size + 1, 0, none⟩ (.int .i64 0)).setCell ⟨w.heap.size + 1, 1, none⟩ (.int .i64 0)).setCell ⟨w.heap.size + 1, 2, none⟩ (.int .i64 0)).setCell ⟨w.heap.size + 1, 3, none⟩ (.int .i64 0)).setCell ⟨w.heap.size + 1 + 1, 0, none⟩ (.int .i64 0)) = wf at *
  refine leaves_cons (f := 115) (args := #[.pointer (some ⟨w.heap.size + 1, 0, none⟩), .pointer (some ⟨w.heap.size + 1 + 1, 0, none⟩)]) (by simp) (by simp [go_sem]) ?_
  refine (caught_slot _ _ _).mono ?_
  rintro e u' w'' ⟨rfl, rfl, rfl⟩
  have s0 := (show w''.cell? ⟨w.heap.size + 1, 0, none⟩ = some (.int .i64 0) from hF.slot.cell 0)
  have s1 := (show w''.cell? ⟨w.heap.size + 1, 1, none⟩ = some (.int .i64 0) from hF.slot.cell 1)
  have s2 := (show w''.cell? ⟨w.heap.size + 1, 2, none⟩ = some (.int .i64 0) from hF.slot.cell 2)
  have s3 := (show w''.cell? ⟨w.heap.size + 1, 3, none⟩ = some (.int .i64 0) from hF.slot.cell 3)
  have t0 := (show w''.cell? ⟨w.heap.size + 1 + 1, 0, none⟩ = some (.int .i64 0) from hF.err.cell 0)
  have hb := hF.below
  clear hF
  simp [Leaves, settle, results, Tryz.results87, go_sem, s0, s1, s2, s3, t0, hb]
set_option maxHeartbeats 2000000 in
theorem call_openSlot_dir (n : Nat) (a b c : Int) (w : World) (n0 : 1 ≤ n) (n1 : n ≤ 256) (a0 : 0 ≤ a) (a1 : a < 18446744073709551616) (c0 : 0 ≤ c) (c1 : c < 18446744073709551616) (hu : unsealI (2048 + (n - 1) * 64) a = some 258) (hu2 : unsealI (2048 + (n - 1) * 64 + 16) c = some 0) (hst : Stp w) :
    Calls Tryz.prog 87 #[.int .i64 n, .agg #[.int .u64 a, .int .u64 b, .int .u64 c]] w fun e w' => e = .returned (.tuple #[.agg #[.int .i64 2, .int .i64 1, .int .i64 0, .int .i64 0], .int .i64 0]) ∧ Below w.heap.size w w' := by
  have h0 : (1 : Int) ≤ n := by omega
  have h1 : (n : Int) ≤ 256 := by omega
  have HU := Lib.hid hu
  have HU2 := Lib.hid hu2
  have HST := Lib.hid hst
  have H0 := Lib.hid (Slo.first w a b c [.int .i64 0, .int .i64 0, .int .i64 0, .int .i64 0])
  have d0 := (show World.cell? (((w.alloc (.cells #[.int .u64 a, .int .u64 b, .int .u64 c] 46)).alloc (.cells #[.int .i64 0, .int .i64 0, .int .i64 0, .int .i64 0] 50)).alloc (.cells #[.int .i64 0] 31)) ⟨w.heap.size, 0, none⟩ = some (.int .u64 a) from H0.out.arg.cell 0)
  clear hu hst hu2
  go_enter_defers Tryz.func87, Tryz.ntmps87
  go_wp2_with (first
    | (go_at_call 27; refine (call_isInode n h0 h1 _).mono ?_; rintro e w1 ⟨rfl, rfl⟩)
    | (go_at_call 30; refine (call_slotAt n h0 h1 _).mono ?_; rintro e w1 ⟨rfl, rfl⟩)
    | (go_at_call 79; have hg := H0.out; clear hg; refine (call_must_ok _ _).mono ?_; rintro e w2 ⟨rfl, rfl⟩)
    | (go_at_call 112; have hg := HU.out; clear hg; refine (call_held _ a 258 _ _ (by omega) (by omega) a0 a1 HU.out (HST.out.below H0.out.below)).mono ?_; rintro e w3 ⟨rfl, hb⟩; have H1 := Lib.hid (H0.out.under hb); clear hb H0 HU d0; have s0 := (show w3.cell? ⟨w.heap.size + 1, 0, none⟩ = some (.int .i64 0) from H1.out.slot.cell 0); have s1 := (show w3.cell? ⟨w.heap.size + 1, 1, none⟩ = some (.int .i64 0) from H1.out.slot.cell 1); have s2 := (show w3.cell? ⟨w.heap.size + 1, 2, none⟩ = some (.int .i64 0) from H1.out.slot.cell 2); have s3 := (show w3.cell? ⟨w.heap.size + 1, 3, none⟩ = some (.int .i64 0) from H1.out.slot.cell 3); have s4 := H1.out.slot.free 0; have s5 := H1.out.slot.free 1; have s6 := H1.out.slot.free 2; have s7 := H1.out.slot.free 3; have t0 := (show w3.cell? ⟨w.heap.size + 1 + 1, 0, none⟩ = some (.int .i64 0) from H1.out.err.cell 0); have t1 := H1.out.err.free 0; have d2 := (show w3.cell? ⟨w.heap.size, 2, none⟩ = some (.int .u64 c) from H1.out.arg.cell 2))
    | (go_at_call 112; have hg := H1.out; clear hg; refine (call_held _ c 0 _ _ (by omega) (by omega) c0 c1 HU2.out (HST.out.below ((H1.out.put 0 (.int .i64 2)).put 1 (.int .i64 1)).below)).mono ?_; rintro e w4 ⟨rfl, hb⟩; have H2 := Lib.hid (((H1.out.put 0 (.int .i64 2)).put 1 (.int .i64 1)).under hb); clear hb H1 HU2 s0 s1 s2 s3 s4 s5 s6 s7 t0 t1 d2; have s0 := (show w4.cell? ⟨w.heap.size + 1, 0, none⟩ = some (.int .i64 2) from H2.out.slot.cell 0); have s1 := (show w4.cell? ⟨w.heap.size + 1, 1, none⟩ = some (.int .i64 1) from H2.out.slot.cell 1); have s2 := (show w4.cell? ⟨w.heap.size + 1, 2, none⟩ = some (.int .i64 0) from H2.out.slot.cell 2); have s3 := (show w4.cell? ⟨w.heap.size + 1, 3, none⟩ = some (.int .i64 0) from H2.out.slot.cell 3); have s4 := H2.out.slot.free 0; have s5 := H2.out.slot.free 1; have s6 := H2.out.slot.free 2; have s7 := H2.out.slot.free 3; have t0 := (show w4.cell? ⟨w.heap.size + 1 + 1, 0, none⟩ = some (.int .i64 0) from H2.out.err.cell 0); have t1 := H2.out.err.free 0; have d2 := (show w4.cell? ⟨w.heap.size, 2, none⟩ = some (.int .u64 c) from H2.out.arg.cell 2))
    | (go_at_call 28; have hg := H2.out; clear hg; refine (call_goodUse _).mono ?_; rintro e w5 ⟨rfl, hb⟩; have H3 := Lib.hid (show Slo w w5 a b c [.int .i64 2, .int .i64 1, .int .i64 0, .int .i64 0] from (H2.out.put 3 (.int .i64 0)).under hb); clear hb H2 s0 s1 s2 s3 s4 s5 s6 s7 t0 t1 d2; have s0 := (show w5.cell? ⟨w.heap.size + 1, 0, none⟩ = some (.int .i64 2) from H3.out.slot.cell 0); have s1 := (show w5.cell? ⟨w.heap.size + 1, 1, none⟩ = some (.int .i64 1) from H3.out.slot.cell 1); have s2 := (show w5.cell? ⟨w.heap.size + 1, 2, none⟩ = some (.int .i64 0) from H3.out.slot.cell 2); have s3 := (show w5.cell? ⟨w.heap.size + 1, 3, none⟩ = some (.int .i64 0) from H3.out.slot.cell 3); have s4 := H3.out.slot.free 0; have s5 := H3.out.slot.free 1; have s6 := H3.out.slot.free 2; have s7 := H3.out.slot.free 3; have t0 := (show w5.cell? ⟨w.heap.size + 1 + 1, 0, none⟩ = some (.int .i64 0) from H3.out.err.cell 0); have t1 := H3.out.err.free 0; have d2 := (show w5.cell? ⟨w.heap.size, 2, none⟩ = some (.int .u64 c) from H3.out.arg.cell 2))
    | (go_at_call 79; have hg := H3.out; clear hg; refine (call_must_ok _ _).mono ?_; rintro e w2 ⟨rfl, rfl⟩))
  have hF := (show Slo w (((((w2.setCell ⟨w.heap.size + 1, 0, none⟩ (.int .i64 2)).setCell ⟨w.heap.size + 1, 1, none⟩ (.int .i64 1)).setCell ⟨w.heap.size + 1, 2, none⟩ (.int .i64 0)).setCell ⟨w.heap.size + 1, 3, none⟩ (.int .i64 0)).setCell ⟨w.heap.size + 1 + 1, 0, none⟩ (.int .i64 0)) a b c [.int .i64 2, .int .i64 1, .int .i64 0, .int .i64 0] from ((((H3.out.put 0 (.int .i64 2)).put 1 (.int .i64 1)).put 2 (.int .i64 0)).put 3 (.int .i64 0)).fault)
  clear s0 s1 s2 s3 s4 s5 s6 s7 t0 t1 d2 H3
  generalize (((((w2.setCell ⟨w.heap.size + 1, 0, none⟩ (.int .i64 2)).setCell ⟨w.heap.size + 1, 1, none⟩ (.int .i64 1)).setCell ⟨w.heap.size + 1, 2, none⟩ (.int .i64 0)).setCell ⟨w.heap.size + 1, 3, none⟩ (.int .i64 0)).setCell ⟨w.heap.size + 1 + 1, 0, none⟩ (.int .i64 0)) = wf at *
  refine leaves_cons (f := 115) (args := #[.pointer (some ⟨w.heap.size + 1, 0, none⟩), .pointer (some ⟨w.heap.size + 1 + 1, 0, none⟩)]) (by simp) (by simp [go_sem]) ?_
  refine (caught_slot _ _ _).mono ?_
  rintro e u' w'' ⟨rfl, rfl, rfl⟩
  have s0 := (show w''.cell? ⟨w.heap.size + 1, 0, none⟩ = some (.int .i64 2) from hF.slot.cell 0)
  have s1 := (show w''.cell? ⟨w.heap.size + 1, 1, none⟩ = some (.int .i64 1) from hF.slot.cell 1)
  have s2 := (show w''.cell? ⟨w.heap.size + 1, 2, none⟩ = some (.int .i64 0) from hF.slot.cell 2)
  have s3 := (show w''.cell? ⟨w.heap.size + 1, 3, none⟩ = some (.int .i64 0) from hF.slot.cell 3)
  have t0 := (show w''.cell? ⟨w.heap.size + 1 + 1, 0, none⟩ = some (.int .i64 0) from hF.err.cell 0)
  have hb := hF.below
  clear hF
  simp [Leaves, settle, results, Tryz.results87, go_sem, s0, s1, s2, s3, t0, hb]
end Go.Proofs.YtgoogbakhhbnhaaGreatDoor.Ar
