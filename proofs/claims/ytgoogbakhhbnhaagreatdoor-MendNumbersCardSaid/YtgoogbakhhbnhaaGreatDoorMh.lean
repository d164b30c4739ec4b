
/-
  Mend, h: an empty journal.
-/
import Derived.Test.YtgoogbakhhbnhaaGreatDoorMg
set_option linter.unusedVariables false
set_option linter.unusedSimpArgs false
set_option maxRecDepth 100000
namespace Go.Proofs.YtgoogbakhhbnhaaGreatDoor.Ar
open Go.RowKit Go.Sort Go.Lib Go.Proofs.YtgoogbakhhbnhaaGreatDoor.Rs
/-- the walk of a journal that is empty: the two results' cells -/
structure Und (w w' : World) : Prop where
  out : Row w' w.heap.size 132 [.slice none 0 0]
  err : Row w' (w.heap.size + 1) 31 [.int .i64 0]
  below : Below w.heap.size w w'
theorem Und.first (w : World) : Und w ((w.alloc (.cells #[.slice none 0 0] 132)).alloc (.cells #[.int .i64 0] 31)) := by
  have h1 := Row.new (w.alloc (.cells #[.slice none 0 0] 132)) 31 [.int .i64 0]
  rw [alloc_size] at h1
  exact ⟨(Row.new w 132 [.slice none 0 0]).below (below_alloc1 _ _) (by simp), h1, below_alloc2 w _ _⟩
theorem Und.under {w w' w'' : World} (h : Und w w') (hb : Below w'.heap.size w' w'') : Und w w'' :=
  ⟨h.out.below hb h.out.lt, h.err.below hb h.err.lt, below_after h.below hb⟩
theorem Und.turn {w w' w'' : World} {R : Nat} (h : Und w w') (hR : w.heap.size + 1 + 1 ≤ R) (hg : w'.grownBy w'' (some R)) : Und w w'' := by
  refine ⟨(hg.block _ h.out.lt ?_).trans h.out, (hg.block _ h.err.lt ?_).trans h.err, ⟨hg.os.trans h.below.os, hg.tape.trans h.below.tape, hg.output.trans h.below.output, Nat.le_trans h.below.size hg.size, fun k hk => (hg.block k (Nat.lt_of_lt_of_le hk h.below.size) ?_).trans (h.below.block k hk)⟩⟩
  all_goals (intro e; simp only [Option.some.injEq] at e; omega)
theorem Und.ends {w w' : World} (h : Und w w') : Und w ((w'.setCell ⟨w.heap.size, 0, none⟩ (.slice none 0 0)).setCell ⟨w.heap.size + 1, 0, none⟩ (.int .i64 0)) := by
  have n1 : ∀ n, n ≠ w.heap.size → (w'.setCell ⟨w.heap.size, 0, none⟩ (.slice none 0 0)).heap[n]? = w'.heap[n]? := fun n hn => Below.heap_setCell w' ⟨w.heap.size, 0, none⟩ _ n (by simpa using hn)
  have n2 : ∀ n, n ≠ w.heap.size + 1 → ((w'.setCell ⟨w.heap.size, 0, none⟩ (.slice none 0 0)).setCell ⟨w.heap.size + 1, 0, none⟩ (.int .i64 0)).heap[n]? = (w'.setCell ⟨w.heap.size, 0, none⟩ (.slice none 0 0)).heap[n]? := fun n hn => Below.heap_setCell _ ⟨w.heap.size + 1, 0, none⟩ _ n (by simpa using hn)
  have h1 : Row (w'.setCell ⟨w.heap.size, 0, none⟩ (.slice none 0 0)) w.heap.size 132 [.slice none 0 0] := h.out.set 0 (.slice none 0 0)
  have h2 : Row (w'.setCell ⟨w.heap.size, 0, none⟩ (.slice none 0 0)) (w.heap.size + 1) 31 [.int .i64 0] := (n1 _ (by omega)).trans h.err
  exact ⟨(n2 _ (by omega)).trans h1, h2.set 0 (.int .i64 0), (h.below.setCell (p := ⟨w.heap.size, 0, none⟩) (Nat.le_refl _) _).setCell (p := ⟨w.heap.size + 1, 0, none⟩) (Nat.le_succ _) _⟩
set_option maxHeartbeats 2000000 in
theorem call_openUndo (l : List UInt8) (hl : l.length = 512) (hu : unsealI 512 (leN l 0 8) = some 0) (vb : Value) (w : World) (hv : Sl RByte 1 w vb l) (hcap : ∀ a n c, vb = .slice a n c → n ≤ c ∧ c ≤ 1000000000) (hp : Stp w) :
    Calls Tryz.prog 84 #[vb] w fun e w' => e = .returned (.tuple #[.slice none 0 0, .int .i64 0]) ∧ Below w.heap.size w w' := by
  have H0 := Lib.hid (Und.first w)
  have hb3 := below_after (Und.first w).below (below_alloc1 ((w.alloc (.cells #[.slice none 0 0] 132)).alloc (.cells #[.int .i64 0] 31)) (.cells #[vb, .int .i64 0] 170))
  have hr := Row.new ((w.alloc (.cells #[.slice none 0 0] 132)).alloc (.cells #[.int .i64 0] 31)) 170 [vb, .int .i64 0]
  rw [alloc_size, alloc_size] at hr
  have HE := Lib.hid (show Ey (((w.alloc (.cells #[.slice none 0 0] 132)).alloc (.cells #[.int .i64 0] 31)).alloc (.cells #[vb, .int .i64 0] 170)) (w.heap.size + 1 + 1) vb l 0 from ⟨hr, hv.keep RByte.stays (keeps_below hb3), fun a n c e => (hcap a n c e).1, by omega, by omega⟩)
  have HP := Lib.hid hp
  have HU := Lib.hid hu
  have HL := Lib.hid hl
  obtain ⟨aa, bb, oo, cc, rfl, ha, hc⟩ := hv
  have ha' := ha (by omega)
  subst ha'
  have hx := leN_bound l 0 8 (by decide)
  rw [hl] at HE ⊢
  obtain ⟨x, hx2⟩ : ∃ x, leN l 0 8 = x := ⟨_, rfl⟩
  have HX := Lib.hid hx2
  rw [hx2] at hx HU
  clear hx2 hp hu ha hc hcap hl hr hb3
  go_enter_defers Tryz.func84, Tryz.ntmps84
  go_wp2_with (first
    | (go_at_call 79; have hg := HE.out; clear hg; refine (call_must_ok _ _).mono ?_; rintro e w2 ⟨rfl, rfl⟩)
    | (go_at_call 110; have hg := HE.out; clear hg; refine (call_number _ _ l 0 8 _ HE.out (by decide) (by rw [HL.out]; decide)).mono ?_; rintro e w3 ⟨he, hr, hg⟩; rw [HX.out] at he; subst he; have H1 := Lib.hid ((H0.out.under (below_alloc1 _ _)).turn (Nat.le_refl _) hg); clear hr hg HE H0)
    | (go_at_call 112; have hg := H1.out; clear hg; refine (call_held 512 x 0 _ _ (by decide) (by decide) (by omega) (by omega) HU.out (HP.out.below H1.out.below)).mono ?_; rintro e w4 ⟨rfl, hb⟩; have H2 := Lib.hid (H1.out.under hb); clear hb H1; have s0 := (show w4.cell? ⟨w.heap.size, 0, none⟩ = some (.slice none 0 0) from H2.out.out.cell 0); have s1 := H2.out.out.free 0; have t0 := (show w4.cell? ⟨w.heap.size + 1, 0, none⟩ = some (.int .i64 0) from H2.out.err.cell 0); have t1 := H2.out.err.free 0))
  have hF := H2.out.ends
  clear s0 s1 t0 t1 H2
  generalize ((w4.setCell ⟨w.heap.size, 0, none⟩ (.slice none 0 0)).setCell ⟨w.heap.size + 1, 0, none⟩ (.int .i64 0)) = wf at *
  refine leaves_cons (f := 111) (args := #[.pointer (some ⟨w.heap.size, 0, none⟩), .pointer (some ⟨w.heap.size + 1, 0, none⟩)]) (by simp) (by simp [go_sem]) ?_
  refine (caught_undo _ _ _).mono ?_
  rintro e u' w'' ⟨rfl, rfl, rfl⟩
  have s0 := (show w''.cell? ⟨w.heap.size, 0, none⟩ = some (.slice none 0 0) from hF.out.cell 0)
  have t0 := (show w''.cell? ⟨w.heap.size + 1, 0, none⟩ = some (.int .i64 0) from hF.err.cell 0)
  have hb := hF.below
  clear hF
  simp [Leaves, settle, results, Tryz.results84, go_sem, s0, t0, hb]
end Go.Proofs.YtgoogbakhhbnhaaGreatDoor.Ar
