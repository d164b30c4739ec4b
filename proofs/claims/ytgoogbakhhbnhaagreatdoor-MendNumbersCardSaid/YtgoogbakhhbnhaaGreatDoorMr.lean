/-
  Mend, r: an empty directory, scanned.
-/
import Derived.Test.YtgoogbakhhbnhaaGreatDoorMq
set_option linter.unusedVariables false
set_option linter.unusedSimpArgs false
set_option maxRecDepth 100000
namespace Go.Proofs.YtgoogbakhhbnhaaGreatDoor.Ar
open Go.RowKit Go.Sort Go.Lib Go.Proofs.YtgoogbakhhbnhaaGreatDoor.Rs
def nodeL (i k l : Int) : List Value := [.int .i64 i, .int .i64 k, .int .i64 l, .int .i64 0, .slice none 0 0, .slice none 0 0, .int .i64 0, .int .i64 0, .slice none 0 0, .int .i64 0]
set_option maxHeartbeats 4000000 in
theorem call_into (R : Nat) (w : World) (hs : Sen w R) :
    Calls Tryz.prog 94 #[.pointer (some ⟨R, 0, none⟩), .agg (nodeL 0 0 0).toArray] w fun e w' => e = .returned (.agg (nodeL 0 2 0).toArray) ∧ Below w.heap.size w w' := by
  have hb0 := below_alloc2 w (.cells (nodeL 0 0 0).toArray 66) (.cells (nodeL 0 0 0).toArray 66)
  obtain ⟨X, m1, m2, m3, h1, h2, h3⟩ := hs.ex
  have hx1 := h1.below hb0 h1.lt
  have H1 := Lib.hid hx1
  have H2 := Lib.hid (h2.below hb0 h2.lt)
  have H3 := Lib.hid (h3.below hb0 h3.lt)
  have hn1 := (Row.new w 66 (nodeL 0 0 0)).below (below_alloc1 _ (.cells (nodeL 0 0 0).toArray 66)) (by simp)
  have HN1 := Lib.hid hn1
  have HN2 := Lib.hid (row_new1 w (.cells (nodeL 0 0 0).toArray 66) 66 (nodeL 0 0 0))
  have HB := Lib.hid hb0
  have HR := Lib.hid h1.lt
  have HX := Lib.hid h2.lt
  clear hb0 hs h1 h2 h3 hx1 hn1
  unfold nodeL at *
  go_enter Tryz.func94, Tryz.ntmps94
  go_wp2_with fail
  generalize (w.alloc (.cells _ 66)).alloc (.cells _ 66) = w1 at *
  have hne : ¬ R = w.heap.size := by have := HR.out; omega
  have hne2 : ¬ X = w.heap.size := by have := HX.out; omega
  have r0 := (show w1.cell? ⟨R, 0, none⟩ = some (.int .i64 2) from H1.out.cell 0)
  have r1 := (show w1.cell? ⟨R, 1, none⟩ = some (.int .i64 0) from H1.out.cell 1)
  have s1 := (show w1.cell? ⟨w.heap.size, 1, none⟩ = some (.int .i64 0) from HN1.out.cell 1)
  have s3 := (show w1.cell? ⟨w.heap.size, 3, none⟩ = some (.int .i64 0) from HN1.out.cell 3)
  have s4 := (show w1.cell? ⟨w.heap.size, 4, none⟩ = some (.slice none 0 0) from HN1.out.cell 4)
  have s5 := (show w1.cell? ⟨w.heap.size, 5, none⟩ = some (.slice none 0 0) from HN1.out.cell 5)
  have f1 := HN1.out.free 1
  have f3 := HN1.out.free 3
  have f4 := HN1.out.free 4
  have f5 := HN1.out.free 5
  go_region
  have ho : ∀ n, n ≠ w.heap.size → ((((w1.setCell ⟨w.heap.size, 1, none⟩ (.int .i64 2)).setCell ⟨w.heap.size, 3, none⟩ (.int .i64 0)).setCell ⟨w.heap.size, 4, none⟩ (.slice none 0 0)).setCell ⟨w.heap.size, 5, none⟩ (.slice none 0 0)).drew.heap[n]? = w1.heap[n]? := fun n hn => by
    show ((((w1.setCell ⟨w.heap.size, 1, none⟩ (.int .i64 2)).setCell ⟨w.heap.size, 3, none⟩ (.int .i64 0)).setCell ⟨w.heap.size, 4, none⟩ (.slice none 0 0)).setCell ⟨w.heap.size, 5, none⟩ (.slice none 0 0)).heap[n]? = _
    exact (Below.heap_setCell _ ⟨w.heap.size, 5, none⟩ _ n hn).trans ((Below.heap_setCell _ ⟨w.heap.size, 4, none⟩ _ n hn).trans ((Below.heap_setCell _ ⟨w.heap.size, 3, none⟩ _ n hn).trans (Below.heap_setCell _ ⟨w.heap.size, 1, none⟩ _ n hn)))
  have G1 := Lib.hid ((ho R hne).trans H1.out)
  have G2 := Lib.hid ((ho X hne2).trans H2.out)
  have G3 := Lib.hid (show MapI _ m2 [] from (ho m2 (fun e => by
    have h := H3.out
    unfold MapI at h
    rw [e, HN1.out] at h
    cases h)).trans H3.out)
  have G4 := Lib.hid (show Row ((((w1.setCell ⟨w.heap.size, 1, none⟩ (.int .i64 2)).setCell ⟨w.heap.size, 3, none⟩ (.int .i64 0)).setCell ⟨w.heap.size, 4, none⟩ (.slice none 0 0)).setCell ⟨w.heap.size, 5, none⟩ (.slice none 0 0)).drew w.heap.size 66 [.int .i64 0, .int .i64 2, .int .i64 0, .int .i64 0, .slice none 0 0, .slice none 0 0, .int .i64 0, .int .i64 0, .slice none 0 0, .int .i64 0] from ((((HN1.out.set 1 (.int .i64 2)).set 3 (.int .i64 0)).set 4 (.slice none 0 0)).set 5 (.slice none 0 0)).drew)
  have G5 := Lib.hid ((ho (w.heap.size + 1) (by omega)).trans HN2.out)
  have G6 := Lib.hid (show Below w.heap.size w ((((w1.setCell ⟨w.heap.size, 1, none⟩ (.int .i64 2)).setCell ⟨w.heap.size, 3, none⟩ (.int .i64 0)).setCell ⟨w.heap.size, 4, none⟩ (.slice none 0 0)).setCell ⟨w.heap.size, 5, none⟩ (.slice none 0 0)).drew from ((((HB.out.setCell (p := ⟨w.heap.size, 1, none⟩) (Nat.le_refl _) (.int .i64 2)).setCell (p := ⟨w.heap.size, 3, none⟩) (Nat.le_refl _) (.int .i64 0)).setCell (p := ⟨w.heap.size, 4, none⟩) (Nat.le_refl _) (.slice none 0 0)).setCell (p := ⟨w.heap.size, 5, none⟩) (Nat.le_refl _) (.slice none 0 0)).drew)
  clear ho r0 r1 s1 s3 s4 s5 f1 f3 f4 f5 H1 H2 H3 HN1 HN2 HB
  generalize ((((w1.setCell ⟨w.heap.size, 1, none⟩ (.int .i64 2)).setCell ⟨w.heap.size, 3, none⟩ (.int .i64 0)).setCell ⟨w.heap.size, 4, none⟩ (.slice none 0 0)).setCell ⟨w.heap.size, 5, none⟩ (.slice none 0 0)).drew = w2 at *
  have r0 := (show w2.cell? ⟨R, 0, none⟩ = some (.int .i64 2) from Row.cell G1.out 0)
  have r3 := (show w2.cell? ⟨R, 3, none⟩ = some (.pointer (some ⟨X, 0, none⟩)) from Row.cell G1.out 3)
  have s5 := (show w2.cell? ⟨w.heap.size, 5, none⟩ = some (.slice none 0 0) from Row.cell G4.out 5)
  have f5 := Row.free G4.out 5
  go_wp2_with (first
    | (go_at_call 125; refine (call_list X m1 m2 m3 _ G2.out G3.out).mono ?_; rintro e w3 ⟨rfl, rfl⟩)
    | (have hg := G4.out; clear hg; refine wpList_load_row rfl 66 _ rfl w.heap.size rfl 66 (nodeL 0 2 0).toArray (0, 0) _ (G4.out.set 5 (.slice none 0 0)) Tryz.underlying66 rfl (by kernel_rfl) ?_)
    | (refine wpl_store (show Row _ (w.heap.size + 1) 66 (nodeL 0 0 0) from (Below.heap_setCell _ ⟨w.heap.size, 5, none⟩ _ _ (by simp)).trans G5.out) rfl 66 _ _ rfl (nodeL 0 2 0) rfl rfl 10 (by rfl) (by rfl) (by decide) (by kernel_rfl) ?_))
  have hB2 := (G6.out.setCell (p := ⟨w.heap.size, 5, none⟩) (Nat.le_refl _) (.slice none 0 0))
  have hR9 : Row ((w3.setCell ⟨w.heap.size, 5, none⟩ (.slice none 0 0)).setRow (w.heap.size + 1) (nodeL 0 2 0).toArray) (w.heap.size + 1) 66 (nodeL 0 2 0) := setRow_heap _ _ _ _ 66 _ (show Row _ (w.heap.size + 1) 66 (nodeL 0 0 0) from (Below.heap_setCell w3 ⟨w.heap.size, 5, none⟩ (.slice none 0 0) _ (by simp)).trans G5.out)
  exact bodyPost_agg hR9 4 66 rfl _ rfl (n := 10) rfl Tryz.underlying66 rfl (by kernel_rfl) rfl ⟨rfl, below_setRow hB2 (Nat.le_succ _) _⟩
set_option maxHeartbeats 4000000 in
theorem call_replay (w : World) :
    Calls Tryz.prog 61 #[.int .i64 2, .slice none 0 0] w fun e w' => e = .returned (.tuple #[.agg (nodeL 0 2 0).toArray, .int .i64 0]) ∧ Below w.heap.size w w' := by
  have H0 := Lib.hid (Row.new w 66 (nodeL 0 0 0))
  have HB0 := Lib.hid (below_alloc1 w (.cells (nodeL 0 0 0).toArray 66))
  have hnl : ∀ R W, Sen W R → Calls Tryz.prog 94 #[.pointer (some ⟨R, 0, none⟩), .agg #[.int .i64 0, .int .i64 0, .int .i64 0, .int .i64 0, .slice none 0 0, .slice none 0 0, .int .i64 0, .int .i64 0, .slice none 0 0, .int .i64 0]] W fun e w' => e = .returned (.agg #[.int .i64 0, .int .i64 2, .int .i64 0, .int .i64 0, .slice none 0 0, .slice none 0 0, .int .i64 0, .int .i64 0, .slice none 0 0, .int .i64 0]) ∧ Below W.heap.size W w' := fun R W h => call_into R W h
  have HNL := Lib.hid hnl
  clear hnl
  go_enter Tryz.func61, Tryz.ntmps61
  go_wp2_with (first
    | (go_at_call 92; refine (call_empty _).mono ?_; rintro e w1 ⟨R, rfl, hs, hb⟩; have H1 := Lib.hid (H0.out.below hb H0.out.lt); have HB1 := Lib.hid (below_after HB0.out hb); have HS1 := Lib.hid hs; clear hb hs H0 HB0)
    | (go_at_call 94; have hg := HS1.out; clear hg; refine (HNL.out R _ HS1.out).mono ?_; rintro e w2 ⟨rfl, hb⟩; have H2 := Lib.hid (H1.out.below hb H1.out.lt); have HB2 := Lib.hid (below_after HB1.out hb); clear hb HS1 H1 HB1))
  go_loopw [19] (fun iv wr => iv = .int .i64 0 ∧ Row wr w.heap.size 66 (nodeL 0 0 0) ∧ Below w.heap.size w wr ∧ Sen wr R) (fun _ _ => 0)
  case atStart => exact ⟨rfl, H1.out, HB1.out, HS1.out⟩
  case round =>
    obtain ⟨rfl, hr, hb, hs⟩ := hrel
    have H2 := Lib.hid hr
    have HB2 := Lib.hid hb
    have HS2 := Lib.hid hs
    clear hr hb hs
    go_wp2_with (first
      | (go_at_call 94; refine (HNL.out R _ HS2.out).mono ?_; rintro e w3 ⟨rfl, hb⟩; have H3 := Lib.hid (H2.out.below hb H2.out.lt); have HB3 := Lib.hid (below_after HB2.out hb); clear hb HS2 H2 HB2)
      | (have hg := H3.out; clear hg; refine wpl_store (H3.out.alloc (.cells (nodeL 0 2 0).toArray 66)) rfl 66 _ _ rfl (nodeL 0 2 0) rfl rfl 10 (by rfl) (by rfl) (by decide) (by kernel_rfl) ?_))
    have H9 := Lib.hid (show Row ((w3.alloc (.cells (nodeL 0 2 0).toArray 66)).setRow w.heap.size (nodeL 0 2 0).toArray) w.heap.size 66 (nodeL 0 2 0) from setRow_heap _ _ _ _ 66 _ (H3.out.alloc (.cells (nodeL 0 2 0).toArray 66)))
    have H10 := Lib.hid (below_setRow (HB3.out.alloc HB3.out.size (.cells (nodeL 0 2 0).toArray 66)) (Nat.le_refl _) (nodeL 0 2 0).toArray)
    clear H3 HB3 HNL
    have hld := run_loadVar_row (P := Tryz.prog) _ w.heap.size 66 66 (nodeL 0 2 0).toArray (0, 0) _ H9.out Tryz.underlying66 rfl (by kernel_rfl)
    refine ⟨rfl, .tuple #[.agg (nodeL 0 2 0).toArray, .int .i64 0], ?_, rfl, H10.out⟩
    simp only [results, Tryz.results61]
    simp only [nodeL] at hld ⊢
    simp [asAddr, hld, Result.andThen]
end Go.Proofs.YtgoogbakhhbnhaaGreatDoor.Ar
