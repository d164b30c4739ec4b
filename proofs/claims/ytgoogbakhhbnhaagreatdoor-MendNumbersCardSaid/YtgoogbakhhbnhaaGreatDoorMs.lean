/-
  Mend, s: an inode, scanned.
-/
import Derived.Test.YtgoogbakhhbnhaaGreatDoorMr
set_option linter.unusedVariables false
set_option linter.unusedSimpArgs false
set_option maxRecDepth 100000
namespace Go.Proofs.YtgoogbakhhbnhaaGreatDoor.Ar
open Go.RowKit Go.Sort Go.Lib Go.Proofs.YtgoogbakhhbnhaaGreatDoor.Rs
theorem nodeL_one (i k l : Int) : ∀ v ∈ nodeL i k l, v.oneCell' = true := by
  intro v hv
  simp only [nodeL, List.mem_cons, List.not_mem_nil, or_false] at hv
  rcases hv with rfl | rfl | rfl | rfl | rfl | rfl | rfl | rfl | rfl | rfl <;> rfl
/-- the walk of a scan -/
structure Scn (w w' : World) (vb : Value) (l : List UInt8) : Prop where
  shp : Row w' w.heap.size 58 [.int .i64 24, .int .i64 8, .int .i64 1, .int .i64 5]
  out : Row w' (w.heap.size + 1) 66 (nodeL 0 0 0)
  sl : Sl RByte 1 w' vb l
  below : Below w.heap.size w w'
theorem Scn.under {w w' w'' : World} {vb : Value} {l : List UInt8} (h : Scn w w' vb l) (hb : Below w'.heap.size w' w'') : Scn w w'' vb l :=
  ⟨h.shp.below hb h.shp.lt, h.out.below hb h.out.lt, h.sl.keep RByte.stays (keeps_below hb), below_after h.below hb⟩
theorem Scn.first {w : World} {vb : Value} {l : List UInt8} (h : Sl RByte 1 w vb l) : Scn w ((w.alloc (.cells #[.int .i64 24, .int .i64 8, .int .i64 1, .int .i64 5] 58)).alloc (.cells (nodeL 0 0 0).toArray 66)) vb l :=
  ⟨(Row.new w 58 [.int .i64 24, .int .i64 8, .int .i64 1, .int .i64 5]).below (below_alloc1 _ _) (by simp), row_new1 w _ 66 (nodeL 0 0 0), h.keep RByte.stays (keeps_below (below_alloc2 _ _ _)), below_alloc2 _ _ _⟩
/-- what a slot of the image says -/
def SlotIs (vb : Value) (l : List UInt8) (n : Nat) (k li : Int) : Prop := ∀ W, Stp W → Sl RByte 1 W vb l → Calls Tryz.prog 59 #[vb, .int .i64 n] W fun e w' => e = .returned (.tuple #[.agg #[.int .i64 k, .int .i64 li, .int .i64 0, .int .i64 0], .int .i64 0]) ∧ Below W.heap.size W w'
set_option maxHeartbeats 4000000 in
theorem call_scan_free (n c : Nat) (a : Option Addr) (l : List UInt8) (w : World) (n0 : 1 ≤ n) (n1 : n ≤ 8) (hst : Stp w) (hv : Sl RByte 1 w (.slice a 12288 c) l) (hs : SlotIs (.slice a 12288 c) l n 0 0) :
    Calls Tryz.prog 34 #[.slice a 12288 c, shpV, .int .i64 n] w fun e w' => e = .returned (.tuple #[.agg (nodeL n 0 0).toArray, .int .i64 0]) ∧ Below w.heap.size w w' := by
  have HST := Lib.hid hst
  have HS := Lib.hid hs
  have k0 : (1 : Int) ≤ n := by omega
  have k1 : (n : Int) ≤ 8 := by omega
  have H0 := Lib.hid (Scn.first hv)
  clear hst hs hv
  unfold shpV
  go_enter Tryz.func34, Tryz.ntmps34
  go_wp2_with (first
    | (go_at_call 58; refine (call_isShape _).mono ?_; rintro e w1 ⟨rfl, hb⟩; have H1 := Lib.hid (H0.out.under hb); clear hb H0; have s0 := (show w1.cell? ⟨w.heap.size, 0, none⟩ = some (.int .i64 24) from H1.out.shp.cell 0); have s1 := (show w1.cell? ⟨w.heap.size, 1, none⟩ = some (.int .i64 8) from H1.out.shp.cell 1))
    | (go_at_call 59; have hg := H1.out; clear hg; refine (HS.out _ (HST.out.below H1.out.below) H1.out.sl).mono ?_; rintro e w2 ⟨rfl, hb⟩; have H2 := Lib.hid ((H1.out.under hb).under (below_alloc1 _ (.cells #[.int .i64 0, .int .i64 0, .int .i64 0, .int .i64 0] 50))); clear hb H1 s0 s1)
    | (have hg := H2.out; clear hg; refine wpl_store H2.out.out rfl 66 _ _ rfl (nodeL n 0 0) rfl rfl 10 (by rfl) (by rfl) (nodeL_one _ _ _) (by kernel_rfl) ?_))
  have H9 := Lib.hid (show Row ((w2.alloc (.cells #[.int .i64 0, .int .i64 0, .int .i64 0, .int .i64 0] 50)).setRow (w.heap.size + 1) (nodeL n 0 0).toArray) (w.heap.size + 1) 66 (nodeL n 0 0) from setRow_heap _ _ _ _ 66 _ H2.out.out)
  have H10 := Lib.hid (below_setRow H2.out.below (Nat.le_succ _) (nodeL n 0 0).toArray)
  clear H2 HS HST
  have hld := run_loadVar_row (P := Tryz.prog) _ (w.heap.size + 1) 66 66 (nodeL n 0 0).toArray (0, 0) _ H9.out Tryz.underlying66 rfl (by kernel_rfl)
  refine ⟨rfl, .tuple #[.agg (nodeL n 0 0).toArray, .int .i64 0], ?_, rfl, H10.out⟩
  simp only [results, Tryz.results34]
  simp only [nodeL] at hld ⊢
  simp [asAddr, hld, Result.andThen]
/-- the walk of a directory's scan -/
structure Scd (w w' : World) (S : Nat) : Prop where
  scn : ∃ vb l, Scn w w' vb l
  slot : Row w' S 50 [.int .i64 2, .int .i64 1, .int .i64 0, .int .i64 0]
  lt : w.heap.size + 1 < S
theorem Scd.under {w w' w'' : World} {S : Nat} (h : Scd w w' S) (hb : Below w'.heap.size w' w'') : Scd w w'' S := by
  obtain ⟨vb, l, h1⟩ := h.scn
  exact ⟨⟨vb, l, h1.under hb⟩, h.slot.below hb h.slot.lt, h.lt⟩
set_option maxHeartbeats 8000000 in
theorem call_scan_dir (n c : Nat) (a : Option Addr) (l : List UInt8) (w : World) (n0 : 1 ≤ n) (n1 : n ≤ 8) (hst : Stp w) (hv : Sl RByte 1 w (.slice a 12288 c) l) (hs : SlotIs (.slice a 12288 c) l n 2 1) :
    Calls Tryz.prog 34 #[.slice a 12288 c, shpV, .int .i64 n] w fun e w' => e = .returned (.tuple #[.agg (nodeL n 2 1).toArray, .int .i64 0]) ∧ Below w.heap.size w w' := by
  have HST := Lib.hid hst
  have HS := Lib.hid hs
  have k0 : (1 : Int) ≤ n := by omega
  have k1 : (n : Int) ≤ 8 := by omega
  have H0 := Lib.hid (Scn.first hv)
  have HWk := Lib.hid (fun W (h : Stp W) => call_walk n c a W n0 n1 h)
  have HRp := Lib.hid (fun W => call_replay W)
  clear hst hs hv
  unfold shpV dirV nodeL at *
  go_enter Tryz.func34, Tryz.ntmps34
  go_wp2_with (first
    | (go_at_call 58; refine (call_isShape _).mono ?_; rintro e w1 ⟨rfl, hb⟩; have H1 := Lib.hid (H0.out.under hb); clear hb H0; have s0 := (show w1.cell? ⟨w.heap.size, 0, none⟩ = some (.int .i64 24) from H1.out.shp.cell 0); have s1 := (show w1.cell? ⟨w.heap.size, 1, none⟩ = some (.int .i64 8) from H1.out.shp.cell 1))
    | (go_at_call 59; have hg := H1.out; clear hg; refine (HS.out _ (HST.out.below H1.out.below) H1.out.sl).mono ?_; rintro e w2 ⟨rfl, hb⟩; have H2 := Lib.hid (show Scd w (w2.alloc (.cells #[.int .i64 2, .int .i64 1, .int .i64 0, .int .i64 0] 50)) w2.heap.size from ⟨⟨_, _, (H1.out.under hb).under (below_alloc1 _ (.cells #[.int .i64 2, .int .i64 1, .int .i64 0, .int .i64 0] 50))⟩, Row.new w2 50 [.int .i64 2, .int .i64 1, .int .i64 0, .int .i64 0], Nat.lt_of_lt_of_le H1.out.out.lt hb.size⟩); have H2b := Lib.hid (show Stp (w2.alloc (.cells #[.int .i64 2, .int .i64 1, .int .i64 0, .int .i64 0] 50)) from HST.out.below (by have h := below_after H1.out.below hb; exact h.alloc h.size _)); have H2s := Lib.hid (H1.out.under hb).shp; clear hb H1 s0 s1; have s0 := (show World.cell? (w2.alloc (.cells #[.int .i64 2, .int .i64 1, .int .i64 0, .int .i64 0] 50)) ⟨w.heap.size, 0, none⟩ = some (.int .i64 24) from (H2s.out.alloc _).cell 0); have s1 := (show World.cell? (w2.alloc (.cells #[.int .i64 2, .int .i64 1, .int .i64 0, .int .i64 0] 50)) ⟨w.heap.size, 1, none⟩ = some (.int .i64 8) from (H2s.out.alloc _).cell 1); have s2 := (show World.cell? (w2.alloc (.cells #[.int .i64 2, .int .i64 1, .int .i64 0, .int .i64 0] 50)) ⟨w.heap.size, 2, none⟩ = some (.int .i64 1) from (H2s.out.alloc _).cell 2); have s3 := (show World.cell? (w2.alloc (.cells #[.int .i64 2, .int .i64 1, .int .i64 0, .int .i64 0] 50)) ⟨w.heap.size, 3, none⟩ = some (.int .i64 5) from (H2s.out.alloc _).cell 3))
    | (go_at_call 60; refine (HWk.out _ H2b.out).mono ?_; rintro e w3 ⟨rfl, hb⟩; have H3 := Lib.hid (H2.out.under hb); clear hb s0 s1 s2 s3 H2 H2b H2s; generalize w2.heap.size = S at H3 ⊢; have s0 := (show w3.cell? ⟨S, 0, none⟩ = some (.int .i64 2) from H3.out.slot.cell 0))
    | (go_at_call 61; refine (HRp.out _).mono ?_; rintro e w4 ⟨rfl, hb⟩; have H4l := Lib.hid (Nat.lt_of_lt_of_le H3.out.slot.lt hb.size); have H4 := Lib.hid ((H3.out.under hb).under (below_alloc1 _ (.cells #[.int .i64 0, .int .i64 2, .int .i64 0, .int .i64 0, .slice none 0 0, .slice none 0 0, .int .i64 0, .int .i64 0, .slice none 0 0, .int .i64 0] 66))); clear hb s0 H3; have H4n := Lib.hid (Row.new w4 66 [.int .i64 0, .int .i64 2, .int .i64 0, .int .i64 0, .slice none 0 0, .slice none 0 0, .int .i64 0, .int .i64 0, .slice none 0 0, .int .i64 0])))
  have H4b : Hid (Below w.heap.size w (w4.alloc (.cells #[.int .i64 0, .int .i64 2, .int .i64 0, .int .i64 0, .slice none 0 0, .slice none 0 0, .int .i64 0, .int .i64 0, .slice none 0 0, .int .i64 0] 66))) := Lib.hid (by obtain ⟨_, _, h⟩ := H4.out.scn; exact h.below)
  have H4o : Hid (Row (w4.alloc (.cells #[.int .i64 0, .int .i64 2, .int .i64 0, .int .i64 0, .slice none 0 0, .slice none 0 0, .int .i64 0, .int .i64 0, .slice none 0 0, .int .i64 0] 66)) (w.heap.size + 1) 66 (nodeL 0 0 0)) := Lib.hid (by obtain ⟨_, _, h⟩ := H4.out.scn; exact h.out)
  generalize (w4.alloc (.cells #[.int .i64 0, .int .i64 2, .int .i64 0, .int .i64 0, .slice none 0 0, .slice none 0 0, .int .i64 0, .int .i64 0, .slice none 0 0, .int .i64 0] 66)) = w5 at *
  generalize w4.heap.size = T at *
  have hne : ¬ S = T := by have := H4l.out; omega
  have hne2 : ¬ T = S := by have := H4l.out; omega
  have s1 := (show w5.cell? ⟨S, 1, none⟩ = some (.int .i64 1) from H4.out.slot.cell 1)
  have s2 := (show w5.cell? ⟨S, 2, none⟩ = some (.int .i64 0) from H4.out.slot.cell 2)
  have s3 := (show w5.cell? ⟨S, 3, none⟩ = some (.int .i64 0) from H4.out.slot.cell 3)
  have t0 := (show w5.cell? ⟨T, 0, none⟩ = some (.int .i64 0) from H4n.out.cell 0)
  have t2 := (show w5.cell? ⟨T, 2, none⟩ = some (.int .i64 0) from H4n.out.cell 2)
  have t6 := (show w5.cell? ⟨T, 6, none⟩ = some (.int .i64 0) from H4n.out.cell 6)
  have t7 := (show w5.cell? ⟨T, 7, none⟩ = some (.int .i64 0) from H4n.out.cell 7)
  have t8 := (show w5.cell? ⟨T, 8, none⟩ = some (.slice none 0 0) from H4n.out.cell 8)
  have f0 := H4n.out.free 0
  have f2 := H4n.out.free 2
  have f6 := H4n.out.free 6
  have f7 := H4n.out.free 7
  have f8 := H4n.out.free 8
  go_region
  obtain ⟨nn, hnn⟩ : ∃ y : Int, (n : Int) = y := ⟨_, rfl⟩
  have ho : ∀ n, n ≠ T → (((((w5.setCell ⟨T, 0, none⟩ (.int .i64 nn)).setCell ⟨T, 2, none⟩ (.int .i64 1)).setCell ⟨T, 6, none⟩ (.int .i64 0)).setCell ⟨T, 7, none⟩ (.int .i64 0)).setCell ⟨T, 8, none⟩ (.slice none 0 0)).drew.heap[n]? = w5.heap[n]? := fun n hn => by
    show (((((w5.setCell ⟨T, 0, none⟩ (.int .i64 nn)).setCell ⟨T, 2, none⟩ (.int .i64 1)).setCell ⟨T, 6, none⟩ (.int .i64 0)).setCell ⟨T, 7, none⟩ (.int .i64 0)).setCell ⟨T, 8, none⟩ (.slice none 0 0)).heap[n]? = _
    exact (Below.heap_setCell _ ⟨T, 8, none⟩ _ n hn).trans ((Below.heap_setCell _ ⟨T, 7, none⟩ _ n hn).trans ((Below.heap_setCell _ ⟨T, 6, none⟩ _ n hn).trans ((Below.heap_setCell _ ⟨T, 2, none⟩ _ n hn).trans ((Below.heap_setCell _ ⟨T, 0, none⟩ _ n hn)))))
  subst hnn
  have G1 := Lib.hid (show Row (((((w5.setCell ⟨T, 0, none⟩ (.int .i64 n)).setCell ⟨T, 2, none⟩ (.int .i64 1)).setCell ⟨T, 6, none⟩ (.int .i64 0)).setCell ⟨T, 7, none⟩ (.int .i64 0)).setCell ⟨T, 8, none⟩ (.slice none 0 0)).drew T 66 (nodeL n 2 1) from (((((H4n.out.set 0 (.int .i64 n)).set 2 (.int .i64 1)).set 6 (.int .i64 0)).set 7 (.int .i64 0)).set 8 (.slice none 0 0)).drew)
  have G2 := Lib.hid (show Row (((((w5.setCell ⟨T, 0, none⟩ (.int .i64 n)).setCell ⟨T, 2, none⟩ (.int .i64 1)).setCell ⟨T, 6, none⟩ (.int .i64 0)).setCell ⟨T, 7, none⟩ (.int .i64 0)).setCell ⟨T, 8, none⟩ (.slice none 0 0)).drew (w.heap.size + 1) 66 (nodeL 0 0 0) from (ho _ (by have := H4.out.lt; have := H4l.out; omega)).trans H4o.out)
  have G3 := Lib.hid (show Below w.heap.size w (((((w5.setCell ⟨T, 0, none⟩ (.int .i64 n)).setCell ⟨T, 2, none⟩ (.int .i64 1)).setCell ⟨T, 6, none⟩ (.int .i64 0)).setCell ⟨T, 7, none⟩ (.int .i64 0)).setCell ⟨T, 8, none⟩ (.slice none 0 0)).drew from (((((H4b.out.setCell (p := ⟨T, 0, none⟩) (by show w.heap.size ≤ T; have := H4.out.lt; have := H4l.out; omega) (.int .i64 n)).setCell (p := ⟨T, 2, none⟩) (by show w.heap.size ≤ T; have := H4.out.lt; have := H4l.out; omega) (.int .i64 1)).setCell (p := ⟨T, 6, none⟩) (by show w.heap.size ≤ T; have := H4.out.lt; have := H4l.out; omega) (.int .i64 0)).setCell (p := ⟨T, 7, none⟩) (by show w.heap.size ≤ T; have := H4.out.lt; have := H4l.out; omega) (.int .i64 0)).setCell (p := ⟨T, 8, none⟩) (by show w.heap.size ≤ T; have := H4.out.lt; have := H4l.out; omega) (.slice none 0 0)).drew)
  clear ho s1 s2 s3 t0 t2 t6 t7 t8 f0 f2 f6 f7 f8 H4n H4o H4b H4
  generalize (((((w5.setCell ⟨T, 0, none⟩ (.int .i64 n)).setCell ⟨T, 2, none⟩ (.int .i64 1)).setCell ⟨T, 6, none⟩ (.int .i64 0)).setCell ⟨T, 7, none⟩ (.int .i64 0)).setCell ⟨T, 8, none⟩ (.slice none 0 0)).drew = w6 at *
  go_wp2_with (first
    | (refine wpList_load_row rfl 66 _ rfl T rfl 66 (nodeL n 2 1).toArray (0, 0) _ G1.out Tryz.underlying66 rfl (by kernel_rfl) ?_)
    | (refine wpl_store G2.out rfl 66 _ _ rfl (nodeL n 2 1) rfl rfl 10 (by rfl) (by rfl) (nodeL_one _ _ _) (by kernel_rfl) ?_))
  have H9 := Lib.hid (show Row (w6.setRow (w.heap.size + 1) (nodeL n 2 1).toArray) (w.heap.size + 1) 66 (nodeL n 2 1) from setRow_heap _ _ _ _ 66 _ G2.out)
  have H10 := Lib.hid (below_setRow G3.out (Nat.le_succ _) (nodeL n 2 1).toArray)
  clear G1 G2 G3 HST
  have hld := run_loadVar_row (P := Tryz.prog) _ (w.heap.size + 1) 66 66 (nodeL n 2 1).toArray (0, 0) _ H9.out Tryz.underlying66 rfl (by kernel_rfl)
  refine ⟨rfl, .tuple #[.agg (nodeL n 2 1).toArray, .int .i64 0], ?_, rfl, H10.out⟩
  simp only [results, Tryz.results34]
  simp only [nodeL] at hld ⊢
  simp [asAddr, hld, Result.andThen]
end Go.Proofs.YtgoogbakhhbnhaaGreatDoor.Ar
