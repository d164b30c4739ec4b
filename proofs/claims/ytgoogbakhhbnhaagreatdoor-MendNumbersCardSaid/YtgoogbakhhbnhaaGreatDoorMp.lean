/-
  Mend, p: a slot, packed.
-/
import Derived.Test.YtgoogbakhhbnhaaGreatDoorMo
set_option linter.unusedVariables false
set_option linter.unusedSimpArgs false
set_option maxRecDepth 100000
namespace Go.Proofs.YtgoogbakhhbnhaaGreatDoor.Ar
open Go.RowKit Go.Sort Go.Lib Go.Proofs.YtgoogbakhhbnhaaGreatDoor.Rs
set_option maxHeartbeats 4000000 in
theorem call_packSlot (n p : Nat) (x : Int) (w : World) (n0 : 1 ≤ n) (n1 : n ≤ 256) (hp : p = 2048 + (n - 1) * 64) (hx : sealI p 258 = x) (hst : Stp w) :
    Calls Tryz.prog 9 #[.int .i64 n, .agg #[.int .i64 2, .int .i64 1, .int .i64 0, .int .i64 0]] w fun e w' => e = .returned (.tuple #[.agg #[.int .u64 x, .int .u64 0, .int .u64 0], .int .i64 0]) ∧ Below w.heap.size w w' := by
  have HST := Lib.hid hst
  have hii := Lib.hid (fun W => call_isInode (n : Int) (by omega) (by omega) W)
  have hsa := Lib.hid (fun W => call_slotAt (n : Int) (by omega) (by omega) W)
  have hpp : (2048 : Int) + ((n : Int) - 1) * 64 = (p : Int) := by omega
  rw [hpp] at hsa
  have p0 : (p : Int) ≤ 20000 := by omega
  have p1 : (0 : Int) ≤ p := by omega
  have hs0 := Lib.hid (fun W (h : Stp W) => call_seal (p : Int) 258 p1 (by omega) (by omega) (by omega) W h)
  have hs1 := Lib.hid (fun W (h : Stp W) => call_seal ((p : Int) + 8) 0 (by omega) (by omega) (by omega) (by omega) W h)
  have hs2 := Lib.hid (fun W (h : Stp W) => call_seal ((p : Int) + 16) 0 (by omega) (by omega) (by omega) (by omega) W h)
  rw [hx] at hs0
  rw [show sealI ((p : Int) + 8) 0 = 0 from if_pos rfl] at hs1
  rw [show sealI ((p : Int) + 16) 0 = 0 from if_pos rfl] at hs2
  have h0a := (Row.new w 50 [.int .i64 2, .int .i64 1, .int .i64 0, .int .i64 0]).below (below_alloc1 _ (.cells #[.int .u64 0, .int .u64 0, .int .u64 0] 46)) (by simp)
  have H0a := Lib.hid h0a
  have H0b := Lib.hid (row_new1 w (.cells #[.int .i64 2, .int .i64 1, .int .i64 0, .int .i64 0] 50) 46 [.int .u64 0, .int .u64 0, .int .u64 0])
  have H0c := Lib.hid (below_alloc2 w (.cells #[.int .i64 2, .int .i64 1, .int .i64 0, .int .i64 0] 50) (.cells #[.int .u64 0, .int .u64 0, .int .u64 0] 46))
  clear hst hpp hp hx h0a
  go_enter Tryz.func9, Tryz.ntmps9
  go_wp2_with (first
    | (go_at_call 27; refine (hii.out _).mono ?_; rintro e w1 ⟨rfl, rfl⟩)
    | (go_at_call 28; refine (call_goodUse _).mono ?_; rintro e w1 ⟨rfl, hb⟩; have H1a := Lib.hid (H0a.out.below hb H0a.out.lt); have H1b := Lib.hid (H0b.out.below hb H0b.out.lt); have H1c := Lib.hid (below_after H0c.out hb); have H2a := Lib.hid (H1a.out.alloc (.cells #[.int .u64 0, .int .u64 0, .int .u64 0] 46)); have H2b := Lib.hid (H1b.out.alloc (.cells #[.int .u64 0, .int .u64 0, .int .u64 0] 46)); have H2c := Lib.hid (H1c.out.alloc H1c.out.size (.cells #[.int .u64 0, .int .u64 0, .int .u64 0] 46)); have H2d := Lib.hid (Row.new w1 46 [.int .u64 0, .int .u64 0, .int .u64 0]); have H2e := Lib.hid (Nat.lt_of_lt_of_le H1b.out.lt (Nat.le_refl _)); clear hb H0a H0b H0c H1a H1b H1c; have s0 := (show (w1.alloc (.cells #[.int .u64 0, .int .u64 0, .int .u64 0] 46)).cell? ⟨w.heap.size, 0, none⟩ = some (.int .i64 2) from H2a.out.cell 0); have s1 := (show (w1.alloc (.cells #[.int .u64 0, .int .u64 0, .int .u64 0] 46)).cell? ⟨w.heap.size, 1, none⟩ = some (.int .i64 1) from H2a.out.cell 1); have s2 := (show (w1.alloc (.cells #[.int .u64 0, .int .u64 0, .int .u64 0] 46)).cell? ⟨w.heap.size, 2, none⟩ = some (.int .i64 0) from H2a.out.cell 2); have s3 := (show (w1.alloc (.cells #[.int .u64 0, .int .u64 0, .int .u64 0] 46)).cell? ⟨w.heap.size, 3, none⟩ = some (.int .i64 0) from H2a.out.cell 3)))
  have hi0 : ∀ y, (Instr.index 90 (.agg #[.int .i64 258, .int .i64 0, .int .i64 0]) (.int .i64 0)).run Tryz.prog y = .ok (.int .i64 258) y := fun y => by rfl
  have hi1 : ∀ y, (Instr.index 90 (.agg #[.int .i64 258, .int .i64 0, .int .i64 0]) (.int .i64 1)).run Tryz.prog y = .ok (.int .i64 0) y := fun y => by rfl
  have hi2 : ∀ y, (Instr.index 90 (.agg #[.int .i64 258, .int .i64 0, .int .i64 0]) (.int .i64 2)).run Tryz.prog y = .ok (.int .i64 0) y := fun y => by rfl
  have hor : bits .or .i64 2 256 = 258 := by decide
  generalize (w1.alloc (.cells #[.int .u64 0, .int .u64 0, .int .u64 0] 46)) = w2 at *
  generalize w1.heap.size = B at *
  rw [hor]
  clear hor
  go_loopw [7, 8, 34] (fun _ _ iv wr => ∃ j : Nat, iv = .int .i64 j ∧ j ≤ 3 ∧ Row wr B 46 (wsl x 0 0 j) ∧ Row wr (w.heap.size + 1) 46 [.int .u64 0, .int .u64 0, .int .u64 0] ∧ Below w.heap.size w wr)
    (fun _ _ iv _ => 3 - (RowKit.intOf iv).toNat)
  case atStart => exact ⟨0, rfl, by omega, H2d.out, H2b.out, H2c.out⟩
  case round =>
    obtain ⟨j, rfl, hj, hr, hs, hb⟩ := hrel
    have HR := Lib.hid hr
    have HS := Lib.hid hs
    have HB := Lib.hid hb
    have hne := H2e.out
    clear hr hs hb s0 s1 s2 s3
    rcases (show j = 0 ∨ j = 1 ∨ j = 2 ∨ j = 3 by omega) with rfl | rfl | rfl | rfl
    · go_wp2_with (first
        | (go_at_call 30; refine (hsa.out _).mono ?_; rintro e w3 ⟨rfl, rfl⟩)
        | (go_at_call 29; refine (hs0.out _ (HST.out.below HB.out)).mono ?_; rintro e w4 ⟨rfl, hb⟩; have HR1 := Lib.hid (HR.out.below hb HR.out.lt); have HS1 := Lib.hid (HS.out.below hb HS.out.lt); have HB1 := Lib.hid (below_after HB.out hb); clear hb; have t0 := (show w4.cell? ⟨B, 0, none⟩ = some (.int .u64 0) from HR1.out.cell 0); have t1 := HR1.out.free 0))
      go_roundw
      case rel => exact ⟨1, rfl, by omega, HR1.out.set 0 _, (Below.heap_setCell _ ⟨B, 0, none⟩ _ (w.heap.size + 1) (by simp; omega)).trans HS1.out, HB1.out.setCell (p := ⟨B, 0, none⟩) (by show w.heap.size ≤ B; omega) _⟩
      case measure => simp [RowKit.intOf]
    · go_wp2_with (first
        | (go_at_call 30; refine (hsa.out _).mono ?_; rintro e w3 ⟨rfl, rfl⟩)
        | (go_at_call 29; refine (hs1.out _ (HST.out.below HB.out)).mono ?_; rintro e w4 ⟨rfl, hb⟩; have HR1 := Lib.hid (HR.out.below hb HR.out.lt); have HS1 := Lib.hid (HS.out.below hb HS.out.lt); have HB1 := Lib.hid (below_after HB.out hb); clear hb; have t0 := (show w4.cell? ⟨B, 1, none⟩ = some (.int .u64 0) from HR1.out.cell 1); have t1 := HR1.out.free 1))
      go_roundw
      case rel => exact ⟨2, rfl, by omega, HR1.out.set 1 _, (Below.heap_setCell _ ⟨B, 1, none⟩ _ (w.heap.size + 1) (by simp; omega)).trans HS1.out, HB1.out.setCell (p := ⟨B, 1, none⟩) (by show w.heap.size ≤ B; omega) _⟩
      case measure => simp [RowKit.intOf]
    · go_wp2_with (first
        | (go_at_call 30; refine (hsa.out _).mono ?_; rintro e w3 ⟨rfl, rfl⟩)
        | (go_at_call 29; refine (hs2.out _ (HST.out.below HB.out)).mono ?_; rintro e w4 ⟨rfl, hb⟩; have HR1 := Lib.hid (HR.out.below hb HR.out.lt); have HS1 := Lib.hid (HS.out.below hb HS.out.lt); have HB1 := Lib.hid (below_after HB.out hb); clear hb; have t0 := (show w4.cell? ⟨B, 2, none⟩ = some (.int .u64 0) from HR1.out.cell 2); have t1 := HR1.out.free 2))
      go_roundw
      case rel => exact ⟨3, rfl, by omega, HR1.out.set 2 _, (Below.heap_setCell _ ⟨B, 2, none⟩ _ (w.heap.size + 1) (by simp; omega)).trans HS1.out, HB1.out.setCell (p := ⟨B, 2, none⟩) (by show w.heap.size ≤ B; omega) _⟩
      case measure => simp [RowKit.intOf]
    · go_wp2_with (first
        | (refine wpList_load_row rfl 46 _ rfl B rfl 46 (wsl x 0 0 3).toArray (0, 0) _ HR.out Tryz.underlying46 rfl (by kernel_rfl) ?_)
        | (refine wpl_store HS.out rfl 46 _ _ rfl [.int .u64 x, .int .u64 0, .int .u64 0] rfl rfl 3 (by rfl) (by rfl) (by intro v hv; simp at hv; rcases hv with rfl | rfl <;> rfl) (by kernel_rfl) ?_))
      have H9 := Lib.hid (show Row (wr.setRow (w.heap.size + 1) #[.int .u64 x, .int .u64 0, .int .u64 0]) (w.heap.size + 1) 46 [.int .u64 x, .int .u64 0, .int .u64 0] from setRow_heap _ _ _ _ 46 _ HS.out)
      have H10 := Lib.hid (below_setRow HB.out (Nat.le_succ _) #[.int .u64 x, .int .u64 0, .int .u64 0])
      clear HR HS HB
      generalize wr.setRow (w.heap.size + 1) #[.int .u64 x, .int .u64 0, .int .u64 0] = wf at *
      have hld := run_loadVar_row (P := Tryz.prog) wf (w.heap.size + 1) 46 46 #[.int .u64 x, .int .u64 0, .int .u64 0] (0, 0) _ H9.out Tryz.underlying46 rfl (by kernel_rfl)
      exact ⟨rfl, .tuple #[.agg #[.int .u64 x, .int .u64 0, .int .u64 0], .int .i64 0], by simp only [results, Tryz.results9]; simp [asAddr, hld, Result.andThen], rfl, H10.out⟩
end Go.Proofs.YtgoogbakhhbnhaaGreatDoor.Ar
