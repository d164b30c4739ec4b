
/-
  Mend, l: a slot of the image.
-/
import Derived.Test.YtgoogbakhhbnhaaGreatDoorMk
set_option linter.unusedVariables false
set_option linter.unusedSimpArgs false
set_option maxRecDepth 100000
namespace Go.Proofs.YtgoogbakhhbnhaaGreatDoor.Ar
open Go.RowKit Go.Sort Go.Lib Go.Proofs.YtgoogbakhhbnhaaGreatDoor.Rs
def wsl (a b c : Int) : Nat → List Value
  | 0 => [.int .u64 0, .int .u64 0, .int .u64 0]
  | 1 => [.int .u64 a, .int .u64 0, .int .u64 0]
  | 2 => [.int .u64 a, .int .u64 b, .int .u64 0]
  | _ => [.int .u64 a, .int .u64 b, .int .u64 c]
set_option maxHeartbeats 2000000 in
theorem call_slotOf (l : List UInt8) (n p : Nat) (x0 x1 x2 x3 : Int) (vb : Value) (w : World) (n0 : 1 ≤ n) (n1 : n ≤ 256) (hp : p = 2048 + (n - 1) * 64) (hl : p + 24 ≤ l.length) (hl2 : l.length ≤ 1000000000)
    (hv : Sl RByte 1 w vb l) (hst : Stp w)
    (hO : ∀ W, Stp W → Calls Tryz.prog 87 #[.int .i64 n, .agg #[.int .u64 (leN l p 8), .int .u64 (leN l (p + 8) 8), .int .u64 (leN l (p + 16) 8)]] W fun e w' => e = .returned (.tuple #[.agg #[.int .i64 x0, .int .i64 x1, .int .i64 x2, .int .i64 x3], .int .i64 0]) ∧ Below W.heap.size W w') :
    Calls Tryz.prog 59 #[vb, .int .i64 n] w fun e w' => e = .returned (.tuple #[.agg #[.int .i64 x0, .int .i64 x1, .int .i64 x2, .int .i64 x3], .int .i64 0]) ∧ Below w.heap.size w w' := by
  have HO := Lib.hid hO
  have HST := Lib.hid hst
  have HV := Lib.hid hv
  have hsa := Lib.hid (fun W => call_slotAt (n : Int) (by omega) (by omega) W)
  have hpp : (2048 : Int) + ((n : Int) - 1) * 64 = (p : Int) := by omega
  rw [hpp] at hsa
  have hw0 := Lib.hid (fun W (h : Sl RByte 1 W vb l) => call_word vb l p W h hl2 (by omega))
  have hw1 := Lib.hid (fun W (h : Sl RByte 1 W vb l) => call_word vb l (p + 8) W h hl2 (by omega))
  have hw2 := Lib.hid (fun W (h : Sl RByte 1 W vb l) => call_word vb l (p + 16) W h hl2 (by omega))
  rw [Int.natCast_add, show ((8 : Nat) : Int) = 8 from rfl] at hw1
  rw [Int.natCast_add, show ((16 : Nat) : Int) = 16 from rfl] at hw2
  generalize leN l p 8 = a at *
  generalize leN l (p + 8) 8 = b at *
  generalize leN l (p + 16) 8 = c at *
  have p0 : (p : Int) ≤ 20000 := by omega
  have p1 : (0 : Int) ≤ p := by omega
  clear hO hst hv hpp hp
  go_enter Tryz.func59, Tryz.ntmps59
  go_wp2_with fail
  go_loopw [8] (fun iv wr => ∃ j : Nat, iv = .int .i64 j ∧ j ≤ 3 ∧ Row wr (w.heap.size + 1) 46 (wsl a b c j) ∧ Row wr w.heap.size 50 [.int .i64 0, .int .i64 0, .int .i64 0, .int .i64 0] ∧ Below w.heap.size w wr)
    (fun iv _ => 3 - (RowKit.intOf iv).toNat)
  case atStart =>
    have h1 := Row.new (w.alloc (.cells #[.int .i64 0, .int .i64 0, .int .i64 0, .int .i64 0] 50)) 46 [.int .u64 0, .int .u64 0, .int .u64 0]
    rw [alloc_size] at h1
    exact ⟨0, rfl, by omega, h1, (Row.new w 50 [.int .i64 0, .int .i64 0, .int .i64 0, .int .i64 0]).below (below_alloc1 _ _) (by simp), below_alloc2 w _ _⟩
  case round =>
    obtain ⟨j, rfl, hj, hr, hs, hb⟩ := hrel
    have HR := Lib.hid hr
    have HS := Lib.hid hs
    have HB := Lib.hid hb
    clear hr hs hb
    rcases (show j = 0 ∨ j = 1 ∨ j = 2 ∨ j = 3 by omega) with rfl | rfl | rfl | rfl
    · have s0 := (show wr.cell? ⟨w.heap.size + 1, 0, none⟩ = some (.int .u64 0) from HR.out.cell 0)
      have s1 := HR.out.free 0
      go_wp2_with (first
        | (go_at_call 30; refine (hsa.out _).mono ?_; rintro e w1 ⟨rfl, rfl⟩)
        | (go_at_call 86; refine (hw0.out _ (HV.out.keep RByte.stays (keeps_below HB.out))).mono ?_; rintro e w1 ⟨rfl, rfl⟩))
      go_roundw
      case rel => exact ⟨1, rfl, by omega, HR.out.set 0 _, (Below.heap_setCell _ ⟨w.heap.size + 1, 0, none⟩ _ w.heap.size (by simp)).trans HS.out, HB.out.setCell (p := ⟨w.heap.size + 1, 0, none⟩) (Nat.le_succ _) _⟩
      case measure => simp [RowKit.intOf]
    · have s0 := (show wr.cell? ⟨w.heap.size + 1, 1, none⟩ = some (.int .u64 0) from HR.out.cell 1)
      have s1 := HR.out.free 1
      go_wp2_with (first
        | (go_at_call 30; refine (hsa.out _).mono ?_; rintro e w1 ⟨rfl, rfl⟩)
        | (go_at_call 86; refine (hw1.out _ (HV.out.keep RByte.stays (keeps_below HB.out))).mono ?_; rintro e w1 ⟨rfl, rfl⟩))
      go_roundw
      case rel => exact ⟨2, rfl, by omega, HR.out.set 1 _, (Below.heap_setCell _ ⟨w.heap.size + 1, 1, none⟩ _ w.heap.size (by simp)).trans HS.out, HB.out.setCell (p := ⟨w.heap.size + 1, 1, none⟩) (Nat.le_succ _) _⟩
      case measure => simp [RowKit.intOf]
    · have s0 := (show wr.cell? ⟨w.heap.size + 1, 2, none⟩ = some (.int .u64 0) from HR.out.cell 2)
      have s1 := HR.out.free 2
      go_wp2_with (first
        | (go_at_call 30; refine (hsa.out _).mono ?_; rintro e w1 ⟨rfl, rfl⟩)
        | (go_at_call 86; refine (hw2.out _ (HV.out.keep RByte.stays (keeps_below HB.out))).mono ?_; rintro e w1 ⟨rfl, rfl⟩))
      go_roundw
      case rel => exact ⟨3, rfl, by omega, HR.out.set 2 _, (Below.heap_setCell _ ⟨w.heap.size + 1, 2, none⟩ _ w.heap.size (by simp)).trans HS.out, HB.out.setCell (p := ⟨w.heap.size + 1, 2, none⟩) (Nat.le_succ _) _⟩
      case measure => simp [RowKit.intOf]
    · have hld : 1 = 1 := rfl
      go_wp2_with (first
        | (refine wpList_load_row rfl 46 _ rfl (w.heap.size + 1) rfl 46 (wsl a b c 3).toArray (0, 0) _ HR.out Tryz.underlying46 rfl (by kernel_rfl) ?_)
        | (go_at_call 87; refine (HO.out _ (HST.out.below HB.out)).mono ?_; rintro e w2 ⟨rfl, hb2⟩; have HB2 := Lib.hid (below_after HB.out hb2); have HS2 := Lib.hid (HS.out.below hb2 HS.out.lt); clear hb2; have t0 := (show w2.cell? ⟨w.heap.size, 0, none⟩ = some (.int .i64 0) from HS2.out.cell 0); have f0 := HS2.out.free 0; have t1 := (show w2.cell? ⟨w.heap.size, 1, none⟩ = some (.int .i64 0) from HS2.out.cell 1); have f1 := HS2.out.free 1; have t2 := (show w2.cell? ⟨w.heap.size, 2, none⟩ = some (.int .i64 0) from HS2.out.cell 2); have f2 := HS2.out.free 2; have t3 := (show w2.cell? ⟨w.heap.size, 3, none⟩ = some (.int .i64 0) from HS2.out.cell 3); have f3 := HS2.out.free 3))
      have hF := (show Row ((((w2.setCell ⟨w.heap.size, 0, none⟩ (.int .i64 x0)).setCell ⟨w.heap.size, 1, none⟩ (.int .i64 x1)).setCell ⟨w.heap.size, 2, none⟩ (.int .i64 x2)).setCell ⟨w.heap.size, 3, none⟩ (.int .i64 x3)) w.heap.size 50 [.int .i64 x0, .int .i64 x1, .int .i64 x2, .int .i64 x3] from ((((HS2.out.set 0 (.int .i64 x0)).set 1 (.int .i64 x1)).set 2 (.int .i64 x2)).set 3 (.int .i64 x3)))
      have hB := (show Below w.heap.size w ((((w2.setCell ⟨w.heap.size, 0, none⟩ (.int .i64 x0)).setCell ⟨w.heap.size, 1, none⟩ (.int .i64 x1)).setCell ⟨w.heap.size, 2, none⟩ (.int .i64 x2)).setCell ⟨w.heap.size, 3, none⟩ (.int .i64 x3)) from ((((HB2.out.setCell (p := ⟨w.heap.size, 0, none⟩) (Nat.le_refl _) (.int .i64 x0)).setCell (p := ⟨w.heap.size, 1, none⟩) (Nat.le_refl _) (.int .i64 x1)).setCell (p := ⟨w.heap.size, 2, none⟩) (Nat.le_refl _) (.int .i64 x2)).setCell (p := ⟨w.heap.size, 3, none⟩) (Nat.le_refl _) (.int .i64 x3)))
      clear HS2 HB2 t0 t1 t2 t3 f0 f1 f2 f3
      generalize ((((w2.setCell ⟨w.heap.size, 0, none⟩ (.int .i64 x0)).setCell ⟨w.heap.size, 1, none⟩ (.int .i64 x1)).setCell ⟨w.heap.size, 2, none⟩ (.int .i64 x2)).setCell ⟨w.heap.size, 3, none⟩ (.int .i64 x3)) = wf at *
      have t0 := (show wf.cell? ⟨w.heap.size, 0, none⟩ = some (.int .i64 x0) from hF.cell 0)
      have t1 := (show wf.cell? ⟨w.heap.size, 1, none⟩ = some (.int .i64 x1) from hF.cell 1)
      have t2 := (show wf.cell? ⟨w.heap.size, 2, none⟩ = some (.int .i64 x2) from hF.cell 2)
      have t3 := (show wf.cell? ⟨w.heap.size, 3, none⟩ = some (.int .i64 x3) from hF.cell 3)
      exact ⟨rfl, .tuple #[.agg #[.int .i64 x0, .int .i64 x1, .int .i64 x2, .int .i64 x3], .int .i64 0], by simp [results, Tryz.results59, go_sem, t0, t1, t2, t3], rfl, hB⟩
end Go.Proofs.YtgoogbakhhbnhaaGreatDoor.Ar
