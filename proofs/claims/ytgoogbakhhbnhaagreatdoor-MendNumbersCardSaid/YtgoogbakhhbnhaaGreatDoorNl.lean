/-
  Mend: the bytes of three words.
-/
import Derived.Test.YtgoogbakhhbnhaaGreatDoorNk
set_option linter.unusedVariables false
set_option linter.unusedSimpArgs false
set_option maxRecDepth 100000
namespace Go.Proofs.YtgoogbakhhbnhaaGreatDoor.Ar
open Go.RowKit Go.Sort Go.Lib Go.Proofs.YtgoogbakhhbnhaaGreatDoor.Rs
def wordsB (ws : List Int) : List UInt8 := ws.flatMap wordB
theorem wordsB_next (ws : List Int) (j : Nat) (x : Int) (h : ws[j]? = some x) : (wordsB (ws.take j)).map byteV ++ (wordB x).map byteV = (wordsB (ws.take (j + 1))).map byteV := by
  rw [List.take_add_one, h, wordsB, wordsB, List.flatMap_append, List.map_append]
  simp
def Words (w : World) (b : Nat) (ws : List Int) : Prop := ∀ j x, ws[j]? = some x → 0 ≤ x ∧ x < 18446744073709551616 ∧ w.cell? ⟨b, j, none⟩ = some (.int .u64 x)
set_option maxHeartbeats 4000000 in
theorem call_bytes3 (b : Nat) (ws : List Int) (hl : ws.length = 3) (w : World) (hc : Words w b ws) (hbl : b < w.heap.size) :
    Calls Tryz.prog 10 #[.slice (some ⟨b, 0, none⟩) 3 3] w fun e w' => ∃ v, e = .returned v ∧ w'.ownsRow w.heap.size 5 1 v 24 ((wordsB ws).map byteV) ∧ Below w.heap.size w w' := by
  have HC := Lib.hid hc
  have HL := Lib.hid hl
  have HBL := Lib.hid hbl
  obtain ⟨i0, hi, hz0, hz1, hz2⟩ := info_parts info5
  have hmk : ∀ u : World, (Instr.makeSlice 23 (.int .i64 0) (.int .i64 24)).run Tryz.prog u =
      .ok (.slice (some ⟨u.heap.size, 0, none⟩) 0 24) (u.alloc (.cells (List.replicate 24 (.int .u8 0)).toArray 5)) := fun u => by
    have h := run_make (P := Tryz.prog) u 23 5 i0 (.int .u8 0) Tryz.underlying23 hi hz0 .i64 .i64 0 24 (by omega) (by omega) (by rw [hz2]; omega) (by omega)
    simpa [hz1, Value.cells, madeOne] using h
  have O0 := Lib.hid (World.ownsRow_made w (List.replicate 24 (.int .u8 0)).toArray 24 (base := w.heap.size) (e := 5) (size := 1) (Nat.le_refl _) (by simp [maxLen]) (by simp))
  clear hc hl hbl
  go_enter Tryz.func10, Tryz.ntmps10
  go_wp2
  go_loopw [3, 13] (fun v i wr => ∃ j : Nat, i = .int .i64 j ∧ j ≤ 3 ∧ wr.ownsRow w.heap.size 5 1 v (8 * j) ((wordsB (ws.take j)).map byteV) ∧ Below w.heap.size w wr)
    (fun _ i _ => 3 - (RowKit.intOf i).toNat)
  case atStart => exact ⟨0, rfl, by decide, O0.out, below_alloc1 w _⟩
  case round =>
    obtain ⟨j, rfl, hj, ho, hb⟩ := hrel
    by_cases hlt : j < 3
    · obtain ⟨x, hx⟩ : ∃ x, ws[j]? = some x := ⟨_, List.getElem?_eq_getElem (by rw [HL.out]; exact hlt)⟩
      obtain ⟨h0, h1, h2⟩ := HC.out j x hx
      have HO := Lib.hid ho
      have HB0 := Lib.hid hb
      have HX := Lib.hid hx
      have hcw : wr.cell? ⟨b, j, none⟩ = some (.int .u64 x) := (hb.cell (by exact HBL.out)).trans h2
      have H0 := Lib.hid h0
      have H1 := Lib.hid h1
      clear h2 ho hx hb h0 h1
      go_wp2_with (first
        | (go_at_call 31; refine (call_lay x H0.out H1.out _).mono ?_; rintro e w1 ⟨rfl, hb1⟩; have HO1 := Lib.hid (own_below HO.out hb1); have HB1 := Lib.hid (below_after HB0.out hb1); have hz1b : Hid (w.heap.size ≤ w1.heap.size) := Lib.hid HB1.out.size; clear hb1)
        | refine wpl_store (Row.new w1 94 [.int .u8 0, .int .u8 0, .int .u8 0, .int .u8 0, .int .u8 0, .int .u8 0, .int .u8 0, .int .u8 0]) rfl 94 _ _ rfl ((wordB x).map byteV) rfl rfl 8 rfl rfl (by intro v hv; obtain ⟨b, _, rfl⟩ := List.mem_map.1 hv; rfl) (by kernel_rfl) ?_
        | (at_builtin; refine wpList_append_own _ rfl _ _ 23 rfl w.heap.size 5 i0 (.int .u8 0) 1 1 Tryz.underlying23 hi hz0 hz1 hz2 rfl (by decide) _ (8 * j) _ rfl (by exact own_setRow HO1.out _ _) ⟨w1.heap.size, 0, none⟩ 8 8 ((wordB x).map byteV) rfl rfl ?c1 ?c2 ?c3 ?c4 ?c5 ?_))
      case c1 => exact (row_setRow w1 94 _ _).cells
      case c2 => exact one_bytes _
      case c3 => simp [maxLen]; omega
      case c4 => omega
      case c5 => show _ ≤ (World.setRow _ _ _).heap.size; have := hz1b.out; rw [World.setRow]; simp [alloc_size]; omega
      intro v' w' hown hgr _
      have HB := Lib.hid (below_grown (own_setRow HO1.out _ _) hgr (Nat.le_refl w.heap.size) (by have := hz1b.out; rw [World.setRow]; simp [alloc_size]; omega))
      rw [wordsB_next ws j x HX.out] at hown
      have HW := Lib.hid hown
      have HBz := Lib.hid (((below_setRow (HB1.out.alloc hz1b.out (.cells #[.int .u8 0, .int .u8 0, .int .u8 0, .int .u8 0, .int .u8 0, .int .u8 0, .int .u8 0, .int .u8 0] 94)) hz1b.out ((wordB x).map byteV).toArray)).trans HB.out)
      clear hgr hown
      go_wp2
      go_roundw
      case rel => exact ⟨j + 1, by go_num, by omega, HW.out, HBz.out⟩
      case measure => simp [RowKit.intOf]; omega
    · obtain rfl : j = 3 := by omega
      go_wp2
      go_ret
      refine ⟨_, rfl, ?_, hb⟩
      rw [List.take_of_length_le (by rw [HL.out]; exact Nat.le_refl _)] at ho
      exact ho
end Go.Proofs.YtgoogbakhhbnhaaGreatDoor.Ar
