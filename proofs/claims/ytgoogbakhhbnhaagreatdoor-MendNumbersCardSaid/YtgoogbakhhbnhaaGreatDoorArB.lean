
/- Archive: a number's bytes behind a row. -/
import Derived.Test.YtgoogbakhhbnhaaGreatDoorArA
set_option linter.unusedVariables false
set_option linter.unusedSimpArgs false
namespace Go.Proofs.YtgoogbakhhbnhaaGreatDoor.Ar
open Go.RowKit Go.Sort Go.Lib

theorem info5 : (Tryz.prog.info? 5).map (fun i => (i.zero, i.size, i.bytes)) = some (some (.int .u8 0), 1, 1) := by kernel_rfl
theorem below_grown {N : Nat} {w w' : World} {v : Value} {base : Nat} {e : TypeId} {size n : Nat} {xs : List Value} (ho : w.ownsRow base e size v n xs) (hg : w.grownBy w' v.ownBlock) (hN : N ≤ base) (hs : N ≤ w.heap.size) : Below N w w' :=
  ⟨hg.os, hg.tape, hg.output, hg.size, fun i hi => hg.block i (by omega) (fun e => by have := (ho.lt i e.symm).1; omega)⟩

theorem add0 (B j : Nat) : (⟨B, 0, none⟩ : Addr).add j = ⟨B, j, none⟩ := by unfold Addr.add; split <;> simp_all
theorem _root_.Go.Proofs.YtgoogbakhhbnhaaGreatDoor.Row.cells {w : World} {B T : Nat} {cur : List Value} (h : Row w B T cur) : ∀ j u, cur[j]? = some u → w.cell? ((⟨B, 0, none⟩ : Addr).add j) = some u := fun j u hj => by
  rw [add0, h.cell, hj]
theorem one_bytes (l : List UInt8) : ∀ u ∈ l.map byteV, u.oneCell' = true := by intro v hv; obtain ⟨b, _, rfl⟩ := List.mem_map.1 hv; rfl
theorem own_setRow {w : World} {base : Nat} {e : TypeId} {size n : Nat} {v : Value} {xs : List Value} (h : w.ownsRow base e size v n xs) (o : Obj) (cs : Array Value) : ((w.alloc o).setRow w.heap.size cs).ownsRow base e size v n xs :=
  own_below h (below_setRow (below_alloc1 w o) (Nat.le_refl _) cs)
theorem row_setRow (w : World) (T : TypeId) (old : Array Value) (cs : List Value) : Row ((w.alloc (.cells old T)).setRow w.heap.size cs.toArray) w.heap.size T cs :=
  Row.setRow (cur := old.toList) (Row.new w T old.toList) cs

set_option maxHeartbeats 1000000 in
set_option maxRecDepth 100000 in
theorem call_bytes1 (b o cap : Nat) (x : Int) (h0 : 0 ≤ x) (h1 : x < 18446744073709551616) (w : World) (hc : w.cell? ⟨b, o, none⟩ = some (.int .u64 x)) :
    Calls Tryz.prog 10 #[.slice (some ⟨b, o, none⟩) 1 cap] w fun e w' => ∃ v, e = .returned v ∧ w'.ownsRow w.heap.size 5 1 v 8 ((wordB x).map byteV) ∧ Below w.heap.size w w' := by
  have HC := Lib.hid hc
  obtain ⟨i0, hi, hz0, hz1, hz2⟩ := info_parts info5
  have hmk : ∀ u : World, (Instr.makeSlice 23 (.int .i64 0) (.int .i64 8)).run Tryz.prog u =
      .ok (.slice (some ⟨u.heap.size, 0, none⟩) 0 8) (u.alloc (.cells (List.replicate 8 (.int .u8 0)).toArray 5)) := fun u => by
    have h := run_make (P := Tryz.prog) u 23 5 i0 (.int .u8 0) Tryz.underlying23 hi hz0 .i64 .i64 0 8 (by omega) (by omega) (by rw [hz2]; omega) (by omega)
    simpa [hz1, Value.cells, madeOne] using h
  have O0 := Lib.hid (World.ownsRow_made w (List.replicate 8 (.int .u8 0)).toArray 8 (base := w.heap.size) (e := 5) (size := 1) (Nat.le_refl _) (by simp [maxLen]) (by simp))
  go_enter Tryz.func10, Tryz.ntmps10
  go_wp2
  go_loopw [3, 13] (fun v i wr => (i = .int .i64 0 ∧ wr.ownsRow w.heap.size 5 1 v 0 [] ∨ i = .int .i64 1 ∧ wr.ownsRow w.heap.size 5 1 v 8 ((wordB x).map byteV)) ∧ Below w.heap.size w wr)
    (fun _ i _ => 1 - (RowKit.intOf i).toNat)
  case atStart => exact ⟨.inl ⟨rfl, O0.out⟩, below_alloc1 w _⟩
  case round =>
    obtain ⟨⟨rfl, ho⟩ | ⟨rfl, ho⟩, hb⟩ := hrel
    · have HO := Lib.hid ho
      have hcw : wr.cell? ⟨b, o, none⟩ = some (.int .u64 x) := (hb.cell (by exact World.block_lt_of_cell? w _ hc)).trans hc
      clear hc ho
      obtain ⟨zs, hzs⟩ : ∃ zs : List Value, zs = [.int .u8 0, .int .u8 0, .int .u8 0, .int .u8 0, .int .u8 0, .int .u8 0, .int .u8 0, .int .u8 0] := ⟨_, rfl⟩
      have HZ := Lib.hid hzs
      clear hzs
      go_wp2_with (first
        | (go_at_call 31; refine (call_lay x h0 h1 _).mono ?_; rintro e w1 ⟨rfl, hb1⟩; have HO1 := Lib.hid (own_below HO.out hb1))
        | refine wpl_store (Row.new w1 94 [.int .u8 0, .int .u8 0, .int .u8 0, .int .u8 0, .int .u8 0, .int .u8 0, .int .u8 0, .int .u8 0]) rfl 94 _ _ rfl ((wordB x).map byteV) rfl rfl 8 rfl rfl (by intro v hv; obtain ⟨b, _, rfl⟩ := List.mem_map.1 hv; rfl) (by kernel_rfl) ?_
        | (at_builtin; refine wpList_append_own _ rfl _ _ 23 rfl w.heap.size 5 i0 (.int .u8 0) 1 1 Tryz.underlying23 hi hz0 hz1 hz2 rfl (by decide) _ _ _ rfl (by exact own_setRow HO1.out _ _) ⟨w1.heap.size, 0, none⟩ 8 8 ((wordB x).map byteV) rfl rfl ?c1 ?c2 ?c3 ?c4 ?c5 ?_))
      case c1 => exact (row_setRow w1 94 _ _).cells
      case c2 => exact one_bytes _
      case c3 => simp [maxLen]
      case c4 => omega
      case c5 => show _ ≤ (World.setRow _ _ _).heap.size; have := hb.size; have := hb1.size; rw [World.setRow]; simp [alloc_size]; omega
      intro v' w' hown hgr _
      have HB := Lib.hid (below_grown (own_setRow HO1.out _ _) hgr (Nat.le_refl w.heap.size) (by have := hb.size; have := hb1.size; rw [World.setRow]; simp [alloc_size]; omega))
      have HW := Lib.hid hown
      clear hgr hown
      go_wp2
      go_roundw
      case rel => exact ⟨.inr ⟨rfl, HW.out⟩, ((below_then hb hb.size hb1).alloc (by have := hb.size; have := hb1.size; omega) _ |> fun h => below_setRow h (by have := hb.size; have := hb1.size; omega) _).trans HB.out⟩
      case measure => simp [RowKit.intOf]
    · have HO := Lib.hid ho
      clear ho hc
      go_wp2
      go_ret
      exact ⟨_, rfl, HO.out, hb⟩
end Go.Proofs.YtgoogbakhhbnhaaGreatDoor.Ar
