/-
  Mend, o: the superblock, packed.
-/
import Derived.Test.YtgoogbakhhbnhaaGreatDoorMn
set_option linter.unusedVariables false
set_option linter.unusedSimpArgs false
set_option maxRecDepth 100000
namespace Go.Proofs.YtgoogbakhhbnhaaGreatDoor.Ar
open Go.RowKit Go.Sort Go.Lib Go.Proofs.YtgoogbakhhbnhaaGreatDoor.Rs
def zer64 : List Value := List.replicate 64 (vb8 0)
/-- the superblock's line, its sum not yet laid -/
def sup60 : List UInt8 := [70, 85, 82, 82, 79, 87, 48, 49, 24, 0, 0, 0, 8, 0, 0, 0, 1, 0, 0, 0] ++ List.replicate 44 0
theorem sup60_eq : putN (putN (putN mark64 8 24 4) 12 8 4) 16 1 4 = sup60.map byteV := by rfl
/-- the walk of a line that is packed -/
structure Pk (w w' : World) (P : Nat) (L : List Value) (k : Nat) : Prop where
  arg : Row w' w.heap.size 44 [.int .i64 24, .int .i64 8, .int .i64 1]
  out : Row w' (w.heap.size + 1) 40 zer64
  pen : Row w' P 84 (penC L k)
  lt : w.heap.size + 1 < P
  below : Below w.heap.size w w'
theorem Pk.turn {w w' w'' : World} {P : Nat} {L L' : List Value} {k k' : Nat} (h : Pk w w' P L k) (hr : Row w'' P 84 (penC L' k')) (hg : w'.grownBy w'' (some P)) : Pk w w'' P L' k' := by
  have := h.lt
  exact ⟨(hg.block _ h.arg.lt (by simp; omega)).trans h.arg, (hg.block _ h.out.lt (by simp; omega)).trans h.out, hr, h.lt, h.below.grown hg h.below.size (fun r e => by cases e; omega)⟩
theorem Pk.first {w w1 : World} (ha : Row w1 w.heap.size 44 [.int .i64 24, .int .i64 8, .int .i64 1]) (ho : Row w1 (w.heap.size + 1) 40 zer64) (hb : Below w.heap.size w w1) (o : Obj) :
    Pk w (((w1.alloc o).alloc (.cells Tryz.zeroCells84 84)).setRow (w1.heap.size + 1) Tryz.zeroCells84) (w1.heap.size + 1) zer64 0 := by
  have hl := ho.lt
  have hs := hb.size
  have hb2 : Below w1.heap.size w1 (((w1.alloc o).alloc (.cells Tryz.zeroCells84 84)).setRow (w1.heap.size + 1) Tryz.zeroCells84) := below_setRow (below_alloc2 w1 _ _) (Nat.le_succ _) _
  refine ⟨ha.below hb2 ha.lt, ho.below hb2 ho.lt, ?_, by omega, below_after hb hb2⟩
  exact setRow_heap _ _ _ _ 84 _ (row_new1 w1 o 84 Tryz.zeroCells84.toList)
theorem pen_range {w : World} {P k : Nat} {L : List Value} (h : Row w P 84 (penC L k)) : w.rangeAt P 0 L := fun j v hv => by
  rw [Nat.zero_add, h.cell j, penC, List.getElem?_append_left (List.getElem?_eq_some_iff.1 hv).1]
  exact hv
/-- the packed superblock -/
def supL : List UInt8 := closeB sup60
set_option maxHeartbeats 4000000 in
theorem call_packSuper (w : World) (hst : Stp w) :
    Calls Tryz.prog 8 #[.agg #[.int .i64 24, .int .i64 8, .int .i64 1]] w fun e w' => e = .returned (.tuple #[.agg (supL.map byteV).toArray, .int .i64 0]) ∧ Below w.heap.size w w' := by
  have HST := Lib.hid hst
  have H0a := Lib.hid ((Row.new w 44 [.int .i64 24, .int .i64 8, .int .i64 1]).below (below_alloc1 _ (.cells zer64.toArray 40)) (by simp))
  have h1 := Row.new (w.alloc (.cells [.int .i64 24, .int .i64 8, .int .i64 1].toArray 44)) 40 zer64
  rw [alloc_size] at h1
  have H0b := Lib.hid h1
  have H0c := Lib.hid (below_alloc2 w (.cells [.int .i64 24, .int .i64 8, .int .i64 1].toArray 44) (.cells zer64.toArray 40))
  have HZ1 : Hid (∀ v ∈ Tryz.zeroCells84.toList, v.oneCell' = true) := Lib.hid (by rw [show Tryz.zeroCells84.toList = penC zer64 0 from rfl]; decide)
  clear hst h1
  go_enter Tryz.func8, Tryz.ntmps8
  have hx1 := putN_len mark64 8 24 4
  have hx2 := putN_len (putN mark64 8 24 4) 12 8 4
  have hx3 := putN_len (putN (putN mark64 8 24 4) 12 8 4) 16 1 4
  have HL0 : Hid (mark64.length = 64) := Lib.hid (by rfl)
  have HL1 : Hid ((putN mark64 8 24 4).length = 64) := Lib.hid (by rw [hx1]; rfl)
  have HL2 : Hid ((putN (putN mark64 8 24 4) 12 8 4).length = 64) := Lib.hid (by rw [hx2]; exact HL1.out)
  have HCl : Hid (∀ W, Stp W → Calls Tryz.prog 26 #[.agg (sup60.map byteV).toArray] W fun e w' => e = .returned (.agg (supL.map byteV).toArray) ∧ Below W.heap.size W w') := Lib.hid (fun W h => call_close sup60 (by rfl) W h)
  have HLn : Hid (supL.length = 64) := Lib.hid (closeB_len _ (by rfl))
  generalize supL = L at *
  clear hx1 hx2 hx3
  go_wp2_with (first
    | (go_at_call 23; refine (call_fit1 _).mono ?_; rintro e w1 ⟨rfl, hb⟩; have H1a := Lib.hid (H0a.out.below hb H0a.out.lt); have H1b := Lib.hid (H0b.out.below hb H0b.out.lt); have H1c := Lib.hid (below_after H0c.out hb); clear hb H0a H0b H0c)
    | (refine wpl_store (row_new1 w1 _ 84 Tryz.zeroCells84.toList) rfl 84 _ _ rfl Tryz.zeroCells84.toList rfl rfl 65 (by rfl) (by rfl) HZ1.out (by kernel_rfl) ?_)
    | (go_at_call 24; have H2 := Lib.hid (Pk.first H1a.out H1b.out H1c.out (.cells #[.int .i64 24, .int .i64 8, .int .i64 1, .int .i64 5] 58)); refine (call_ptext _ _ H2.out.pen).mono ?_; rintro e w2 ⟨rfl, hr, hg⟩; have H3 := Lib.hid (H2.out.turn hr hg); clear hr hg H2 H1a H1b H1c; generalize w1.heap.size + 1 = P at H3 ⊢; have s0 := (show w2.cell? ⟨w.heap.size, 0, none⟩ = some (.int .i64 24) from H3.out.arg.cell 0))
    | (go_at_call 25; have hg := H3.out; clear hg; refine (call_pnumber P _ mark64 8 24 HL0.out (by omega) (by omega) H3.out.pen).mono ?_; rintro e w3 ⟨rfl, hr, hg⟩; have H4 := Lib.hid (H3.out.turn hr hg); clear hr hg H3 s0; have s0 := (show w3.cell? ⟨w.heap.size, 1, none⟩ = some (.int .i64 8) from H4.out.arg.cell 1))
    | (go_at_call 25; have hg := H4.out; clear hg; refine (call_pnumber P _ _ 12 8 HL1.out (by omega) (by omega) H4.out.pen).mono ?_; rintro e w4 ⟨rfl, hr, hg⟩; have H5 := Lib.hid (H4.out.turn hr hg); clear hr hg H4 s0; have s0 := (show w4.cell? ⟨w.heap.size, 2, none⟩ = some (.int .i64 1) from H5.out.arg.cell 2))
    | (go_at_call 25; have hg := H5.out; clear hg; refine (call_pnumber P _ _ 16 1 HL2.out (by omega) (by omega) H5.out.pen).mono ?_; rintro e w5 ⟨rfl, hr, hg⟩; have H6 := Lib.hid (H5.out.turn hr hg); clear hr hg H5 s0; rw [sup60_eq] at H6)
    | (refine wpList_load_mid rfl 40 _ rfl P 0 rfl (sup60.map byteV) _ (pen_range H6.out.pen) Tryz.underlying40 rfl (by kernel_rfl) ?_)
    | (go_at_call 26; refine (HCl.out _ (HST.out.below H6.out.below)).mono ?_; rintro e w6 ⟨rfl, hb⟩; have H7 := Lib.hid (H6.out.out.below hb H6.out.out.lt); have H8 := Lib.hid (below_after H6.out.below hb); clear hb H6)
    | (refine wpl_store H7.out rfl 40 _ _ rfl (L.map byteV) rfl rfl 64 (by rfl) (by rw [List.length_map]; exact HLn.out) (one_bytes _) (by kernel_rfl) ?_))
  have H9 := Lib.hid (show Row (w6.setRow (w.heap.size + 1) (L.map byteV).toArray) (w.heap.size + 1) 40 (L.map byteV) from setRow_heap _ _ _ _ 40 _ H7.out)
  have H10 := Lib.hid (below_setRow H8.out (Nat.le_succ _) (L.map byteV).toArray)
  clear H7 H8
  generalize w6.setRow (w.heap.size + 1) (L.map byteV).toArray = wf at *
  have hld := run_loadVar_row (P := Tryz.prog) wf (w.heap.size + 1) 40 40 (L.map byteV).toArray (0, 0) _ H9.out Tryz.underlying40 rfl (by rw [List.size_toArray, List.length_map, HLn.out]; kernel_rfl)
  exact ⟨rfl, .tuple #[.agg (L.map byteV).toArray, .int .i64 0], by simp only [results, Tryz.results8]; simp [asAddr, hld, Result.andThen], rfl, H10.out⟩
end Go.Proofs.YtgoogbakhhbnhaaGreatDoor.Ar
