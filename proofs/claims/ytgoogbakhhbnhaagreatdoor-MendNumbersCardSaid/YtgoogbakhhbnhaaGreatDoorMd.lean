
/-
  Mend, d: caught (a deferred function that recovers nothing), a superblock opened.
-/
import Derived.Test.YtgoogbakhhbnhaaGreatDoorMc
import Derived.Recover
import Derived.Defers
import Derived.Laws.Rows
set_option linter.unusedVariables false
set_option linter.unusedSimpArgs false
set_option maxRecDepth 100000
namespace Go.Proofs.YtgoogbakhhbnhaaGreatDoor.Ar
open Go.RowKit Go.Sort Go.Lib Go.Proofs.YtgoogbakhhbnhaaGreatDoor.Rs
theorem caught_none (p q : Value) (w : World) : CallsD Tryz.prog 78 #[p, q] .returning w fun e u' w' => e = .returned (.tuple #[]) ∧ u' = .returning ∧ w' = w := by
  refine callsD_of_wpS Tryz.func78 rfl fun c₀ cs hu => ?_
  apply wpS_seq
  apply wpS_region
  simp [wpOpsS, go_sem, recoverD, hu, Tryz.ntmps78, Exit.thenS]
  apply wpS_of_wp
  refine wp_block (wp_seq (wp_region ?_))
  simp [wpOps, go_sem, Exit.then]
  refine Or.inl ?_
  refine wp_cond (t := true) (by simp [Act.eval, Array.replicate]) ?_
  simp only [if_true]
  refine wp_region ?_
  simp [wpOps, go_sem, Exit.inBlock]
  cases c₀
  simp_all [bodyPostS, results, Tryz.results78]

/-- the bytes of a superblock as the example has it -/
structure SupB (l : List UInt8) : Prop where
  len : l.length = 64
  whole : wholeB l = true
  text : txt l 0 8 = [70, 85, 82, 82, 79, 87, 48, 49]
  a : leN l 8 4 = 24
  b : leN l 12 4 = 8
  c : leN l 16 4 = 1
  z : ∀ j, j < 40 → byteD l (20 + j) = 0
theorem hsz (l : List UInt8) (hl : l.length = 64) : (Tryz.prog.info? 40).map (·.size) = some (l.map byteV).toArray.size := by
  rw [List.size_toArray, List.length_map, hl]; kernel_rfl
/-- the walk of an opened superblock: the reader's row, the bytes' row, the result's cells -/
structure Sup (w w' : World) (R k : Nat) (l : List UInt8) (c : List Value) : Prop where
  len : l.length = 64
  row : Row w' R 170 [.slice (some ⟨w.heap.size, 0, none⟩) 64 64, .int .i64 (k : Int)]
  byt : Row w' w.heap.size 40 (l.map byteV)
  sup : Row w' (w.heap.size + 1) 44 c
  err : Row w' (w.heap.size + 1 + 1) 31 [.int .i64 0]
  below : Below w.heap.size w w'
  far : w.heap.size + 3 ≤ R
theorem Sup.ey {w w' : World} {R k : Nat} {l : List UInt8} {c : List Value} (h : Sup w w' R k l c) : Ey w' R (.slice (some ⟨w.heap.size, 0, none⟩) 64 64) l k := by
  have hl := h.len
  refine ⟨h.row, ⟨_, _, _, _, by rw [hl], fun _ => rfl, fun j x hj => ?_⟩, ?_, by omega, by omega⟩
  · show World.cell? _ _ = _
    rw [h.byt.cell]
    simp [hj]
  · intro a n c h
    injection h with h1 h2 h3
    omega
theorem Sup.turn {w w' w'' : World} {R k k' : Nat} {l : List UInt8} {c : List Value} (h : Sup w w' R k l c) (hr : Row w'' R 170 [.slice (some ⟨w.heap.size, 0, none⟩) 64 64, .int .i64 (k' : Int)]) (hg : w'.grownBy w'' (some R)) : Sup w w'' R k' l c := by
  have hf := h.far
  have ne : ∀ n, n < R → some R ≠ some n := fun n hn e => by injection e with e; omega
  refine ⟨h.len, hr, (hg.block _ h.byt.lt ?_).trans h.byt, (hg.block _ h.sup.lt ?_).trans h.sup, (hg.block _ h.err.lt ?_).trans h.err, ⟨hg.os.trans h.below.os, hg.tape.trans h.below.tape, hg.output.trans h.below.output, Nat.le_trans h.below.size hg.size, fun k hk => (hg.block k (Nat.lt_of_lt_of_le hk h.below.size) ?_).trans (h.below.block k hk)⟩, hf⟩
  all_goals (intro e; simp only [Option.some.injEq] at e; omega)
theorem Sup.alloc {w w' : World} {R k : Nat} {l : List UInt8} {c : List Value} (h : Sup w w' R k l c) (o : Obj) : Sup w (w'.alloc o) R k l c := by
  have hb := below_alloc1 w' o
  exact ⟨h.len, h.row.below hb h.row.lt, h.byt.below hb h.byt.lt, h.sup.below hb h.sup.lt, h.err.below hb h.err.lt, below_after h.below hb, h.far⟩
theorem Sup.under {w w' w'' : World} {R k : Nat} {l : List UInt8} {c : List Value} (h : Sup w w' R k l c) (hb : Below w'.heap.size w' w'') : Sup w w'' R k l c :=
  ⟨h.len, h.row.below hb h.row.lt, h.byt.below hb h.byt.lt, h.sup.below hb h.sup.lt, h.err.below hb h.err.lt, below_after h.below hb, h.far⟩
theorem Sup.first {w w1 : World} {l : List UInt8} {c : List Value} (hl : l.length = 64) (hb : Row w1 w.heap.size 40 (l.map byteV)) (hs : Row w1 (w.heap.size + 1) 44 c) (he : Row w1 (w.heap.size + 1 + 1) 31 [.int .i64 0]) (h : Below w.heap.size w w1) :
    Sup w (w1.alloc (.cells #[.slice (some ⟨w.heap.size, 0, none⟩) 64 64, .int .i64 0] 170)) w1.heap.size 0 l c := by
  have hb1 := below_alloc1 w1 (.cells #[.slice (some ⟨w.heap.size, 0, none⟩) 64 64, .int .i64 0] 170)
  have := he.lt
  exact ⟨hl, Row.new w1 170 [.slice (some ⟨w.heap.size, 0, none⟩) 64 64, .int .i64 0], hb.below hb1 hb.lt, hs.below hb1 hs.lt, he.below hb1 he.lt, below_after h hb1, by omega⟩
theorem Sup.put {w w' : World} {R k : Nat} {l : List UInt8} {c : List Value} (h : Sup w w' R k l c) (j : Nat) (v : Value) : Sup w (w'.setCell ⟨w.heap.size + 1, j, none⟩ v) R k l (c.set j v) := by
  have hf := h.far
  have ne : ∀ n, n ≠ w.heap.size + 1 → (w'.setCell ⟨w.heap.size + 1, j, none⟩ v).heap[n]? = w'.heap[n]? := fun n hn => Below.heap_setCell w' ⟨w.heap.size + 1, j, none⟩ v n (by simpa using hn)
  exact ⟨h.len, (ne _ (by omega)).trans h.row, (ne _ (by omega)).trans h.byt, h.sup.set j v, (ne _ (by omega)).trans h.err, h.below.setCell (Nat.le_succ _) v, hf⟩
theorem Sup.fault {w w' : World} {R k : Nat} {l : List UInt8} {c : List Value} (h : Sup w w' R k l c) : Sup w (w'.setCell ⟨w.heap.size + 1 + 1, 0, none⟩ (.int .i64 0)) R k l c := by
  have hf := h.far
  have ne : ∀ n, n ≠ w.heap.size + 1 + 1 → (w'.setCell ⟨w.heap.size + 1 + 1, 0, none⟩ (.int .i64 0)).heap[n]? = w'.heap[n]? := fun n hn => Below.heap_setCell w' ⟨w.heap.size + 1 + 1, 0, none⟩ _ n (by simpa using hn)
  exact ⟨h.len, (ne _ (by omega)).trans h.row, (ne _ (by omega)).trans h.byt, (ne _ (by omega)).trans h.sup, h.err.set 0 (.int .i64 0), h.below.setCell (p := ⟨w.heap.size + 1 + 1, 0, none⟩) (by show w.heap.size ≤ w.heap.size + 1 + 1; omega) _, hf⟩
set_option maxHeartbeats 2000000 in
theorem call_opens (l : List UInt8) (hl : SupB l) (w : World) (hp : Stp w) :
    Calls Tryz.prog 55 #[.agg (l.map byteV).toArray] w fun e w' => e = .returned (.tuple #[.agg #[.int .i64 24, .int .i64 8, .int .i64 1], .int .i64 0]) ∧ Below w.heap.size w w' := by
  have HP := Lib.hid hp
  have HL := Lib.hid hl
  have hrow : Row (((w.alloc (.cells (l.map byteV).toArray 40)).alloc (.cells #[.int .i64 0, .int .i64 0, .int .i64 0] 44)).alloc (.cells #[.int .i64 0] 31)) w.heap.size 40 (l.map byteV) := (Row.new w 40 (l.map byteV)).below (below_alloc2 _ _ _) (by simp)
  have hsup : Row (((w.alloc (.cells (l.map byteV).toArray 40)).alloc (.cells #[.int .i64 0, .int .i64 0, .int .i64 0] 44)).alloc (.cells #[.int .i64 0] 31)) (w.heap.size + 1) 44 [.int .i64 0, .int .i64 0, .int .i64 0] := by
    have h1 := Row.new (w.alloc (.cells (l.map byteV).toArray 40)) 44 [.int .i64 0, .int .i64 0, .int .i64 0]
    rw [alloc_size] at h1
    exact h1.below (below_alloc1 _ _) h1.lt
  have herr : Row (((w.alloc (.cells (l.map byteV).toArray 40)).alloc (.cells #[.int .i64 0, .int .i64 0, .int .i64 0] 44)).alloc (.cells #[.int .i64 0] 31)) (w.heap.size + 1 + 1) 31 [.int .i64 0] := by
    have h1 := Row.new ((w.alloc (.cells (l.map byteV).toArray 40)).alloc (.cells #[.int .i64 0, .int .i64 0, .int .i64 0] 44)) 31 [.int .i64 0]
    rw [alloc_size, alloc_size] at h1
    exact h1
  have HRow := Lib.hid hrow
  have HSup := Lib.hid hsup
  have HErr := Lib.hid herr
  clear hl hp hrow hsup herr
  go_enter_defers Tryz.func55, Tryz.ntmps55
  go_wp2_with (first
    | (refine wpList_load_row rfl 40 _ rfl w.heap.size rfl 40 (l.map byteV).toArray (0, 0) _ HRow.out Tryz.underlying40 rfl (hsz l HL.out.len) ?_)
    | (go_at_call 80; refine (call_whole l HL.out.len _ (HP.out.below ((below_alloc2 w _ _).alloc (by rw [alloc_size, alloc_size]; omega) _))).mono ?_; rw [HL.out.whole]; rintro e w1 ⟨rfl, hb1⟩; have HB1 := Lib.hid (Sup.first (c := [.int .i64 0, .int .i64 0, .int .i64 0]) HL.out.len (HRow.out.below hb1 HRow.out.lt) (HSup.out.below hb1 HSup.out.lt) (HErr.out.below hb1 HErr.out.lt) (below_after ((below_alloc2 w _ _).alloc (by rw [alloc_size, alloc_size]; omega) _) hb1)); clear hb1 HRow HSup HErr)
    | (go_at_call 79; have hg := HB1.out; clear hg; refine (call_must_ok _ _).mono ?_; rintro e w2 ⟨rfl, rfl⟩)
    | (go_at_call 81; have hg := HB1.out; clear hg; refine (call_etext _ _ l [70, 85, 82, 82, 79, 87, 48, 49] 0 _ _ HB1.out.ey (by rw [HL.out.len]; decide) (by decide) HL.out.text).mono ?_; rintro e w3 ⟨rfl, hr, hg⟩; have HE8 := Lib.hid (HB1.out.turn (k' := 8) hr hg); clear hr hg HB1)
    | (go_at_call 82; have hg := HE8.out; clear hg; refine (call_ehalf _ _ l 8 _ HE8.out.ey (by rw [HL.out.len]; decide)).mono ?_; rintro e w4 ⟨he, hr, hg⟩; rw [HL.out.a] at he; subst he; have HE12 := Lib.hid (HE8.out.turn (k' := 12) hr hg); clear hr hg HE8)
    | (go_at_call 82; have hg := HE12.out; clear hg; refine (call_ehalf _ _ l 12 _ HE12.out.ey (by rw [HL.out.len]; decide)).mono ?_; rintro e w5 ⟨he, hr, hg⟩; rw [HL.out.b] at he; subst he; have HE16 := Lib.hid (HE12.out.turn (k' := 16) hr hg); clear hr hg HE12)
    | (go_at_call 82; have hg := HE16.out; clear hg; refine (call_ehalf _ _ l 16 _ HE16.out.ey (by rw [HL.out.len]; decide)).mono ?_; rintro e w6 ⟨he, hr, hg⟩; rw [HL.out.c] at he; subst he; have HE20 := Lib.hid (HE16.out.turn (k' := 20) hr hg); clear hr hg HE16; have s0 := (show w6.cell? ⟨w.heap.size + 1, 0, none⟩ = some (.int .i64 0) from HE20.out.sup.cell 0); have s1 := (show w6.cell? ⟨w.heap.size + 1, 1, none⟩ = some (.int .i64 0) from HE20.out.sup.cell 1); have s2 := (show w6.cell? ⟨w.heap.size + 1, 2, none⟩ = some (.int .i64 0) from HE20.out.sup.cell 2); have s3 := HE20.out.sup.free 0; have s4 := HE20.out.sup.free 1; have s5 := HE20.out.sup.free 2)
    | (go_at_call 83; have hg := HE20.out; clear hg; refine (call_ezeros _ _ l 20 40 _ _ (((HE20.out.put 0 (.int .i64 24)).put 1 (.int .i64 8)).put 2 (.int .i64 1)).ey (by rw [HL.out.len]; decide) (by decide) HL.out.z).mono ?_; rintro e w7 ⟨rfl, hr, hg⟩; have HE60 := Lib.hid (show Sup w w7 _ 60 l [.int .i64 24, .int .i64 8, .int .i64 1] from (((HE20.out.put 0 (.int .i64 24)).put 1 (.int .i64 8)).put 2 (.int .i64 1)).turn (k' := 60) hr hg); clear hr hg s0 s1 s2 s3 s4 s5 HE20; have s0 := (show w7.cell? ⟨w.heap.size + 1, 0, none⟩ = some (.int .i64 24) from HE60.out.sup.cell 0); have s1 := (show w7.cell? ⟨w.heap.size + 1, 1, none⟩ = some (.int .i64 8) from HE60.out.sup.cell 1); have s2 := (show w7.cell? ⟨w.heap.size + 1, 2, none⟩ = some (.int .i64 1) from HE60.out.sup.cell 2))
    | (go_at_call 23; have hg := HE60.out; clear hg; refine (call_fit1 _).mono ?_; rintro e w8 ⟨rfl, hb⟩; have HEf := Lib.hid (HE60.out.under hb); clear hb HE60 s0 s1 s2)
    | (go_at_call 79; have hg := HEf.out; clear hg; refine (call_must_ok _ _).mono ?_; rintro e w9 ⟨rfl, hw⟩; have HEg := Lib.hid (show Sup w w9 _ 60 l [.int .i64 24, .int .i64 8, .int .i64 1] by rw [hw]; exact HEf.out.alloc _); clear hw HEf; have s0 := (show w9.cell? ⟨w.heap.size + 1, 0, none⟩ = some (.int .i64 24) from HEg.out.sup.cell 0); have s1 := (show w9.cell? ⟨w.heap.size + 1, 1, none⟩ = some (.int .i64 8) from HEg.out.sup.cell 1); have s2 := (show w9.cell? ⟨w.heap.size + 1, 2, none⟩ = some (.int .i64 1) from HEg.out.sup.cell 2); have s3 := HEg.out.sup.free 0; have s4 := HEg.out.sup.free 1; have s5 := HEg.out.sup.free 2; have s6 := (show w9.cell? ⟨w.heap.size + 1 + 1, 0, none⟩ = some (.int .i64 0) from HEg.out.err.cell 0); have s7 := HEg.out.err.free 0))
  have hF := (show Sup w ((((w9.setCell ⟨w.heap.size + 1, 0, none⟩ (.int .i64 24)).setCell ⟨w.heap.size + 1, 1, none⟩ (.int .i64 8)).setCell ⟨w.heap.size + 1, 2, none⟩ (.int .i64 1)).setCell ⟨w.heap.size + 1 + 1, 0, none⟩ (.int .i64 0)) _ 60 l [.int .i64 24, .int .i64 8, .int .i64 1] from (((HEg.out.put 0 (.int .i64 24)).put 1 (.int .i64 8)).put 2 (.int .i64 1)).fault)
  clear s0 s1 s2 s3 s4 s5 s6 s7 HEg
  generalize ((((w9.setCell ⟨w.heap.size + 1, 0, none⟩ (.int .i64 24)).setCell ⟨w.heap.size + 1, 1, none⟩ (.int .i64 8)).setCell ⟨w.heap.size + 1, 2, none⟩ (.int .i64 1)).setCell ⟨w.heap.size + 1 + 1, 0, none⟩ (.int .i64 0)) = wf at *
  refine leaves_cons (f := 78) (args := #[.pointer (some ⟨w.heap.size + 1, 0, none⟩), .pointer (some ⟨w.heap.size + 1 + 1, 0, none⟩)]) (by simp) (by simp [go_sem]) ?_
  refine (caught_none _ _ _).mono ?_
  rintro e u' w'' ⟨rfl, rfl, rfl⟩
  have s0 := (show w''.cell? ⟨w.heap.size + 1, 0, none⟩ = some (.int .i64 24) from hF.sup.cell 0)
  have s1 := (show w''.cell? ⟨w.heap.size + 1, 1, none⟩ = some (.int .i64 8) from hF.sup.cell 1)
  have s2 := (show w''.cell? ⟨w.heap.size + 1, 2, none⟩ = some (.int .i64 1) from hF.sup.cell 2)
  have s6 := (show w''.cell? ⟨w.heap.size + 1 + 1, 0, none⟩ = some (.int .i64 0) from hF.err.cell 0)
  have hb := hF.below
  clear hF
  simp [Leaves, settle, results, Tryz.results55, go_sem, s0, s1, s2, s6, hb]
end Go.Proofs.YtgoogbakhhbnhaaGreatDoor.Ar
