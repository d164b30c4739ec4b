/-
  Mend, y: names, hanging, reach.
-/
import Derived.Test.YtgoogbakhhbnhaaGreatDoorMx
import Derived.Maps.Range
import Derived.Laws.EntriesVeiled
set_option linter.unusedVariables false
set_option linter.unusedSimpArgs false
set_option maxRecDepth 100000
namespace Go.Proofs.YtgoogbakhhbnhaaGreatDoor.Ar
open Go.RowKit Go.Sort Go.Lib Go.Proofs.YtgoogbakhhbnhaaGreatDoor.Rs
open Go.ChangeMaps (setBlock)
/-- a scan that holds the two directories -/
structure ScanOk (W : World) (R m mo : Nat) : Prop where
  row : ∃ vo, Row W R 62 [.int .i64 24, .int .i64 8, .int .i64 1, .int .i64 5, vo, .int .i64 0, .map (some m), .slice none 0 0, .map (some mo)]
  map : MapI W m (nodesTo 9)
  own : MapI W mo []
theorem ScanOk.below {W W' : World} {R m mo : Nat} (h : ScanOk W R m mo) (hb : Below W.heap.size W W') : ScanOk W' R m mo := by
  obtain ⟨vo, hr⟩ := h.row
  exact ⟨⟨vo, hr.below hb hr.lt⟩, h.map.below hb h.map.lt, h.own.below hb h.own.lt⟩
theorem ScanOk.c6 {W : World} {R m mo : Nat} (h : ScanOk W R m mo) : W.cell? ⟨R, 6, none⟩ = some (.map (some m)) := by obtain ⟨vo, hr⟩ := h.row; exact hr.cell 6
theorem ScanOk.c8 {W : World} {R m mo : Nat} (h : ScanOk W R m mo) : W.cell? ⟨R, 8, none⟩ = some (.map (some mo)) := by obtain ⟨vo, hr⟩ := h.row; exact hr.cell 8
theorem ScanOk.c0 {W : World} {R m mo : Nat} (h : ScanOk W R m mo) : W.cell? ⟨R, 0, none⟩ = some (.int .i64 24) := by obtain ⟨vo, hr⟩ := h.row; exact hr.cell 0
theorem ScanOk.c1 {W : World} {R m mo : Nat} (h : ScanOk W R m mo) : W.cell? ⟨R, 1, none⟩ = some (.int .i64 8) := by obtain ⟨vo, hr⟩ := h.row; exact hr.cell 1
theorem ScanOk.c5 {W : World} {R m mo : Nat} (h : ScanOk W R m mo) : W.cell? ⟨R, 5, none⟩ = some (.int .i64 0) := by obtain ⟨vo, hr⟩ := h.row; exact hr.cell 5
theorem ScanOk.c7 {W : World} {R m mo : Nat} (h : ScanOk W R m mo) : W.cell? ⟨R, 7, none⟩ = some (.slice none 0 0) := by obtain ⟨vo, hr⟩ := h.row; exact hr.cell 7
theorem ScanOk.lt {W : World} {R m mo : Nat} (h : ScanOk W R m mo) : R < W.heap.size := by obtain ⟨vo, hr⟩ := h.row; exact hr.lt
def es2 : Array MapEntry := #[⟨.int .i64 1, .agg (nodeL 1 2 1).toArray, 0⟩, ⟨.int .i64 5, .agg (nodeL 5 2 1).toArray, 1⟩]
theorem nodes9 {W : World} {m : Nat} (h : MapI W m (nodesTo 9)) : W.heap[m]? = some (.map es2 2) := h
theorem es2_mem {e : MapEntry} (h : e ∈ es2.toList) : ∃ i : Int, e.val = .agg (nodeL i 2 1).toArray ∧ e.born < 2 := by
  simp only [es2, List.mem_cons, List.not_mem_nil, or_false] at h
  rcases h with rfl | rfl
  · exact ⟨1, rfl, by decide⟩
  · exact ⟨5, rfl, by decide⟩
theorem below_setBlock {N : Nat} {w W : World} {r : Nat} {o : Obj} (h : Below N w W) (hr : N ≤ r) : Below N w (setBlock W r o) :=
  ⟨h.os, h.tape, h.output, by simpa [setBlock] using h.size, fun k hk => by
    show (W.heap.setIfInBounds r o)[k]? = _
    rw [Array.getElem?_setIfInBounds_ne (by omega)]
    exact h.block k hk⟩
theorem setBlock_same {W : World} {r : Nat} {o : Obj} (h : r < W.heap.size) : (setBlock W r o).heap[r]? = some o := by simp [setBlock, h]
theorem setBlock_other {W : World} {r k : Nat} {o : Obj} (h : k ≠ r) : (setBlock W r o).heap[k]? = W.heap[k]? := by
  show (W.heap.setIfInBounds r o)[k]? = _
  rw [Array.getElem?_setIfInBounds_ne (by omega)]
/-- the walk of the names' count -/
structure NamI (w W : World) (R m mo cnt r : Nat) (seen : Array Nat) : Prop where
  scan : ScanOk W R m mo
  cnt : MapI W cnt []
  iter : W.heap[r]? = some (.mapIter (some m) 2 seen 2)
  below : Below w.heap.size w W
  low : w.heap.size ≤ r
theorem NamI.under {w W W' : World} {R m mo cnt r : Nat} {seen : Array Nat} (h : NamI w W R m mo cnt r seen) (hb : Below W.heap.size W W') : NamI w W' R m mo cnt r seen :=
  ⟨h.scan.below hb, h.cnt.below hb h.cnt.lt, (hb.block _ (Array.getElem?_eq_some_iff.1 h.iter).1).trans h.iter, below_after h.below hb, h.low⟩
theorem NamI.step {w W : World} {R m mo cnt r : Nat} {seen : Array Nat} (h : NamI w W R m mo cnt r seen) (s2 : Array Nat) : NamI w (setBlock W r (.mapIter (some m) 2 s2 2)) R m mo cnt r s2 := by
  have hlt := (Array.getElem?_eq_some_iff.1 h.iter).1
  have hne : ∀ {k : Nat} {o : Obj}, W.heap[k]? = some o → (∀ a b c d, o ≠ .mapIter a b c d) → (setBlock W r (.mapIter (some m) 2 s2 2)).heap[k]? = some o := fun {k o} hk ho => by
    refine (setBlock_other (fun e => ?_)).trans hk
    rw [e, h.iter] at hk
    injection hk with hk
    exact ho _ _ _ _ hk.symm
  obtain ⟨vo, hr⟩ := h.scan.row
  exact ⟨⟨⟨vo, hne hr (fun _ _ _ _ e => by cases e)⟩, hne h.scan.map (fun _ _ _ _ e => by cases e), hne h.scan.own (fun _ _ _ _ e => by cases e)⟩, hne h.cnt (fun _ _ _ _ e => by cases e), setBlock_same hlt, below_setBlock h.below h.low, h.low⟩
def leftW (W : World) (r : Nat) : Nat := match W.heap[r]? with | some (.mapIter _ _ seen _) => (leftOf es2 seen).size | _ => 0
theorem leftW_eq {W : World} {r : Nat} {a : Option Nat} {b c : Nat} {seen : Array Nat} (h : W.heap[r]? = some (.mapIter a b seen c)) : leftW W r = (leftOf es2 seen).size := by unfold leftW; rw [h]
set_option maxHeartbeats 8000000 in
theorem call_names (R m mo : Nat) (w : World) (hs : ScanOk w R m mo) :
    Calls Tryz.prog 38 #[.pointer (some ⟨R, 0, none⟩)] w fun e w' => e = .returned (.map (some w.heap.size)) ∧ MapI w' w.heap.size [] ∧ Below w.heap.size w w' := by
  have hmm := @run_makeMap Tryz.prog
  have hb1 := below_alloc1 w (.map #[] 0)
  have h1 : MapI (w.alloc (.map #[] 0)) w.heap.size [] := MapI.made w
  have hs1 := hs.below hb1
  have s6 := hs1.c6
  have hrg := run_range_map (P := Tryz.prog) (w.alloc (.map #[] 0)) 59 3 66 m es2 2 Tryz.underlying59 (nodes9 hs1.map)
  have hN : NamI w ((w.alloc (.map #[] 0)).alloc (.mapIter (some m) 2 #[] 2)) R m mo w.heap.size (w.heap.size + 1) #[] := by
    have hb2 := below_alloc1 (w.alloc (.map #[] 0)) (.mapIter (some m) 2 #[] 2)
    refine ⟨hs1.below hb2, h1.below hb2 h1.lt, ?_, below_after hb1 hb2, Nat.le_succ _⟩
    have := World.alloc_heap_new (w.alloc (.map #[] 0)) (.mapIter (some m) 2 #[] 2)
    rw [alloc_size] at this
    exact this
  have HN := Lib.hid hN
  rw [alloc_size] at hrg
  clear hb1 h1 hs1 hN hs
  go_enter Tryz.func38, Tryz.ntmps38
  go_wp2
  generalize ((w.alloc (.map #[] 0)).alloc (.mapIter (some m) 2 #[] 2)) = w2 at *
  go_loopw [14] (fun _ wr => ∃ seen, NamI w wr R m mo w.heap.size (w.heap.size + 1) seen) (fun _ wr => leftW wr (w.heap.size + 1))
  case atStart => exact ⟨_, HN.out⟩
  case round =>
    obtain ⟨seen, hI⟩ := hrel
    rcases run_next_at (P := Tryz.prog) wr 0 (w.heap.size + 1) m 2 2 seen es2 2 hI.iter (nodes9 hI.scan.map) (fun x hx => by obtain ⟨_, _, h⟩ := es2_mem hx; exact h) (Nat.le_refl _) with ⟨h0, hnx⟩ | ⟨e, he, w1, hw1, hnx⟩
    · have HI := Lib.hid hI
      clear hI h0
      go_wp2
      go_ret
      exact ⟨rfl, HI.out.cnt, HI.out.below⟩
    · have hI1 : NamI w w1 R m mo w.heap.size (w.heap.size + 1) seen := by
        rcases hw1 with rfl | rfl
        · exact hI
        · exact hI.under (below_drew _)
      have hI2 := hI1.step (seen.push e.born)
      obtain ⟨i, hi, hlt⟩ := es2_mem (mem_left he).1
      have hent := run_entry_at (P := Tryz.prog) _ (w.heap.size + 1) m 2 seen es2 2 e hI2.iter (nodes9 hI2.scan.map) (mem_left he).1 (by decide)
      have hm0 : leftW wr (w.heap.size + 1) = (leftOf es2 seen).size := leftW_eq hI.iter
      have hsh := left_shrinks es2 seen e he
      obtain ⟨ek, ev, eb⟩ := e
      simp only at hi hnx hent hI2 hsh
      subst hi
      simp only [nodeL] at hnx hent
      have HI2 := Lib.hid hI2
      have HI3 := Lib.hid (hI2.under (below_alloc1 _ (.cells #[.int .i64 i, .int .i64 2, .int .i64 1, .int .i64 0, .slice none 0 0, .slice none 0 0, .int .i64 0, .int .i64 0, .slice none 0 0, .int .i64 0] 66)))
      have HSh := Lib.hid (And.intro hm0 hsh)
      clear hI hI1 hI2 he hw1 hlt hm0 hsh
      generalize (setBlock w1 (w.heap.size + 1) (.mapIter (some m) 2 (seen.push eb) 2)) = w3 at *
      go_wp2
      generalize (w3.alloc (.cells #[.int .i64 i, .int .i64 2, .int .i64 1, .int .i64 0, .slice none 0 0, .slice none 0 0, .int .i64 0, .int .i64 0, .slice none 0 0, .int .i64 0] 66)) = w4 at *
      go_loopw [21] (fun iv wz => iv = .int .i64 0 ∧ wz = w4) (fun _ _ => 0)
      case atStart => exact ⟨rfl, rfl⟩
      case round =>
        obtain ⟨rfl, rfl⟩ := hrel
        go_wp2
        exact ⟨⟨_, HI3.out⟩, by rw [leftW_eq HI3.out.iter, HSh.out.1]; exact HSh.out.2⟩
theorem call_indexF (f : Value) (hf : ∃ k a b, f = .func k a b) (w : World) : Calls Tryz.prog 63 #[.slice none 0 0, f] w fun e w' => e = .returned (.int .i64 (-1)) ∧ w' = w := by
  obtain ⟨k, a, b, rfl⟩ := hf
  go_enter Tryz.func63, Tryz.ntmps63
  go_wp2
  go_loopw [8] (fun iv wr => iv = .int .i64 0 ∧ wr = w) (fun _ _ => 0)
  case atStart => exact ⟨rfl, rfl⟩
  case round =>
    obtain ⟨rfl, rfl⟩ := hrel
    go_wp2
    go_ret
    exact ⟨rfl, rfl⟩
theorem call_contF (f : Value) (hf : ∃ k a b, f = .func k a b) (w : World) : Calls Tryz.prog 36 #[.slice none 0 0, f] w fun e w' => e = .returned (.bool false) ∧ w' = w := by
  have h := call_indexF f hf
  obtain ⟨k, a, b, rfl⟩ := hf
  have H := Lib.hid h
  clear h
  go_enter Tryz.func36, Tryz.ntmps36
  go_wp2_with (go_at_call 63; refine (H.out _).mono ?_; rintro e w1 ⟨rfl, rfl⟩)
  go_ret
  exact ⟨rfl, rfl⟩
set_option maxHeartbeats 8000000 in
theorem call_visit (R m mo B1 B2 B3 met : Nat) (w : World) (hs : ScanOk w R m mo) (h1 : Row w B1 53 [.pointer (some ⟨R, 0, none⟩)]) (h2 : Row w B2 60 [.map (some met)]) (hm : MapI w met []) (hne : met ≠ m ∧ met ≠ mo) (base : Nat) (hb : base ≤ met) (hbs : base ≤ w.heap.size) :
    Calls Tryz.prog 39 #[.int .i64 1, .pointer (some ⟨B1, 0, none⟩), .pointer (some ⟨B2, 0, none⟩), .pointer (some ⟨B3, 0, none⟩)] w fun e w' => e = .returned (.tuple #[]) ∧ MapI w' met [(1, .int .i64 1)] ∧ Row w' B2 60 [.map (some met)] ∧ Below base w w' := by
  have hl := hs.map.lookOk Tryz.underlying59 Tryz.underlying3 (zero66 w) 1
  have hb1 := below_alloc1 w (.cells (nodeL 1 2 1).toArray 66)
  have hm1 := hm.below hb1 hm.lt
  have hlm := hm1.look Tryz.underlying60 Tryz.underlying3 (zero3 _) 1
  have hput := hm1.put Tryz.underlying60 Tryz.underlying3 (k := 1) rfl (.int .i64 1)
  have b1 := (show w.cell? ⟨B1, 0, none⟩ = some (.pointer (some ⟨R, 0, none⟩)) from h1.cell 0)
  have b2 := (show World.cell? (w.alloc (.cells (nodeL 1 2 1).toArray 66)) ⟨B2, 0, none⟩ = some (.map (some met)) from (h2.alloc _).cell 0)
  have s6 := hs.c6
  have HM := Lib.hid (show MapI _ met [(1, .int .i64 1)] from World.putObj_heap_same (o := .map (ents [(1, .int .i64 1)] 0).toArray 1) hm1.lt)
  have HR2 := Lib.hid (show Row _ B2 60 [.map (some met)] from (World.putObj_heap_other (o := .map (ents [(1, .int .i64 1)] 0).toArray 1) (cells_ne_map (h2.below hb1 h2.lt) hm1)).trans (h2.below hb1 h2.lt))
  have HBl := Lib.hid (below_put (o := .map (ents [(1, .int .i64 1)] 0).toArray 1) (hb1.mono hbs) hb)
  have HNn := Lib.hid (show Row _ w.heap.size 66 (nodeL 1 2 1) from (World.putObj_heap_other (o := .map (ents [(1, .int .i64 1)] 0).toArray 1) (cells_ne_map (Row.new w 66 (nodeL 1 2 1)) hm1)).trans (Row.new w 66 (nodeL 1 2 1)))
  have hat : atI (nodesTo 9) 1 = some (.agg (nodeL 1 2 1).toArray) := rfl
  rw [hat] at hl
  simp only [Option.getD, Option.isSome, nodeL] at hl
  simp only [atI, Option.getD] at hlm
  have n5 := (show World.cell? ((w.alloc (.cells (nodeL 1 2 1).toArray 66)).putObj met (.map (ents [(1, .int .i64 1)] 0).toArray 1)) ⟨w.heap.size, 5, none⟩ = some (.slice none 0 0) from HNn.out.cell 5)
  simp only [nodeL] at hlm hput b2 HM HR2 HBl n5
  clear hs h1 h2 hm hm1 hb1 HNn hat
  go_enter Tryz.func39, Tryz.ntmps39
  go_wp2
  generalize ((w.alloc (.cells #[.int .i64 1, .int .i64 2, .int .i64 1, .int .i64 0, .slice none 0 0, .slice none 0 0, .int .i64 0, .int .i64 0, .slice none 0 0, .int .i64 0] 66)).putObj met (.map (ents [(1, .int .i64 1)] 0).toArray 1)) = w3 at *
  go_loopw [33] (fun iv wz => iv = .int .i64 0 ∧ wz = w3) (fun _ _ => 0)
  case atStart => exact ⟨rfl, rfl⟩
  case round =>
    obtain ⟨rfl, rfl⟩ := hrel
    go_wp2
    go_end0
    exact ⟨rfl, HM.out, HR2.out, HBl.out⟩
theorem field66 (i k l : Int) (y : World) : (Instr.field 66 (.agg #[.int .i64 i, .int .i64 k, .int .i64 l, .int .i64 0, .slice none 0 0, .slice none 0 0, .int .i64 0, .int .i64 0, .slice none 0 0, .int .i64 0]) 1).run Tryz.prog y = .ok (.int .i64 k) y := by rfl
set_option maxHeartbeats 8000000 in
theorem call_reach (R m mo : Nat) (w : World) (hs : ScanOk w R m mo) :
    Calls Tryz.prog 15 #[.pointer (some ⟨R, 0, none⟩)] w fun e w' => e = .returned (.map (some (w.heap.size + 1))) ∧ MapI w' (w.heap.size + 1) [(1, .int .i64 1)] ∧ Below w.heap.size w w' := by
  have hmm := @run_makeMap Tryz.prog
  obtain ⟨A1, e1⟩ : ∃ A, w.alloc (.cells #[.pointer (some ⟨R, 0, none⟩)] 53) = A := ⟨_, rfl⟩
  have z1 : A1.heap.size = w.heap.size + 1 := by rw [← e1, alloc_size]
  have r1 : Row A1 w.heap.size 53 [.pointer (some ⟨R, 0, none⟩)] := by rw [← e1]; exact Row.new w 53 _
  have b1 : Below w.heap.size w A1 := by rw [← e1]; exact below_alloc1 _ _
  obtain ⟨A2, e2⟩ : ∃ A, A1.alloc (.map #[] 0) = A := ⟨_, rfl⟩
  have z2 : A2.heap.size = w.heap.size + 1 + 1 := by rw [← e2, alloc_size, z1]
  have r2 : MapI A2 (w.heap.size + 1) [] := by rw [← e2, ← z1]; exact MapI.made A1
  have b2 : Below A1.heap.size A1 A2 := by rw [← e2]; exact below_alloc1 _ _
  obtain ⟨A3, e3⟩ : ∃ A, A2.alloc (.cells #[.map (some (w.heap.size + 1))] 60) = A := ⟨_, rfl⟩
  have z3 : A3.heap.size = w.heap.size + 1 + 1 + 1 := by rw [← e3, alloc_size, z2]
  have r3 : Row A3 (w.heap.size + 1 + 1) 60 [.map (some (w.heap.size + 1))] := by rw [← e3, ← z2]; exact Row.new A2 60 _
  have b3 : Below A2.heap.size A2 A3 := by rw [← e3]; exact below_alloc1 _ _
  obtain ⟨A9, e9⟩ : ∃ A, A3.alloc (.cells #[.nilFunc] 109) = A := ⟨_, rfl⟩
  have r9 : Row A9 (w.heap.size + 1 + 1 + 1) 109 [.nilFunc] := by rw [← e9, ← z3]; exact Row.new A3 109 _
  have b9 : Below A3.heap.size A3 A9 := by rw [← e9]; exact below_alloc1 _ _
  obtain ⟨A4, e4⟩ : ∃ A, A9.setCell ⟨w.heap.size + 1 + 1 + 1, 0, none⟩ (.func (.func 39) #[] #[.pointer (some ⟨w.heap.size, 0, none⟩), .pointer (some ⟨w.heap.size + 1 + 1, 0, none⟩), .pointer (some ⟨w.heap.size + 1 + 1 + 1, 0, none⟩)]) = A := ⟨_, rfl⟩
  have r4 : Row A4 (w.heap.size + 1 + 1 + 1) 109 [.func (.func 39) #[] #[.pointer (some ⟨w.heap.size, 0, none⟩), .pointer (some ⟨w.heap.size + 1 + 1, 0, none⟩), .pointer (some ⟨w.heap.size + 1 + 1 + 1, 0, none⟩)]] := by rw [← e4]; exact r9.set 0 _
  have b4 : Below A3.heap.size A3 A4 := by rw [← e4]; exact b9.setCell (p := ⟨w.heap.size + 1 + 1 + 1, 0, none⟩) (by rw [z3]; exact Nat.le_refl _) _
  have u0 := (show A9.cell? ⟨w.heap.size + 1 + 1 + 1, 0, none⟩ = some .nilFunc from r9.cell 0)
  have u1 := r9.free 0
  have c34 := below_after b3 b4
  have c24 := below_after b2 c34
  have c14 := below_after b1 c24
  have hs4 := hs.below c14
  have hml := hs.map.lt
  have hol := hs.own.lt
  have s0 := (show A4.cell? ⟨w.heap.size, 0, none⟩ = some (.pointer (some ⟨R, 0, none⟩)) from (r1.below c24 r1.lt).cell 0)
  have s6 := hs4.c6
  have t0 := (show A4.cell? ⟨w.heap.size + 1 + 1 + 1, 0, none⟩ = some _ from r4.cell 0)
  have hl := hs4.map.look Tryz.underlying59 Tryz.underlying3 (zero66 A4) 1
  rw [show atI (nodesTo 9) 1 = some (.agg (nodeL 1 2 1).toArray) from rfl] at hl
  simp only [Option.getD, nodeL] at hl
  have HV := Lib.hid ((call_visit R m mo w.heap.size (w.heap.size + 1 + 1) (w.heap.size + 1 + 1 + 1) (w.heap.size + 1) A4 hs4 (r1.below c24 r1.lt) (r3.below b4 r3.lt) (r2.below c34 r2.lt) ⟨by omega, by omega⟩ w.heap.size (Nat.le_succ _) c14.size).mono fun e w' h => (show e = .returned (.tuple #[]) ∧ MapI w' (w.heap.size + 1) [(1, .int .i64 1)] ∧ Row w' (w.heap.size + 1 + 1) 60 [.map (some (w.heap.size + 1))] ∧ Below w.heap.size w w' from ⟨h.1, h.2.1, h.2.2.1, c14.trans h.2.2.2⟩))
  clear hs hs4 c14 c24 c34 b1 b2 b3 b4 r1 r2 r3 r4 z1 z2 z3 hml hol
  clear r9 b9
  rw [← e3, ← e2, ← e1] at e9
  subst e9
  clear e1 e2 e3
  have hfd := field66
  go_enter Tryz.func15, Tryz.ntmps15
  go_wp2_with (go_at_call 39; refine HV.out.mono ?_; rintro e w9 ⟨rfl, hm9, hr9, hb9⟩; have q0 := (show w9.cell? ⟨w.heap.size + 1 + 1, 0, none⟩ = some (.map (some (w.heap.size + 1))) from hr9.cell 0); have HM9 := Lib.hid hm9; have HB9 := Lib.hid hb9; clear hm9 hr9 hb9)
  go_ret
  exact ⟨rfl, HM9.out, HB9.out⟩
end Go.Proofs.YtgoogbakhhbnhaaGreatDoor.Ar
