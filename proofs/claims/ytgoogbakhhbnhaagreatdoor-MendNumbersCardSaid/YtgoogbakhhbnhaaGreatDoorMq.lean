/-
  Mend, q: a log that is empty, walked.
-/
import Derived.Test.YtgoogbakhhbnhaaGreatDoorMp
import Derived.Laws.StructEq
set_option linter.unusedVariables false
set_option linter.unusedSimpArgs false
set_option maxRecDepth 100000
namespace Go.Proofs.YtgoogbakhhbnhaaGreatDoor.Ar
open Go.RowKit Go.Sort Go.Lib Go.Proofs.YtgoogbakhhbnhaaGreatDoor.Rs
def shpV : Value := .agg #[.int .i64 24, .int .i64 8, .int .i64 1, .int .i64 5]
def dirV : Value := .agg #[.int .i64 2, .int .i64 1, .int .i64 0, .int .i64 0]
theorem alloc_two {w w1 : World} {o o' : Obj} (hb : Below ((w.alloc o).alloc o').heap.size ((w.alloc o).alloc o') w1) : Below w.heap.size w w1 := below_after (below_alloc2 w o o') hb
set_option maxHeartbeats 4000000 in
theorem call_inUse (n : Nat) (w : World) (n0 : 1 ≤ n) (n1 : n ≤ 8) (hst : Stp w) :
    Calls Tryz.prog 89 #[shpV, .int .i64 n, dirV] w fun e w' => e = .returned (.bool true) ∧ Below w.heap.size w w' := by
  have HST := Lib.hid hst
  have hps := Lib.hid (fun W (h : Stp W) => call_packSlot n (2048 + (n - 1) * 64) _ W n0 (by omega) rfl rfl h)
  generalize sealI ((2048 + (n - 1) * 64 : Nat) : Int) 258 = x at hps
  have k0 : (1 : Int) ≤ n := by omega
  have k1 : (n : Int) ≤ 8 := by omega
  have H0a := Lib.hid ((Row.new w 58 [.int .i64 24, .int .i64 8, .int .i64 1, .int .i64 5]).below (below_alloc1 _ (.cells #[.int .i64 2, .int .i64 1, .int .i64 0, .int .i64 0] 50)) (by simp))
  have H0b := Lib.hid (row_new1 w (.cells #[.int .i64 24, .int .i64 8, .int .i64 1, .int .i64 5] 58) 50 [.int .i64 2, .int .i64 1, .int .i64 0, .int .i64 0])
  have H0c := Lib.hid (below_alloc2 w (.cells #[.int .i64 24, .int .i64 8, .int .i64 1, .int .i64 5] 58) (.cells #[.int .i64 2, .int .i64 1, .int .i64 0, .int .i64 0] 50))
  have HSta := Lib.hid (HST.out.below H0c.out)
  have s0 := (show World.cell? ((w.alloc (.cells #[.int .i64 24, .int .i64 8, .int .i64 1, .int .i64 5] 58)).alloc (.cells #[.int .i64 2, .int .i64 1, .int .i64 0, .int .i64 0] 50)) ⟨w.heap.size, 1, none⟩ = some (.int .i64 8) from H0a.out.cell 1)
  clear hst
  unfold shpV dirV
  go_enter Tryz.func89, Tryz.ntmps89
  go_wp2_with (go_at_call 9; refine (hps.out _ HSta.out).mono ?_; rintro e w1 ⟨rfl, hb⟩; have H1a := Lib.hid ((H0b.out.below hb H0b.out.lt).alloc (.cells #[.int .u64 x, .int .u64 0, .int .u64 0] 46)); have hb1 := below_after H0c.out hb; have H1c := Lib.hid (hb1.alloc hb1.size (.cells #[.int .u64 x, .int .u64 0, .int .u64 0] 46)); clear hb hb1 s0 H0a H0b H0c HSta; have s0 := (show World.cell? (w1.alloc (.cells #[.int .u64 x, .int .u64 0, .int .u64 0] 46)) ⟨w.heap.size + 1, 3, none⟩ = some (.int .i64 0) from H1a.out.cell 3))
  go_quiet (fail)
  have HB := Lib.hid (Below.drewN' H1c.out nq)
  clear s0 H1a H1c
  generalize (w1.alloc (.cells #[.int .u64 x, .int .u64 0, .int .u64 0] 46)).drewN nq = wd at *
  go_wp2
  go_ret
  exact ⟨rfl, HB.out⟩
set_option maxHeartbeats 4000000 in
theorem call_walk (n c : Nat) (a : Option Addr) (w : World) (n0 : 1 ≤ n) (n1 : n ≤ 8) (hst : Stp w) :
    Calls Tryz.prog 60 #[.slice a 12288 c, shpV, .int .i64 n, dirV] w fun e w' => e = .returned (.tuple #[.slice none 0 0, .slice none 0 0, .int .i64 0]) ∧ Below w.heap.size w w' := by
  have HST := Lib.hid hst
  have k0 : (1 : Int) ≤ n := by omega
  have k1 : (n : Int) ≤ 8 := by omega
  have H0a := Lib.hid ((Row.new w 58 [.int .i64 24, .int .i64 8, .int .i64 1, .int .i64 5]).below (below_alloc1 _ (.cells #[.int .i64 2, .int .i64 1, .int .i64 0, .int .i64 0] 50)) (by simp))
  have H0b := Lib.hid (row_new1 w (.cells #[.int .i64 24, .int .i64 8, .int .i64 1, .int .i64 5] 58) 50 [.int .i64 2, .int .i64 1, .int .i64 0, .int .i64 0])
  have H0c := Lib.hid (below_alloc2 w (.cells #[.int .i64 24, .int .i64 8, .int .i64 1, .int .i64 5] 58) (.cells #[.int .i64 2, .int .i64 1, .int .i64 0, .int .i64 0] 50))
  have hin := Lib.hid (fun W (h : Stp W) => call_inUse n W n0 n1 h)
  clear hst
  unfold shpV dirV at *
  go_enter Tryz.func60, Tryz.ntmps60
  go_wp2_with (first
    | (go_at_call 88; refine (call_shaped _).mono ?_; rintro e w1 ⟨rfl, hb⟩; have H1a := Lib.hid (H0a.out.below hb H0a.out.lt); have H1b := Lib.hid (H0b.out.below hb H0b.out.lt); have H1c := Lib.hid (below_after H0c.out hb); clear hb H0a H0b H0c; have s0 := (show w1.cell? ⟨w.heap.size, 0, none⟩ = some (.int .i64 24) from H1a.out.cell 0); have s1 := (show w1.cell? ⟨w.heap.size, 1, none⟩ = some (.int .i64 8) from H1a.out.cell 1); have s2 := (show w1.cell? ⟨w.heap.size, 2, none⟩ = some (.int .i64 1) from H1a.out.cell 2); have s3 := (show w1.cell? ⟨w.heap.size, 3, none⟩ = some (.int .i64 5) from H1a.out.cell 3); have t0 := (show w1.cell? ⟨w.heap.size + 1, 0, none⟩ = some (.int .i64 2) from H1b.out.cell 0); have t1 := (show w1.cell? ⟨w.heap.size + 1, 1, none⟩ = some (.int .i64 1) from H1b.out.cell 1); have t2 := (show w1.cell? ⟨w.heap.size + 1, 2, none⟩ = some (.int .i64 0) from H1b.out.cell 2); have t3 := (show w1.cell? ⟨w.heap.size + 1, 3, none⟩ = some (.int .i64 0) from H1b.out.cell 3))
    | (go_at_call 89; refine (hin.out _ (HST.out.below H1c.out)).mono ?_; rintro e w2 ⟨rfl, hb⟩; have H2b := Lib.hid (H1b.out.below hb H1b.out.lt); have H2c := Lib.hid (below_after H1c.out hb); clear hb s0 s1 s2 s3 t0 t1 t2 t3 H1a H1b H1c; have t3 := (show w2.cell? ⟨w.heap.size + 1, 3, none⟩ = some (.int .i64 0) from H2b.out.cell 3)))
  exact ⟨rfl, .tuple #[.slice none 0 0, .slice none 0 0, .int .i64 0], by simp [results, Tryz.results60, go_sem], rfl, H2c.out⟩
theorem call_newIdx (w : World) : Calls Tryz.prog 122 #[] w fun e w' => ∃ X m1 m2 m3, e = .returned (.pointer (some ⟨X, 0, none⟩)) ∧ Row w' X 274 [.map (some m1), .map (some m2), .map (some m3)] ∧ MapI w' m2 [] ∧ w.heap.size ≤ m2 ∧ Below w.heap.size w w' := by
  have hmm := @run_makeMap Tryz.prog
  go_enter Tryz.func122, Tryz.ntmps122
  go_wp2
  go_ret
  have h2 := MapI.made (w.alloc (.map #[] 0))
  have hr := Row.new (((w.alloc (.map #[] 0)).alloc (.map #[] 0)).alloc (.map #[] 0)) 274 [.map (some w.heap.size), .map (some (w.heap.size + 1)), .map (some (w.heap.size + 1 + 1))]
  rw [alloc_size] at h2
  rw [alloc_size, alloc_size, alloc_size] at hr
  have hb3 := (below_alloc2 w (.map #[] 0) (.map #[] 0)).alloc (by rw [alloc_size, alloc_size]; omega) (.map #[] 0)
  refine ⟨_, _, _, _, rfl, hr, ?_, Nat.le_succ _, hb3.alloc (by rw [alloc_size, alloc_size, alloc_size]; omega) _⟩
  exact (h2.below (below_alloc1 _ (.map #[] 0)) h2.lt).below (below_alloc1 _ _) (by rw [alloc_size, alloc_size, alloc_size]; omega)
/-- an empty directory's sense: its index -/
structure Sen (w : World) (R : Nat) : Prop where
  ex : ∃ X m1 m2 m3, Row w R 231 [.int .i64 2, .int .i64 0, .pointer none, .pointer (some ⟨X, 0, none⟩)] ∧ Row w X 274 [.map (some m1), .map (some m2), .map (some m3)] ∧ MapI w m2 []
theorem Sen.below {w w' : World} {R : Nat} (h : Sen w R) (hb : Below w.heap.size w w') : Sen w' R := by
  obtain ⟨X, m1, m2, m3, h1, h2, h3⟩ := h.ex
  exact ⟨X, m1, m2, m3, h1.below hb h1.lt, h2.below hb h2.lt, h3.below hb h3.lt⟩
theorem call_empty (w : World) : Calls Tryz.prog 92 #[.int .i64 2] w fun e w' => ∃ R, e = .returned (.pointer (some ⟨R, 0, none⟩)) ∧ Sen w' R ∧ Below w.heap.size w w' := by
  go_enter Tryz.func92, Tryz.ntmps92
  go_wp2_with (go_at_call 122; refine (call_newIdx _).mono ?_; rintro e w1 ⟨X, m1, m2, m3, rfl, hr, hm, h2, hb⟩; have H1 := Lib.hid hr; have H2 := Lib.hid hm; have H3 := Lib.hid hb; clear hr hm hb)
  go_ret
  have hb := below_alloc1 w1 (.cells #[.int .i64 2, .int .i64 0, .pointer none, .pointer (some ⟨X, 0, none⟩)] 231)
  exact ⟨_, rfl, ⟨X, m1, m2, m3, Row.new w1 231 [.int .i64 2, .int .i64 0, .pointer none, .pointer (some ⟨X, 0, none⟩)], H1.out.below hb H1.out.lt, H2.out.below hb H2.out.lt⟩, H3.out.alloc H3.out.size _⟩
theorem zero3 (w : World) : (zeroValue 3).run Tryz.prog w = .ok (.int .i64 0) w := Tryz.zeroValue3 w
set_option maxHeartbeats 2000000 in
theorem call_list (X m1 m2 m3 : Nat) (w : World) (hr : Row w X 274 [.map (some m1), .map (some m2), .map (some m3)]) (hm : MapI w m2 []) :
    Calls Tryz.prog 125 #[.pointer (some ⟨X, 0, none⟩), .int .i64 1] w fun e w' => e = .returned (.slice none 0 0) ∧ w' = w := by
  have s0 := (show w.cell? ⟨X, 1, none⟩ = some (.map (some m2)) from hr.cell 1)
  have hl := hm.look Tryz.underlying60 Tryz.underlying3 (zero3 w) 1
  simp only [atI, Option.getD] at hl
  go_enter Tryz.func125, Tryz.ntmps125
  go_wp2
  go_ret
  exact ⟨rfl, rfl⟩
end Go.Proofs.YtgoogbakhhbnhaaGreatDoor.Ar
