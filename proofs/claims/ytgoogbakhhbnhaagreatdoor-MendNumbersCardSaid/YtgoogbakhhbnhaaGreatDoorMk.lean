
/-
  Mend, k: the shape.
-/
import Derived.Test.YtgoogbakhhbnhaaGreatDoorMj
import Derived.Laws.StructEq
set_option linter.unusedVariables false
set_option linter.unusedSimpArgs false
set_option maxRecDepth 100000
namespace Go.Proofs.YtgoogbakhhbnhaaGreatDoor.Ar
open Go.RowKit Go.Sort Go.Lib Go.Proofs.YtgoogbakhhbnhaaGreatDoor.Rs
theorem call_isShape (w : World) : Calls Tryz.prog 58 #[.agg #[.int .i64 24, .int .i64 8, .int .i64 1, .int .i64 5]] w fun e w' => e = .returned (.bool true) ∧ Below w.heap.size w w' := by
  have hr := Row.new w 58 [.int .i64 24, .int .i64 8, .int .i64 1, .int .i64 5]
  have HR := Lib.hid hr
  clear hr
  go_enter Tryz.func58, Tryz.ntmps58
  go_wp2_with (go_at_call 23; refine (call_fit1 _).mono ?_; rintro e w1 ⟨rfl, hb⟩; have HB := Lib.hid (below_after (below_alloc1 w _) hb); have hr1 := HR.out.below hb HR.out.lt; have HR1 := Lib.hid hr1; clear hb hr1; have s0 := (show w1.cell? ⟨w.heap.size, 0, none⟩ = some (.int .i64 24) from HR1.out.cell 0); have s1 := (show w1.cell? ⟨w.heap.size, 1, none⟩ = some (.int .i64 8) from HR1.out.cell 1); have s2 := (show w1.cell? ⟨w.heap.size, 2, none⟩ = some (.int .i64 1) from HR1.out.cell 2); have s3 := (show w1.cell? ⟨w.heap.size, 3, none⟩ = some (.int .i64 5) from HR1.out.cell 3); have hlt := HR1.out.lt)
  go_ret
  exact ⟨rfl, HB.out.alloc (Nat.le_of_lt hlt) _⟩
theorem call_shaped (w : World) : Calls Tryz.prog 88 #[.agg #[.int .i64 24, .int .i64 8, .int .i64 1, .int .i64 5], .int .i64 12288] w fun e w' => e = .returned (.bool true) ∧ Below w.heap.size w w' := by
  have hr := Row.new w 58 [.int .i64 24, .int .i64 8, .int .i64 1, .int .i64 5]
  have HR := Lib.hid hr
  clear hr
  go_enter Tryz.func88, Tryz.ntmps88
  go_wp2_with (go_at_call 23; refine (call_fit1 _).mono ?_; rintro e w1 ⟨rfl, hb⟩; have HB := Lib.hid (below_after (below_alloc1 w _) hb); have hr1 := HR.out.below hb HR.out.lt; have HR1 := Lib.hid hr1; clear hb hr1; have s0 := (show w1.cell? ⟨w.heap.size, 0, none⟩ = some (.int .i64 24) from HR1.out.cell 0); have s1 := (show w1.cell? ⟨w.heap.size, 1, none⟩ = some (.int .i64 8) from HR1.out.cell 1); have s2 := (show w1.cell? ⟨w.heap.size, 2, none⟩ = some (.int .i64 1) from HR1.out.cell 2); have s3 := (show w1.cell? ⟨w.heap.size, 3, none⟩ = some (.int .i64 5) from HR1.out.cell 3); have hlt := HR1.out.lt)
  go_ret
  exact ⟨rfl, HB.out.alloc (Nat.le_of_lt hlt) _⟩
end Go.Proofs.YtgoogbakhhbnhaaGreatDoor.Ar
