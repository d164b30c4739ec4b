/- RunStates: the two texts of a state are one; the law's walk. -/
import Derived.Test.YtlecpjfggoehdaaDoorRsG
set_option linter.unusedVariables false
set_option linter.unusedSimpArgs false
namespace Go.Proofs.YtlecpjfggoehdaaDoor.Rs
open Go.RowKit Go.Sort Go.Lib

theorem rnums_join {xs : List Int} (h : xs ≠ []) : [32] ++ numStr xs = rnums xs := by
  cases xs with
  | nil => exact absurd rfl h
  | cons x xs =>
    simp only [numStr, rnums, List.map_cons, join_cons, joinTail, List.flatten_cons, List.map_map]
    rw [← List.append_assoc]
    rfl
theorem front_eq (n : Nd) : frontRun n = rfront n := by simp [frontRun, headRun, rfront, rhead]
theorem log_eq (n : Nd) : logRun n = rlog n := by
  unfold logRun rlog
  rw [front_eq]
  split
  · rfl
  · rename_i h
    rw [← rnums_join h]; simp
theorem node_eq (n : Nd) : nodeRun n = rnode n := by
  unfold nodeRun rnode mapRun rmap
  rw [log_eq]
  split <;> simp
theorem shape_eq (t : St) : rshape t = shapeRun t ++ [10] := by
  simp only [rshape, shapeRun, ← rnums_join (xs := [t.pages, t.inodes, t.cores]) (by simp)]
  simp
theorem joinTail_cons (sep x : List UInt8) (r : List (List UInt8)) : joinTail sep (x :: r) = sep ++ (x ++ joinTail sep r) := by simp [joinTail]
theorem tail_eq (l : List Nd) (f : List UInt8) : joinTail [10] (l.map nodeRun ++ [f]) = [10] ++ ((l.map rlineB).flatten ++ f) := by
  induction l with
  | nil => simp [joinTail]
  | cons n l ih =>
    rw [List.map_cons, List.cons_append, joinTail_cons, ih, node_eq, List.map_cons, List.flatten_cons, rlineB]
    simp
theorem state_eq (t : St) : stateRun t = rstate t := by
  unfold stateRun linesRun rstate rlines
  rw [List.append_assoc, List.singleton_append, join_cons, tail_eq, shape_eq]
  simp [freeRun]

set_option maxHeartbeats 4000000 in
set_option maxRecDepth 100000 in
theorem call_law (t : St) (vn vf : Value) (w : World) (hv : StV w t vn vf) (hp : Pow w) (ht : KindTab w) :
    Calls Tryd.prog 3 #[.agg #[.int .i64 t.pages, .int .i64 t.inodes, .int .i64 t.cores, .int .i64 t.data, vn, vf]] w fun e w' => e = .returned (.bool true) ∧ Below w.heap.size w w' := by
  obtain ⟨an, mn, cn, rfl⟩ : ∃ a m c, vn = .slice a m c := by obtain ⟨a, b, o, c, e, _⟩ := hv.nodes; exact ⟨a, _, c, e⟩
  obtain ⟨af, mf, cf, rfl⟩ : ∃ a m c, vf = .slice a m c := by obtain ⟨a, b, o, c, e, _⟩ := hv.free; exact ⟨a, _, c, e⟩
  have hS0 : StS w t (.slice an mn cn) (.slice af mf cf) (w.alloc (.cells #[.int .i64 t.pages, .int .i64 t.inodes, .int .i64 t.cores, .int .i64 t.data, .slice an mn cn, .slice af mf cf] 27)) := st_cells (Box.new w 27 _)
  have HP := Lib.hid hp
  have HT := Lib.hid ht
  have HV := Lib.hid hv
  clear hp ht hv
  go_enter Tryd.func3, Tryd.ntmps3
  go_wp2_with fail
  refine (call_rstate t _ _ _ (HV.out.keep (keeps_below hS0.box.2)) (HP.out.below hS0.box.2)).mono ?_
  rintro e w1 ⟨rfl, hb1⟩
  have hS1 : StS w t (.slice an mn cn) (.slice af mf cf) w1 := st_cells (hS0.box.step hb1)
  clear hS0 hb1
  go_wp2_with fail
  refine (call_state t _ _ _ (HV.out.keep (keeps_below hS1.box.2)) (HP.out.below hS1.box.2) (HT.out.below hS1.box.2)).mono ?_
  rintro e w2 ⟨rfl, hb2⟩
  rw [state_eq]
  have hS2 : StS w t (.slice an mn cn) (.slice af mf cf) w2 := st_cells (hS1.box.step hb2)
  clear hS1 hb2
  go_wp2_with fail
  refine (call_state t _ _ _ (HV.out.keep (keeps_below hS2.box.2)) (HP.out.below hS2.box.2) (HT.out.below hS2.box.2)).mono ?_
  rintro e w3 ⟨rfl, hb3⟩
  rw [state_eq]
  have hS3 := Lib.hid (hS2.box.step hb3).2
  clear hS2 hb3
  go_wp2
  go_ret
  exact ⟨rfl, hS3.out⟩
end Go.Proofs.YtlecpjfggoehdaaDoor.Rs
