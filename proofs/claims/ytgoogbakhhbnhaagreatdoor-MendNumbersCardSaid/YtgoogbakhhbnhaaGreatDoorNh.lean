/-
  Mend: the two places compared; the sort that leaves them.
-/
import Derived.Test.YtgoogbakhhbnhaaGreatDoorNg
set_option linter.unusedVariables false
set_option linter.unusedSimpArgs false
set_option maxRecDepth 100000
namespace Go.Proofs.YtgoogbakhhbnhaaGreatDoor.Ar
open Go.RowKit Go.Sort Go.Lib Go.Proofs.YtgoogbakhhbnhaaGreatDoor.Rs
def sepS : ByteArray := { data := #[47] }
def fiveS : ByteArray := { data := #[53] }
def MaxL (w : World) : Prop := ∃ m : Int, w.cell? ⟨2, 0, none⟩ = some (.int .i64 m)
theorem MaxL.below {w w' : World} (h : MaxL w) (hb : Below w.heap.size w w') : MaxL w' := by
  obtain ⟨m, hm⟩ := h
  exact ⟨m, keeps_below hb _ _ _ hm⟩
theorem split5 (w : World) (h : MaxL w) : Calls Tryz.prog 73 #[.string lost5, .string sepS] w fun e w' => e = .returned (.slice (some ⟨w.heap.size, 0, none⟩) 2 2) ∧ w' = w.alloc (.cells #[.string lostS, .string fiveS] 9) := by
  obtain ⟨m, hm⟩ := h
  exact Tryz.strings_Split lost5 sepS m w (by decide) hm (by decide)
theorem split4 (w : World) (h : MaxL w) : Calls Tryz.prog 73 #[.string lostS, .string sepS] w fun e w' => e = .returned (.slice (some ⟨w.heap.size, 0, none⟩) 1 1) ∧ w' = w.alloc (.cells #[.string lostS] 9) := by
  obtain ⟨m, hm⟩ := h
  exact Tryz.strings_Split lostS sepS m w (by decide) hm (by decide)
theorem bytesLess_self : ∀ l : List UInt8, Op.bytesLess l l = false
  | [] => rfl
  | a :: l => by simp [Op.bytesLess, bytesLess_self l]
theorem call_nan (s : ByteArray) (w : World) : Calls Tryz.prog 108 #[.string s] w fun e w' => e = .returned (.bool false) ∧ w' = w := by
  go_enter Tryz.func108, Tryz.ntmps108
  go_wp2
  go_ret
  first
    | exact ⟨rfl, rfl⟩
    | (refine ⟨?_, rfl⟩; simp)
theorem call_cmp0 (w : World) : Calls Tryz.prog 74 #[.string lostS, .string lostS] w fun e w' => e = .returned (.int .i64 0) ∧ w' = w := by
  have hl : Op.bytesLess lostS.toList lostS.toList = false := bytesLess_self _
  go_enter Tryz.func74, Tryz.ntmps74
  go_wp2_with (go_at_call 108; refine (call_nan _ _).mono ?_; rintro e w3 ⟨rfl, rfl⟩)
  all_goals (first | (exfalso; simp_all; done) | (go_ret; exact ⟨rfl, rfl⟩))
set_option maxHeartbeats 4000000 in
theorem call_cmpF (g5 g4 : Nat) (w : World) (h5 : Row w g5 9 [.string lostS, .string fiveS]) (h4 : Row w g4 9 [.string lostS]) :
    Calls Tryz.prog 72 #[.slice (some ⟨g5, 0, none⟩) 2 2, .slice (some ⟨g4, 0, none⟩) 1 1, .func (.func 74) #[] #[]] w fun e w' => e = .returned (.int .i64 1) ∧ w' = w := by
  have a0 := (show w.cell? ⟨g5, 0, none⟩ = some (.string lostS) from h5.cell 0)
  have a1 := (show w.cell? ⟨g5, 1, none⟩ = some (.string fiveS) from h5.cell 1)
  have b0 := (show w.cell? ⟨g4, 0, none⟩ = some (.string lostS) from h4.cell 0)
  clear h5 h4
  go_enter Tryz.func72, Tryz.ntmps72
  go_wp2
  go_loopw [13] (fun iv wr => ∃ j : Nat, iv = .int .i64 j ∧ j ≤ 1 ∧ wr = w) (fun iv _ => 1 - (RowKit.intOf iv).toNat)
  case atStart => exact ⟨0, rfl, by decide, rfl⟩
  case round =>
    obtain ⟨j, rfl, hj, rfl⟩ := hrel
    rcases (show j = 0 ∨ j = 1 by omega) with rfl | rfl
    · go_wp2_with (go_at_call 74; refine (call_cmp0 _).mono ?_; rintro e w3 ⟨rfl, rfl⟩)
      exact ⟨⟨1, rfl, by decide, trivial⟩, by simp [RowKit.intOf]⟩
    · go_wp2
      go_ret
      exact ⟨rfl, rfl⟩
theorem step_call2 {P : Program} {ops : Array Oper} {o : Oper} {a : Act} {w : World} {K : Act → World → Prop} {Q : Exit → Act → World → Prop} {E : Prop} (hgd : o.guard = none) (x y : Operand) (t1 t2 : TypeId) (f : Nat)
    (ho : o.op = .call { callee := .value (.func f), args := #[x, y], argTypes := #[t1, t2] }) (vx vy : Value) (hx : a.eval x = vx) (hy : a.eval y = vy) (he : ∀ args w, (callFunc f args).run P w = .ok (.enter f args) w)
    (h : Calls P f #[vx, vy] w fun e w' => ∃ v, e = .returned v ∧ K (a.put o.dst v) w') :
    if Region.wanted o (yielded ops a.tmps) = true then Oper.wp P o a w K Q else E := by
  have hw : Region.wanted o (yielded ops a.tmps) = true := by simp [Region.wanted, hgd]
  rw [if_pos hw]
  unfold Oper.wp execOp
  simp only [ho, resolve, invoke, Sem.run_bind, Sem.run_pure, Result.andThen_ok, List.map_toArray, List.map_cons, List.map_nil, hx, hy]
  rw [show a.eval (.func f) = .func (.func f) #[] #[] from rfl]
  simp only [Deferred.ofValue, Sem.run_pure, Result.andThen_ok, Array.append_empty, Array.empty_append, he]
  rw [Oper.upon_enter]
  refine h.mono ?_
  rintro e w' ⟨v, rfl, hk⟩
  exact hk
set_option maxHeartbeats 4000000 in
theorem call_ahead (w : World) (hM : MaxL w) :
    Calls Tryz.prog 48 #[.agg #[.string lost5, .int .i64 5], .agg #[.string lostS, .int .i64 0]] w fun e w' => e = .returned (.int .i64 1) ∧ Below w.heap.size w w' := by
  obtain ⟨A2, eA⟩ : ∃ A, (w.alloc (.cells #[.string lost5, .int .i64 5] 118)).alloc (.cells #[.string lostS, .int .i64 0] 118) = A := ⟨_, rfl⟩
  have hb : Below w.heap.size w A2 := by rw [← eA]; exact below_alloc2 _ _ _
  have r1 : Row A2 w.heap.size 118 [.string lost5, .int .i64 5] := by rw [← eA]; exact (Row.new w 118 [.string lost5, .int .i64 5]).below (below_alloc1 _ _) (by simp)
  have r2 : Row A2 (w.heap.size + 1) 118 [.string lostS, .int .i64 0] := by rw [← eA]; exact row_new1 w _ 118 _
  have c1 := (show A2.cell? ⟨w.heap.size, 0, none⟩ = some (.string lost5) from r1.cell 0)
  have c2 := (show A2.cell? ⟨w.heap.size + 1, 0, none⟩ = some (.string lostS) from r2.cell 0)
  have hbd := hb.drew
  have HB := Lib.hid hbd
  have HR2 := Lib.hid r2.drew
  have HM1 := Lib.hid (hM.below hbd)
  clear hb r1 r2 hbd hM
  go_enter Tryz.func48, Tryz.ntmps48
  go_wp2
  go_region_law (first
    | (refine step_call2 (by rfl) _ _ 9 9 73 (by rfl) _ _ (by rfl) (by rfl) (enters_of Tryz.func73 (by kernel_rfl) rfl) ((split5 _ HM1.out).mono ?_); rintro e x1 ⟨rfl, hx1⟩; refine ⟨_, rfl, ?_⟩; have hbx : Below A2.drew.heap.size A2.drew x1 := (by rw [hx1]; exact below_alloc1 _ _); have X1 := Lib.hid (show Row x1 A2.drew.heap.size 9 [.string lostS, .string fiveS] from (by rw [hx1]; exact Row.new _ 9 _)); have XM := Lib.hid (HM1.out.below hbx); have XB := Lib.hid (below_after HB.out hbx); have d2 := (show x1.cell? ⟨w.heap.size + 1, 0, none⟩ = some (.string lostS) from (HR2.out.below hbx HR2.out.lt).cell 0); clear hx1 hbx)
    | (refine step_call2 (by rfl) _ _ 9 9 73 (by rfl) _ _ (by rfl) (by rfl) (enters_of Tryz.func73 (by kernel_rfl) rfl) ((split4 _ XM.out).mono ?_); rintro e x2 ⟨rfl, hx2⟩; refine ⟨_, rfl, ?_⟩; have hbx2 : Below x1.heap.size x1 x2 := (by rw [hx2]; exact below_alloc1 _ _); have X2 := Lib.hid (show Row x2 x1.heap.size 9 [.string lostS] from (by rw [hx2]; exact Row.new _ 9 _)); have X12 := Lib.hid (X1.out.below hbx2 X1.out.lt); have XB2 := Lib.hid (below_after XB.out hbx2); clear hx2 hbx2)
    | (refine step_call3 (by rfl) _ _ _ 156 156 158 72 (by rfl) _ _ _ (by rfl) (by rfl) (by rfl) (enters_of Tryz.func72 (by kernel_rfl) rfl) ((call_cmpF _ _ _ X12.out X2.out).mono ?_); rintro e x3 ⟨rfl, rfl⟩; refine ⟨_, rfl, ?_⟩))
  all_goals go_wp2
  all_goals go_ret
  all_goals exact ⟨rfl, XB2.out⟩
end Go.Proofs.YtgoogbakhhbnhaaGreatDoor.Ar
