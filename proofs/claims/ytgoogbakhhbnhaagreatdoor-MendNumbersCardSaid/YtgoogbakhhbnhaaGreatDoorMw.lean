/-
  Mend, w: look.
-/
import Derived.Test.YtgoogbakhhbnhaaGreatDoorMv
import Derived.Deep.RegionLaw
set_option linter.unusedVariables false
set_option linter.unusedSimpArgs false
set_option maxRecDepth 100000
namespace Go.Proofs.YtgoogbakhhbnhaaGreatDoor.Ar
open Go.RowKit Go.Sort Go.Lib Go.Proofs.YtgoogbakhhbnhaaGreatDoor.Rs
/-- the example's image: what its slots say -/
structure ImgE (l : List UInt8) : Prop where
  img : Img l
  free : ∀ (n : Nat) (vb : Value), 1 ≤ n → n ≤ 8 → n ≠ 1 → n ≠ 5 → SlotIs vb l n 0 0
  dir : ∀ (n : Nat) (vb : Value), n = 1 ∨ n = 5 → SlotIs vb l n 2 1
theorem row_ne {W : World} {B B' T T' : Nat} {c c' : List Value} (h : Row W B T c) (h' : Row W B' T' c') (hT : T ≠ T') : B ≠ B' := fun e => by
  subst e
  have h1 : W.heap[B]? = _ := h
  have h2 : W.heap[B]? = _ := h'
  rw [h1] at h2
  injection h2 with h2
  injection h2 with _ h3
  exact hT h3
theorem LookI.first {w w1 : World} {vb : Value} {l : List UInt8} (hb : Below w.heap.size w w1) (hv : Sl RByte 1 w1 vb l) :
    LookI w (((((w1.alloc (.cells #[.int .i64 24, .int .i64 8, .int .i64 1, .int .i64 5] 58)).alloc (.map #[] 0)).alloc (.map #[] 0)).alloc (.cells #[.int .i64 24, .int .i64 8, .int .i64 1, .int .i64 5, vb, .int .i64 0, .map (some (w1.heap.size + 1)), .slice none 0 0, .map (some (w1.heap.size + 1 + 1))] 62)).alloc (.cells #[.pointer (some ⟨w1.heap.size + 1 + 1 + 1, 0, none⟩)] 53))
      vb l w1.heap.size (w1.heap.size + 1 + 1 + 1 + 1) (w1.heap.size + 1 + 1 + 1) (w1.heap.size + 1) (w1.heap.size + 1 + 1) 1 [] := by
  obtain ⟨A1, e1⟩ : ∃ A, w1.alloc (.cells #[.int .i64 24, .int .i64 8, .int .i64 1, .int .i64 5] 58) = A := ⟨_, rfl⟩
  have z1 : A1.heap.size = w1.heap.size + 1 := by rw [← e1, alloc_size]
  have r1 : Row A1 w1.heap.size 58 [.int .i64 24, .int .i64 8, .int .i64 1, .int .i64 5] := by rw [← e1]; exact Row.new w1 58 [.int .i64 24, .int .i64 8, .int .i64 1, .int .i64 5]
  have b1 : Below w1.heap.size w1 A1 := by rw [← e1]; exact below_alloc1 _ _
  rw [e1]
  obtain ⟨A2, e2⟩ : ∃ A, A1.alloc (.map #[] 0) = A := ⟨_, rfl⟩
  have z2 : A2.heap.size = w1.heap.size + 1 + 1 := by rw [← e2, alloc_size, z1]
  have r2 : MapI A2 (w1.heap.size + 1) [] := by rw [← e2, ← z1]; exact MapI.made A1
  have b2 : Below A1.heap.size A1 A2 := by rw [← e2]; exact below_alloc1 _ _
  rw [e2]
  obtain ⟨A3, e3⟩ : ∃ A, A2.alloc (.map #[] 0) = A := ⟨_, rfl⟩
  have z3 : A3.heap.size = w1.heap.size + 1 + 1 + 1 := by rw [← e3, alloc_size, z2]
  have r3 : MapI A3 (w1.heap.size + 1 + 1) [] := by rw [← e3, ← z2]; exact MapI.made A2
  have b3 : Below A2.heap.size A2 A3 := by rw [← e3]; exact below_alloc1 _ _
  rw [e3]
  obtain ⟨A4, e4⟩ : ∃ A, A3.alloc (.cells #[.int .i64 24, .int .i64 8, .int .i64 1, .int .i64 5, vb, .int .i64 0, .map (some (w1.heap.size + 1)), .slice none 0 0, .map (some (w1.heap.size + 1 + 1))] 62) = A := ⟨_, rfl⟩
  have z4 : A4.heap.size = w1.heap.size + 1 + 1 + 1 + 1 := by rw [← e4, alloc_size, z3]
  have r4 : Row A4 (w1.heap.size + 1 + 1 + 1) 62 [.int .i64 24, .int .i64 8, .int .i64 1, .int .i64 5, vb, .int .i64 0, .map (some (w1.heap.size + 1)), .slice none 0 0, .map (some (w1.heap.size + 1 + 1))] := by
    rw [← e4, ← z3]; exact Row.new A3 62 [.int .i64 24, .int .i64 8, .int .i64 1, .int .i64 5, vb, .int .i64 0, .map (some (w1.heap.size + 1)), .slice none 0 0, .map (some (w1.heap.size + 1 + 1))]
  have b4 : Below A3.heap.size A3 A4 := by rw [← e4]; exact below_alloc1 _ _
  rw [e4]
  have r5 : Row (A4.alloc (.cells #[.pointer (some ⟨w1.heap.size + 1 + 1 + 1, 0, none⟩)] 53)) (w1.heap.size + 1 + 1 + 1 + 1) 53 [.pointer (some ⟨w1.heap.size + 1 + 1 + 1, 0, none⟩)] := by
    rw [← z4]; exact Row.new A4 53 _
  have b5 := below_alloc1 A4 (.cells #[.pointer (some ⟨w1.heap.size + 1 + 1 + 1, 0, none⟩)] 53)
  have c45 := below_after b4 b5
  have c35 := below_after b3 c45
  have c25 := below_after b2 c35
  have c15 := below_after b1 c25
  have hs := hb.size
  exact ⟨r1.below c25 r1.lt, r5, r4.below b5 r4.lt, r2.below c35 r2.lt, r3.below c45 r3.lt, hv.keep RByte.stays (keeps_below c15), ⟨by omega, by omega⟩, by omega, below_after hb c15, ⟨by simp, List.nodup_nil⟩⟩
theorem LookI.rebase {w W : World} {vo vo' : Value} {l : List UInt8} {Bs Bc R m mo j : Nat} {Ds : List Nat} (h : LookI w W vo l Bs Bc R m mo j Ds) (i : Nat) (y : Value) (hy : [.int .i64 24, .int .i64 8, .int .i64 1, .int .i64 5, vo, .int .i64 0, .map (some m), .slice none 0 0, .map (some mo)].set i y = [.int .i64 24, .int .i64 8, .int .i64 1, .int .i64 5, vo', .int .i64 0, .map (some m), .slice none 0 0, .map (some mo)]) (hv : Sl RByte 1 W vo' l) : LookI w (W.setCell ⟨R, i, none⟩ y) vo' l Bs Bc R m mo j Ds := by
  have ho : ∀ {k : Nat}, k ≠ R → (W.setCell ⟨R, i, none⟩ y).heap[k]? = W.heap[k]? := fun hk => Below.heap_setCell W ⟨R, i, none⟩ y _ hk
  refine ⟨(ho (row_ne h.shp h.scan (by decide))).trans h.shp, (ho (row_ne h.box h.scan (by decide))).trans h.box, (by have := h.scan.set i y; rw [hy] at this; exact this), (ho (cells_ne_map h.scan h.map).symm).trans h.map, (ho (cells_ne_map h.scan h.own).symm).trans h.own, ?_, h.low, h.ne, h.below.setCell (p := ⟨R, i, none⟩) h.low.2 _, h.marks.other fun D hD => (ho (fun e => ?_)).trans hD⟩
  · obtain ⟨a, b, o, cap, e, ha, hc⟩ := hv
    refine ⟨a, b, o, cap, e, ha, fun q x hi => ?_⟩
    have h1 := hc q x hi
    have hne : b ≠ R := fun e2 => by
      subst e2
      obtain ⟨_, _, _, _, e3, _, _⟩ := h.base
      have h2 : W.cell? ⟨b, o + q * 1, none⟩ = some (byteV x) := h1
      rw [h.scan.cell, e3] at h2
      match o + q * 1, h2 with
      | 0, h2 => simp [byteV] at h2
      | 1, h2 => simp [byteV] at h2
      | 2, h2 => simp [byteV] at h2
      | 3, h2 => simp [byteV] at h2
      | 4, h2 => simp [byteV] at h2
      | 5, h2 => simp [byteV] at h2
      | 6, h2 => simp [byteV] at h2
      | 7, h2 => simp [byteV] at h2
      | 8, h2 => simp [byteV] at h2
      | n + 9, h2 => simp at h2
    show World.cell? _ _ = _
    have h3 : W.cell? ⟨b, o + q * 1, none⟩ = some (byteV x) := h1
    simp only [World.cell?, ho hne] at h3 ⊢
    exact h3
  · rw [e] at hD
    have h2 : W.heap[R]? = _ := h.scan
    rw [h2] at hD
    cases hD
theorem own_is {w : World} {base n : Nat} {v : Value} {xs : List Value} (h : w.ownsRow base 5 1 v n xs) (h0 : 0 < n) : ∃ g cap, v = .slice (some ⟨g, 0, none⟩) n cap := by
  rcases h.2 with ⟨_, h1⟩ | ⟨g, cap, cur, rfl, _⟩
  · omega
  · exact ⟨g, cap, rfl⟩
/-- what look answers: a scan that holds the two directories -/
def LookPost (w : World) (e : Ending) (w' : World) : Prop := ∃ R m mo vo, e = .returned (.pointer (some ⟨R, 0, none⟩)) ∧ Row w' R 62 [.int .i64 24, .int .i64 8, .int .i64 1, .int .i64 5, vo, .int .i64 0, .map (some m), .slice none 0 0, .map (some mo)] ∧ MapI w' m (nodesTo 9) ∧ MapI w' mo [] ∧ w.heap.size ≤ R ∧ Below w.heap.size w w'
/-- a call of a function of three arguments, at a step of a region that draws -/
theorem step_call3 {P : Program} {ops : Array Oper} {o : Oper} {a : Act} {w : World} {K : Act → World → Prop} {Q : Exit → Act → World → Prop} {E : Prop} (hgd : o.guard = none) (x y z : Operand) (t1 t2 t3 : TypeId) (f : Nat)
    (ho : o.op = .call { callee := .value (.func f), args := #[x, y, z], argTypes := #[t1, t2, t3] }) (vx vy vz : Value) (hx : a.eval x = vx) (hy : a.eval y = vy) (hz : a.eval z = vz) (he : ∀ args w, (callFunc f args).run P w = .ok (.enter f args) w)
    (h : Calls P f #[vx, vy, vz] w fun e w' => ∃ v, e = .returned v ∧ K (a.put o.dst v) w') :
    if Region.wanted o (yielded ops a.tmps) = true then Oper.wp P o a w K Q else E := by
  have hw : Region.wanted o (yielded ops a.tmps) = true := by simp [Region.wanted, hgd]
  rw [if_pos hw]
  unfold Oper.wp execOp
  simp only [ho, resolve, invoke, Sem.run_bind, Sem.run_pure, Result.andThen_ok, List.map_toArray, List.map_cons, List.map_nil, hx, hy, hz]
  rw [show a.eval (.func f) = .func (.func f) #[] #[] from rfl]
  simp only [Deferred.ofValue, Sem.run_pure, Result.andThen_ok, Array.append_empty, Array.empty_append, he]
  rw [Oper.upon_enter]
  refine h.mono ?_
  rintro e w' ⟨v, rfl, hk⟩
  exact hk
theorem step_call1 {P : Program} {ops : Array Oper} {o : Oper} {a : Act} {w : World} {K : Act → World → Prop} {Q : Exit → Act → World → Prop} {E : Prop} (hgd : o.guard = none) (x : Operand) (t1 : TypeId) (f : Nat)
    (ho : o.op = .call { callee := .value (.func f), args := #[x], argTypes := #[t1] }) (vx : Value) (hx : a.eval x = vx) (he : ∀ args w, (callFunc f args).run P w = .ok (.enter f args) w)
    (h : Calls P f #[vx] w fun e w' => ∃ v, e = .returned v ∧ K (a.put o.dst v) w') :
    if Region.wanted o (yielded ops a.tmps) = true then Oper.wp P o a w K Q else E := by
  have hw : Region.wanted o (yielded ops a.tmps) = true := by simp [Region.wanted, hgd]
  rw [if_pos hw]
  unfold Oper.wp execOp
  simp only [ho, resolve, invoke, Sem.run_bind, Sem.run_pure, Result.andThen_ok, List.map_toArray, List.map_cons, List.map_nil, hx]
  rw [show a.eval (.func f) = .func (.func f) #[] #[] from rfl]
  simp only [Deferred.ofValue, Sem.run_pure, Result.andThen_ok, Array.append_empty, Array.empty_append, he]
  rw [Oper.upon_enter]
  refine h.mono ?_
  rintro e w' ⟨v, rfl, hk⟩
  exact hk
/-- a region that ends well, with something known of frame and world -/
def regPost (X : Act → World → Prop) : Exit → Act → World → Prop
  | .normal, a, w => X a w
  | _, _, _ => False
theorem LookI.step {w W : World} {vo : Value} {l : List UInt8} {Bs Bc R m mo j : Nat} {Ds : List Nat} (h : LookI w W vo l Bs Bc R m mo j Ds) (hn : ¬ (j = 1 ∨ j = 5)) : LookI w W vo l Bs Bc R m mo (j + 1) Ds := by
  have e : nodesTo (j + 1) = nodesTo j := by
    unfold nodesTo
    by_cases h1 : j ≤ 1
    · have : j = 0 := by omega
      subst this
      rfl
    · rw [if_neg h1, if_neg (by omega)]
      by_cases h5 : j ≤ 5
      · rw [if_pos h5, if_pos (by omega)]
      · rw [if_neg h5, if_neg (by omega)]
  exact ⟨h.shp, h.box, h.scan, by rw [e]; exact h.map, h.own, h.base, h.low, h.ne, h.below, h.marks⟩
theorem nodes_put {j : Nat} (h : j = 1 ∨ j = 5) : atI (nodesTo j) j = none ∧ nodesTo j ++ [((j : Int), .agg (nodeL j 2 1).toArray)] = nodesTo (j + 1) := by
  rcases h with rfl | rfl <;> exact ⟨rfl, rfl⟩
theorem arr_eta (n : Nat) (t : Array Value) (h : t.size = n) : t = ((List.range n).map (fun i => t.getD i undef)).toArray := by
  apply Array.ext
  · simp [h]
  · intro i h1 h2
    simp [Array.getD, h1]
set_option maxHeartbeats 8000000 in
theorem call_look (l : List UInt8) (hl : ImgE l) (bb oo cc : Nat) (w : World) (hv : Sl RByte 1 w (.slice (some ⟨bb, oo, none⟩) 12288 cc) l) (hc : 12288 ≤ cc ∧ cc ≤ 1000000000) (hst : Stp w) :
    Calls Tryz.prog 11 #[.slice (some ⟨bb, oo, none⟩) 12288 cc] w (LookPost w) := by
  have HV := Lib.hid hv
  have HL := Lib.hid hl
  have HST := Lib.hid hst
  have HC : Hid (∀ a n c, Value.slice (some ⟨bb, oo, none⟩) 12288 cc = .slice a n c → n ≤ c ∧ c ≤ 1000000000) := Lib.hid (fun a n c e => by injection e with _ e2 e3; omega)
  have hmm := @run_makeMap Tryz.prog
  clear hv hl hst hc
  refine (callsIn_wide (n := 9)).1 ?_
  refine callsIn_of_wp_marks Tryz.func11 rfl trivial ?_ rfl
  simp only [Tryz.ntmps11, List.size_toArray, List.length_cons, List.length_nil, Nat.reduceAdd, Nat.reduceSub, Array.replicate_succ, Array.replicate_zero, List.push_toArray, List.append_toArray, List.nil_append, List.cons_append]
  refine wpIn_wide.2 ?_
  go_wp2_with (first
    | (go_at_call 32; refine (call_find l HL.out.img.len HL.out.img.sup _ _ HV.out HC.out HST.out).mono ?_; rintro e w1 ⟨rfl, hb⟩; have HB1 := Lib.hid hb; have HF := Lib.hid (LookI.first hb (HV.out.keep RByte.stays (keeps_below hb))); clear hb)
    | (go_at_call 33; have hg := HF.out; clear hg; refine (call_overlay l HL.out.img _ _ HF.out.base HC.out (HST.out.below HF.out.below)).mono ?_; rintro e w2 ⟨v', rfl, ho, hb⟩; have HF2 := Lib.hid (HF.out.under hb); have HO := Lib.hid (own_sl ho (by rw [HL.out.img.len]; decide)); have ho2 := ho; rw [HL.out.img.len] at ho2; obtain ⟨gb, kk, rfl⟩ := own_is ho2 (by decide); clear hb ho ho2 HF HB1; generalize w1.heap.size + 1 + 1 + 1 + 1 = Bc at *; generalize w1.heap.size + 1 + 1 + 1 = R at *; generalize w1.heap.size + 1 + 1 = mo at *; generalize w1.heap.size + 1 = m at *; generalize w1.heap.size = Bs at *; have s0 := (show w2.cell? ⟨Bc, 0, none⟩ = some (.pointer (some ⟨R, 0, none⟩)) from HF2.out.box.cell 0); have s4 := (show w2.cell? ⟨R, 4, none⟩ = some _ from HF2.out.scan.cell 4); have f4 := HF2.out.scan.free 4; have s5 := (show w2.cell? ⟨R, 5, none⟩ = some (.int .i64 0) from HF2.out.scan.cell 5); have f5 := HF2.out.scan.free 5))
  have HF3 := Lib.hid ((HF2.out.rebase 4 (.slice (some ⟨gb, 0, none⟩) 12288 kk) rfl HO.out.1).rebase 5 (.int .i64 0) rfl (by
    have h := (HF2.out.rebase 4 (.slice (some ⟨gb, 0, none⟩) 12288 kk) rfl HO.out.1).base
    exact h))
  clear s0 s4 f4 s5 f5 HF2 HO HV HC
  generalize ((w2.setCell ⟨R, 4, none⟩ (.slice (some ⟨gb, 0, none⟩) 12288 kk)).setCell ⟨R, 5, none⟩ (.int .i64 0)) = w3 at *
  refine wp_loop (fun a W => ∃ (j : Nat) (Ds : List Nat), a.tmps.size = 91 ∧ a.tmps.getD 3 undef = .pointer (some ⟨Bs, 0, none⟩) ∧ a.tmps.getD 5 undef = .pointer (some ⟨Bc, 0, none⟩) ∧ a.tmps.getD 7 undef = .int .i64 (j : Int) ∧ a.defers = Ds.map mkD ∧ 1 ≤ j ∧ j ≤ 9 ∧ LookI w W (.slice (some ⟨gb, 0, none⟩) 12288 kk) l Bs Bc R m mo j Ds)
    (fun a _ => 9 - (RowKit.intOf (a.tmps.getD 7 undef)).toNat) ⟨1, [], rfl, rfl, rfl, rfl, rfl, by decide, by decide, HF3.out⟩ ?_
  clear HF3
  rintro ⟨t, ds⟩ wr ⟨j, Ds, hsz, ht3, ht5, ht7, hds, hj1, hj9, hlk⟩
  have hds : ds = Ds.map mkD := hds
  subst hds
  have htl := arr_eta 91 t hsz
  simp only at ht3 ht5 ht7
  generalize hu : (fun i => t.getD i undef) = u at htl
  have hu3 : u 3 = .pointer (some ⟨Bs, 0, none⟩) := by rw [← hu]; exact ht3
  have hu5 : u 5 = .pointer (some ⟨Bc, 0, none⟩) := by rw [← hu]; exact ht5
  have hu7 : u 7 = .int .i64 (j : Int) := by rw [← hu]; exact ht7
  have htl2 : t = #[u 0, u 1, u 2, u 3, u 4, u 5, u 6, u 7, u 8, u 9, u 10, u 11, u 12, u 13, u 14, u 15, u 16, u 17, u 18, u 19, u 20, u 21, u 22, u 23, u 24, u 25, u 26, u 27, u 28, u 29, u 30, u 31, u 32, u 33, u 34, u 35, u 36, u 37, u 38, u 39, u 40, u 41, u 42, u 43, u 44, u 45, u 46, u 47, u 48, u 49, u 50, u 51, u 52, u 53, u 54, u 55, u 56, u 57, u 58, u 59, u 60, u 61, u 62, u 63, u 64, u 65, u 66, u 67, u 68, u 69, u 70, u 71, u 72, u 73, u 74, u 75, u 76, u 77, u 78, u 79, u 80, u 81, u 82, u 83, u 84, u 85, u 86, u 87, u 88, u 89, u 90] := htl
  clear hu htl ht3 ht5 ht7 hsz
  subst htl2
  rw [hu3, hu5, hu7]
  clear hu3 hu5 hu7
  have HLk := Lib.hid hlk
  have s5 := (show wr.cell? ⟨Bc, 0, none⟩ = some (.pointer (some ⟨R, 0, none⟩)) from hlk.box.cell 0)
  have s1 := (show wr.cell? ⟨Bs, 1, none⟩ = some (.int .i64 8) from hlk.shp.cell 1)
  clear hlk
  by_cases hlast : j = 9
  · subst hlast
    go_wp2
    refine leaves_marks Ds _ HLk.out.marks fun W' hc => ⟨.pointer (some ⟨R, 0, none⟩), by simp [results, Tryz.results11, go_sem], ?_⟩
    have h := HLk.out
    exact ⟨R, m, mo, _, rfl, hc.same _ _ h.scan (fun x e => by cases e), hc.same _ _ h.map (fun x e => by cases e), hc.same _ _ h.own (fun x e => by cases e), h.low.2, h.below.trans hc.below⟩
  · have j8 : (j : Int) ≤ 8 := by omega
    go_wp2
    have s4 := (show wr.cell? ⟨R, 4, none⟩ = some (.slice (some ⟨gb, 0, none⟩) 12288 kk) from HLk.out.scan.cell 4)
    have p0 := (show wr.cell? ⟨Bs, 0, none⟩ = some (.int .i64 24) from HLk.out.shp.cell 0)
    have p2 := (show wr.cell? ⟨Bs, 2, none⟩ = some (.int .i64 1) from HLk.out.shp.cell 2)
    have p3 := (show wr.cell? ⟨Bs, 3, none⟩ = some (.int .i64 5) from HLk.out.shp.cell 3)
    obtain ⟨k, li, hkl, hsc⟩ : ∃ k li : Int, (((j = 1 ∨ j = 5) ∧ k = 2 ∧ li = 1) ∨ (¬ (j = 1 ∨ j = 5) ∧ k = 0 ∧ li = 0)) ∧ ∀ W, Below wr.heap.size wr W → Calls Tryz.prog 34 #[.slice (some ⟨gb, 0, none⟩) 12288 kk, shpV, .int .i64 (j : Int)] W fun e w' => e = .returned (.tuple #[.agg (nodeL j k li).toArray, .int .i64 0]) ∧ Below W.heap.size W w' := by
      by_cases hdir : j = 1 ∨ j = 5
      · exact ⟨2, 1, .inl ⟨hdir, rfl, rfl⟩, fun W hW => call_scan_dir j kk _ l W hj1 (by omega) (HST.out.below (HLk.out.under hW).below) (HLk.out.under hW).base (HL.out.dir j _ hdir)⟩
      · exact ⟨0, 0, .inr ⟨hdir, rfl, rfl⟩, fun W hW => call_scan_free j kk _ l W hj1 (by omega) (HST.out.below (HLk.out.under hW).below) (HLk.out.under hW).base (HL.out.free j _ hj1 (by omega) (by omega) (by omega))⟩
    have HSc := Lib.hid hsc
    have HKl := Lib.hid hkl
    have HX1 := Lib.hid (below_drew wr)
    have HX2 := Lib.hid (show Below wr.heap.size wr (wr.alloc (.cells #[.int .i64 0, .int .i64 0, .int .i64 0, .int .i64 0, .slice none 0 0, .slice none 0 0, .int .i64 0, .int .i64 0, .slice none 0 0, .int .i64 0] 66)).drew from (below_alloc1 wr _).drew)
    have HZr := Lib.hid (show Row (wr.alloc (.cells #[.int .i64 0, .int .i64 0, .int .i64 0, .int .i64 0, .slice none 0 0, .slice none 0 0, .int .i64 0, .int .i64 0, .slice none 0 0, .int .i64 0] 66)).drew wr.heap.size 66 (nodeL 0 0 0) from (Row.new wr 66 (nodeL 0 0 0)).drew)
    have hZk := HLk.out.under (below_alloc1 wr (.cells #[.int .i64 0, .int .i64 0, .int .i64 0, .int .i64 0, .slice none 0 0, .slice none 0 0, .int .i64 0, .int .i64 0, .slice none 0 0, .int .i64 0] 66))
    have z5 := (show World.cell? (wr.alloc (.cells #[.int .i64 0, .int .i64 0, .int .i64 0, .int .i64 0, .slice none 0 0, .slice none 0 0, .int .i64 0, .int .i64 0, .slice none 0 0, .int .i64 0] 66)) ⟨Bc, 0, none⟩ = some (.pointer (some ⟨R, 0, none⟩)) from hZk.box.cell 0)
    have z4 := (show World.cell? (wr.alloc (.cells #[.int .i64 0, .int .i64 0, .int .i64 0, .int .i64 0, .slice none 0 0, .slice none 0 0, .int .i64 0, .int .i64 0, .slice none 0 0, .int .i64 0] 66)) ⟨R, 4, none⟩ = some (.slice (some ⟨gb, 0, none⟩) 12288 kk) from hZk.scan.cell 4)
    have y0 := (show World.cell? (wr.alloc (.cells #[.int .i64 0, .int .i64 0, .int .i64 0, .int .i64 0, .slice none 0 0, .slice none 0 0, .int .i64 0, .int .i64 0, .slice none 0 0, .int .i64 0] 66)) ⟨Bs, 0, none⟩ = some (.int .i64 24) from hZk.shp.cell 0)
    have y1 := (show World.cell? (wr.alloc (.cells #[.int .i64 0, .int .i64 0, .int .i64 0, .int .i64 0, .slice none 0 0, .slice none 0 0, .int .i64 0, .int .i64 0, .slice none 0 0, .int .i64 0] 66)) ⟨Bs, 1, none⟩ = some (.int .i64 8) from hZk.shp.cell 1)
    have y2 := (show World.cell? (wr.alloc (.cells #[.int .i64 0, .int .i64 0, .int .i64 0, .int .i64 0, .slice none 0 0, .slice none 0 0, .int .i64 0, .int .i64 0, .slice none 0 0, .int .i64 0] 66)) ⟨Bs, 2, none⟩ = some (.int .i64 1) from hZk.shp.cell 2)
    have y3 := (show World.cell? (wr.alloc (.cells #[.int .i64 0, .int .i64 0, .int .i64 0, .int .i64 0, .slice none 0 0, .slice none 0 0, .int .i64 0, .int .i64 0, .slice none 0 0, .int .i64 0] 66)) ⟨Bs, 3, none⟩ = some (.int .i64 5) from hZk.shp.cell 3)
    clear hsc hkl hZk
    unfold shpV nodeL at HSc
    refine wp_mono (Q := regPost fun a' W => ∃ N, a'.tmps.size = 91 ∧ a'.tmps.getD 3 undef = .pointer (some ⟨Bs, 0, none⟩) ∧ a'.tmps.getD 5 undef = .pointer (some ⟨Bc, 0, none⟩) ∧ a'.tmps.getD 7 undef = .int .i64 (j : Int) ∧ a'.tmps.getD 8 undef = .pointer (some ⟨N, 0, none⟩) ∧ a'.tmps.getD 9 undef = .int .i64 0 ∧ a'.defers = Ds.map mkD ∧ LookI w W (.slice (some ⟨gb, 0, none⟩) 12288 kk) l Bs Bc R m mo j Ds ∧ Row W N 66 (nodeL j k li)) ?_ ?_
    · go_region_law (first
        | (refine step_call3 (by rfl) _ _ _ 23 58 3 34 (by rfl) _ _ _ (by rfl) (by rfl) (by rfl) (enters_of Tryz.func34 (by kernel_rfl) rfl) ((HSc.out _ HX1.out).mono ?_); rintro e w4 ⟨rfl, hb4⟩; refine ⟨_, rfl, ?_⟩; have HB4 := Lib.hid (below_after HX1.out hb4); clear hb4)
        | (refine step_call3 (by rfl) _ _ _ 23 58 3 34 (by rfl) _ _ _ (by rfl) (by rfl) (by rfl) (enters_of Tryz.func34 (by kernel_rfl) rfl) ((HSc.out _ HX2.out).mono ?_); rintro e w4 ⟨rfl, hb4⟩; refine ⟨_, rfl, ?_⟩; have HB4 := Lib.hid (below_after HX2.out hb4); have hr4 := HZr.out.below hb4 HZr.out.lt; have HR4 := Lib.hid hr4; have c0 := (show w4.cell? ⟨wr.heap.size, 0, none⟩ = some (.int .i64 0) from hr4.cell 0); have f0 := hr4.free 0; have c1 := (show w4.cell? ⟨wr.heap.size, 1, none⟩ = some (.int .i64 0) from hr4.cell 1); have f1 := hr4.free 1; have c2 := (show w4.cell? ⟨wr.heap.size, 2, none⟩ = some (.int .i64 0) from hr4.cell 2); have f2 := hr4.free 2; have c3 := (show w4.cell? ⟨wr.heap.size, 3, none⟩ = some (.int .i64 0) from hr4.cell 3); have f3 := hr4.free 3; have c4 := (show w4.cell? ⟨wr.heap.size, 4, none⟩ = some (.slice none 0 0) from hr4.cell 4); have f4 := hr4.free 4; have c5 := (show w4.cell? ⟨wr.heap.size, 5, none⟩ = some (.slice none 0 0) from hr4.cell 5); have f5 := hr4.free 5; have c6 := (show w4.cell? ⟨wr.heap.size, 6, none⟩ = some (.int .i64 0) from hr4.cell 6); have f6 := hr4.free 6; have c7 := (show w4.cell? ⟨wr.heap.size, 7, none⟩ = some (.int .i64 0) from hr4.cell 7); have f7 := hr4.free 7; have c8 := (show w4.cell? ⟨wr.heap.size, 8, none⟩ = some (.slice none 0 0) from hr4.cell 8); have f8 := hr4.free 8; have c9 := (show w4.cell? ⟨wr.heap.size, 9, none⟩ = some (.int .i64 0) from hr4.cell 9); have f9 := hr4.free 9; clear hb4 hr4))
      all_goals first
        | (have hg := HR4.out; clear hg; exact ⟨wr.heap.size, rfl, rfl, rfl, rfl, rfl, rfl, rfl, HLk.out.under ((((((((((HB4.out.setCell (p := ⟨wr.heap.size, 0, none⟩) (Nat.le_refl _) _).setCell (p := ⟨wr.heap.size, 1, none⟩) (Nat.le_refl _) _).setCell (p := ⟨wr.heap.size, 2, none⟩) (Nat.le_refl _) _).setCell (p := ⟨wr.heap.size, 3, none⟩) (Nat.le_refl _) _).setCell (p := ⟨wr.heap.size, 4, none⟩) (Nat.le_refl _) _).setCell (p := ⟨wr.heap.size, 5, none⟩) (Nat.le_refl _) _).setCell (p := ⟨wr.heap.size, 6, none⟩) (Nat.le_refl _) _).setCell (p := ⟨wr.heap.size, 7, none⟩) (Nat.le_refl _) _).setCell (p := ⟨wr.heap.size, 8, none⟩) (Nat.le_refl _) _).setCell (p := ⟨wr.heap.size, 9, none⟩) (Nat.le_refl _) _), ((((((((((HR4.out.set 0 _).set 1 _).set 2 _).set 3 _).set 4 _).set 5 _).set 6 _).set 7 _).set 8 _).set 9 _)⟩)
        | exact ⟨w4.heap.size, rfl, rfl, rfl, rfl, rfl, rfl, rfl, (HLk.out.under HB4.out).under (below_alloc1 _ _), Row.new w4 66 (nodeL j k li)⟩
    · clear HSc HX1 HX2 HZr s1 s4 s5 p0 p2 p3 z5 z4 y0 y1 y2 y3 HLk
      intro e a W h
      cases e with
      | panic ch => exact h.elim
      | exit id => exact h.elim
      | goto t => exact h.elim
      | ret => exact h.elim
      | outgrown => exact h.elim
      | normal =>
        obtain ⟨N, hsz, ht3, ht5, ht7, ht8, ht9, hds, hlk, hrn⟩ := h
        have HLk := Lib.hid hlk
        have HN := Lib.hid hrn
        clear hlk hrn
        obtain ⟨t, ds⟩ := a
        have hds : ds = Ds.map mkD := hds
        subst hds
        have htl := arr_eta 91 t hsz
        simp only at ht3 ht5 ht7 ht8 ht9
        generalize hv : (fun i => t.getD i undef) = v at htl
        have hv3 : v 3 = .pointer (some ⟨Bs, 0, none⟩) := by rw [← hv]; exact ht3
        have hv5 : v 5 = .pointer (some ⟨Bc, 0, none⟩) := by rw [← hv]; exact ht5
        have hv7 : v 7 = .int .i64 (j : Int) := by rw [← hv]; exact ht7
        have hv8 : v 8 = .pointer (some ⟨N, 0, none⟩) := by rw [← hv]; exact ht8
        have hv9 : v 9 = .int .i64 0 := by rw [← hv]; exact ht9
        have htl2 : t = #[v 0, v 1, v 2, v 3, v 4, v 5, v 6, v 7, v 8, v 9, v 10, v 11, v 12, v 13, v 14, v 15, v 16, v 17, v 18, v 19, v 20, v 21, v 22, v 23, v 24, v 25, v 26, v 27, v 28, v 29, v 30, v 31, v 32, v 33, v 34, v 35, v 36, v 37, v 38, v 39, v 40, v 41, v 42, v 43, v 44, v 45, v 46, v 47, v 48, v 49, v 50, v 51, v 52, v 53, v 54, v 55, v 56, v 57, v 58, v 59, v 60, v 61, v 62, v 63, v 64, v 65, v 66, v 67, v 68, v 69, v 70, v 71, v 72, v 73, v 74, v 75, v 76, v 77, v 78, v 79, v 80, v 81, v 82, v 83, v 84, v 85, v 86, v 87, v 88, v 89, v 90] := htl
        clear hv htl ht3 ht5 ht7 ht8 ht9 hsz
        subst htl2
        rw [hv3, hv5, hv7, hv8, hv9]
        clear hv3 hv5 hv7 hv8 hv9
        have s5 := (show W.cell? ⟨Bc, 0, none⟩ = some (.pointer (some ⟨R, 0, none⟩)) from HLk.out.box.cell 0)
        rcases HKl.out with ⟨hdir, rfl, rfl⟩ | ⟨hdir, rfl, rfl⟩
        · have n1 := (show W.cell? ⟨N, 1, none⟩ = some (.int .i64 2) from HN.out.cell 1)
          go_wp2
          obtain ⟨S, hS⟩ : ∃ S : World → Prop, ∀ y, S y ↔ Below W.heap.size W y := ⟨_, fun _ => Iff.rfl⟩
          haveI : Nonempty (Wd S) := ⟨⟨_, (hS _).2 (below_drew W)⟩⟩
          have hHS0 := Lib.hid ((hS _).2 (below_drew W))
          have hLy : Hid (∀ y : Wd S, LookI w y.val (.slice (some ⟨gb, 0, none⟩) 12288 kk) l Bs Bc R m mo j Ds) := Lib.hid (fun y => HLk.out.under ((hS _).1 y.ok))
          have hNy : Hid (∀ y : Wd S, Row y.val N 66 (nodeL j 2 1)) := Lib.hid (fun y => HN.out.below ((hS _).1 y.ok) HN.out.lt)
          have q5 : ∀ y : Wd S, y.val.cell? ⟨Bc, 0, none⟩ = some (.pointer (some ⟨R, 0, none⟩)) := fun y => (hLy.out y).box.cell 0
          have q6 : ∀ y : Wd S, y.val.cell? ⟨R, 6, none⟩ = some (.map (some m)) := fun y => (hLy.out y).scan.cell 6
          have hld : ∀ y : Wd S, (loadVar 66 ⟨N, 0, none⟩).run Tryz.prog y.val = .ok (.agg (nodeL j 2 1).toArray) y.val := fun y => run_loadVar_row y.val N 66 66 (nodeL j 2 1).toArray (0, 0) _ (hNy.out y) Tryz.underlying66 rfl (by kernel_rfl)
          clear hS s5 n1
          refine (wpIn_wide (n := 9)).1 (wpIn_region_tail 6 S .wide (by kernel_rfl) (by kernel_rfl) (by kernel_rfl) hHS0.out ?_)
          simp only [List.take_succ_cons, List.take_zero, List.drop_succ_cons, List.drop_zero]
          repeat (first | go_big_quiet_skip | (go_big_quiet_want; first
            | (refine quiet_loadW 66 (.tmp 8) rfl _ rfl _ (fun w ⟨y, e⟩ => by rw [e]; exact hld y) ?_; simp only [Act.put, List.setIfInBounds_toArray, List.set_cons_succ, List.set_cons_zero]; go_big_quiet_on)
            | (go_big_quiet_op; go_big_quiet_on)))
          refine wpQuiet_nil ?_
          rintro _ ⟨y, rfl⟩
          have HLy := Lib.hid (hLy.out y)
          have HNy := Lib.hid (hNy.out y)
          obtain ⟨hn0, hn1⟩ := nodes_put hdir
          have hput := HLy.out.map.put Tryz.underlying59 Tryz.underlying3 hn0 (.agg (nodeL j 2 1).toArray)
          rw [hn1] at hput
          have HPt := Lib.hid (HLy.out.put (nodesTo (j + 1)) rfl)
          clear q5 q6 hld hLy hNy hn0 hn1 HLk HN
          gi_wp2
          have HN2 := Lib.hid (show Row (y.val.putObj m (.map (ents (nodesTo (j + 1)) 0).toArray (nodesTo (j + 1)).length)) N 66 (nodeL j 2 1) from (World.putObj_heap_other (cells_ne_map HNy.out HLy.out.map)).trans HNy.out)
          clear hput HLy HNy
          generalize y.val.putObj m (.map (ents (nodesTo (j + 1)) 0).toArray (nodesTo (j + 1)).length) = W2 at *
          go_wp2_with (first
            | (refine wpList_load_row rfl 66 _ rfl N rfl 66 (nodeL j 2 1).toArray (0, 0) _ HN2.out Tryz.underlying66 rfl (by kernel_rfl) ?_)
            | (go_at_call 35; refine (call_pagesOf j 2 1 _).mono ?_; rintro e w5 ⟨rfl, hr5, hb5⟩; have HR5 := Lib.hid hr5; have HL5 := Lib.hid (HPt.out.under hb5); clear hr5 hb5 HPt HN2))
          refine wp_range_none rfl (enters_of Tryz.func62 (by kernel_rfl) rfl) (fun y W hW => call_pages1 _ _ j 2 1 W (HR5.out.below hW HR5.out.lt)) ?_
          intro D W6 hD hW hk
          have HL6 := Lib.hid (HL5.out.under hW)
          go_wp2
          refine ⟨⟨j + 1, D :: Ds, rfl, rfl, rfl, ?_, rfl, by omega, by omega, ⟨HL6.out.shp, HL6.out.box, HL6.out.scan, HL6.out.map, HL6.out.own, HL6.out.base, HL6.out.low, HL6.out.ne, HL6.out.below, HL6.out.marks.cons HL5.out.marks hD (Nat.le_trans HL5.out.below.size hD) hk⟩⟩, ?_⟩
          · show Value.int .i64 ((j : Int) + 1) = .int .i64 ((j + 1 : Nat) : Int)
            rw [Int.natCast_add]; rfl
          · show 9 - ((j : Int) + 1).toNat < 9 - ((j : Int)).toNat
            omega
        · have n1 := (show W.cell? ⟨N, 1, none⟩ = some (.int .i64 0) from HN.out.cell 1)
          go_wp2
          refine ⟨⟨j + 1, by omega, Ds, rfl, by omega, by omega, HLk.out.step hdir⟩, ?_⟩
          show 9 - ((j : Int) + 1).toNat < 9 - ((j : Int)).toNat
          omega
end Go.Proofs.YtgoogbakhhbnhaaGreatDoor.Ar
