/-
  Mend: what is wrong with the example's image.
-/
import Derived.Test.YtgoogbakhhbnhaaGreatDoorNa
set_option linter.unusedVariables false
set_option linter.unusedSimpArgs false
set_option maxRecDepth 100000
namespace Go.Proofs.YtgoogbakhhbnhaaGreatDoor.Ar
open Go.RowKit Go.Sort Go.Lib Go.Proofs.YtgoogbakhhbnhaaGreatDoor.Rs
attribute [local go_sem] Oper.semAt_some
/-- a call of a closure with two arguments, at a step of a region that draws -/
theorem step_callv2 {P : Program} {ops : Array Oper} {o : Oper} {a : Act} {w : World} {K : Act → World → Prop} {Q : Exit → Act → World → Prop} {E : Prop} (hgd : o.guard = none) (g x y : Operand) (t1 t2 : TypeId) (f : Nat) (c : Value)
    (ho : o.op = .call { callee := .value g, args := #[x, y], argTypes := #[t1, t2] }) (hg : a.eval g = .func (.func f) #[] #[c]) (vx vy : Value) (hx : a.eval x = vx) (hy : a.eval y = vy) (he : ∀ args w, (callFunc f args).run P w = .ok (.enter f args) w)
    (h : Calls P f #[vx, vy, c] w fun e w' => ∃ v, e = .returned v ∧ K (a.put o.dst v) w') :
    if Region.wanted o (yielded ops a.tmps) = true then Oper.wp P o a w K Q else E := by
  have hw : Region.wanted o (yielded ops a.tmps) = true := by simp [Region.wanted, hgd]
  rw [if_pos hw]
  unfold Oper.wp execOp
  simp only [ho, resolve, invoke, Sem.run_bind, Sem.run_pure, Result.andThen_ok, List.map_toArray, List.map_cons, List.map_nil, hx, hy, hg]
  simp only [Deferred.ofValue, Sem.run_pure, Result.andThen_ok, Array.append_empty, Array.empty_append, he]
  simp only [List.append_toArray, List.cons_append, List.nil_append, he, Result.andThen_ok]
  rw [Oper.upon_enter]
  refine h.mono ?_
  rintro e w' ⟨v, rfl, hk⟩
  exact hk
/-- a region that ends well: what stands behind it is asked of its good end alone -/
def goodEnd (Q : Exit → Act → World → Prop) : Exit → Act → World → Prop
  | .normal, a, w => Q .normal a w
  | _, _, _ => False
theorem goodEnd.of {Q : Exit → Act → World → Prop} {a : Act} {w : World} (h : Q .normal a w) : goodEnd Q .normal a w := h
theorem goodEnd.le {Q : Exit → Act → World → Prop} : ∀ (e : Exit) (a : Act) (w : World), goodEnd Q e a w → Q e a w
  | .normal, _, _, h => h
  | .panic _, _, _, h => h.elim
  | .exit _, _, _, h => h.elim
  | .goto _, _, _, h => h.elim
  | .ret, _, _, h => h.elim
  | .outgrown, _, _, h => h.elim
theorem LBox.under {TL T size base B n : Nat} {xs : List Value} {W W' : World} (h : LBox TL T size base W B n xs) (hb : Below W.heap.size W W') : LBox TL T size base W' B n xs := by
  obtain ⟨v, h1, h2⟩ := h.ex
  exact ⟨v, h1.below hb h1.lt, own_below h2 hb⟩
/-- the walk of Breaches -/
structure BrA (w W : World) (R m mo L n : Nat) (xs : List Value) : Prop where
  scan : ScanOk W R m mo
  lst : LBox 25 33 2 w.heap.size W L n xs
  tb : Row W (L + 1) 56 [.func (.func 12) #[] #[.pointer (some ⟨L, 0, none⟩)]]
  below : Below w.heap.size w W
  low : w.heap.size ≤ L
theorem BrA.under {w W W' : World} {R m mo L n : Nat} {xs : List Value} (h : BrA w W R m mo L n xs) (hb : Below W.heap.size W W') : BrA w W' R m mo L n xs :=
  ⟨h.scan.below hb, h.lst.under hb, h.tb.below hb h.tb.lt, below_after h.below hb, h.low⟩
theorem BrA.tell {w W W' : World} {R m mo L n n' : Nat} {xs xs' : List Value} (h : BrA w W R m mo L n xs) (hl : LBox 25 33 2 w.heap.size W' L n' xs') (hk : KeepT 33 L W W') (hb : Below w.heap.size W W') : BrA w W' R m mo L n' xs' := by
  obtain ⟨v, h1, _⟩ := h.lst.ex
  obtain ⟨vo, hr⟩ := h.scan.row
  exact ⟨⟨⟨vo, hk.row hr (row_ne hr h1 (by decide)) (by decide)⟩, hk.mapi h.scan.map (cells_ne_map h1 h.scan.map).symm, hk.mapi h.scan.own (cells_ne_map h1 h.scan.own).symm⟩, hl, hk.row h.tb (by omega) (by decide), h.below.trans hb, h.low⟩
theorem own_turn {base N e size n : Nat} {A B : World} {row : Option Nat} {v : Value} {xs : List Value} (h : A.ownsRow N e size v n xs) (t : TurnOk base A B row) : B.ownsRow N e size v n xs := by
  refine ⟨h.1, ?_⟩
  rcases h.2 with h1 | ⟨g, cap, cur, h1, h2, hg, h3⟩
  · exact .inl h1
  · refine .inr ⟨g, cap, cur, h1, h2, (t.g.block g (Array.getElem?_eq_some_iff.1 hg).1 (fun e => ?_)).trans hg, h3⟩
    obtain ⟨o, ho, hc⟩ := (t.r g e.symm).2
    rw [hg] at ho
    cases ho
    cases hc
theorem LBox.turn {TL T size N B n base : Nat} {xs : List Value} {W W' : World} {row : Option Nat} (h : LBox TL T size N W B n xs) (t : TurnOk base W W' row) : LBox TL T size N W' B n xs := by
  obtain ⟨v, h1, h2⟩ := h.ex
  exact ⟨v, t.row h1, own_turn h2 t⟩
theorem KeepsFrom.of_keepT {T L TL base : Nat} {cs : List Value} {W W' : World} (hk : KeepT T L W W') (hL : Row W L TL cs) : KeepsFrom base W W' :=
  ⟨hk.size, fun k o _ ho hc => hk.same k o ho (fun e => by
    have h : W.heap[L]? = _ := hL
    rw [← e, ho] at h
    cases h
    cases hc) (fun c f e => by subst e; cases hc)⟩
def brN (k : Nat) : Nat := if k < 2 then 1 else 2
def brX (k : Nat) : List Value := if k < 2 then [.int .i64 113, .int .i64 5] else [.int .i64 113, .int .i64 5, .int .i64 114, .int .i64 5]
structure BrI (base : Nat) (w W : World) (R m mo L met M : Nat) (k : Nat) : Prop where
  br : BrA w W R m mo L (brN k) (brX k)
  metm : MapI W met [(1, .int .i64 1)]
  mb : Row W M 60 [.map (some met)]
  box2 : Row W (M + 1) 53 [.pointer (some ⟨R, 0, none⟩)]
  size : base ≤ W.heap.size
theorem BrI.turn {base : Nat} {w A B : World} {R m mo L met M k : Nat} {row : Option Nat} (h : BrI base w A R m mo L met M k) (t : TurnOk base A B row) (hm : m < base ∧ mo < base ∧ met < base ∧ w.heap.size ≤ base) : BrI base w B R m mo L met M k :=
  ⟨⟨t.scan h.br.scan ⟨hm.1, hm.2.1⟩, h.br.lst.turn t, t.row h.br.tb, t.below h.br.below hm.2.2.2 h.br.below.size, h.br.low⟩, t.map h.metm hm.2.2.1, t.row h.mb, t.row h.box2, Nat.le_trans h.size t.g.size⟩
/-- what of Breaches' frame is read further on -/
structure BrF (R L : Nat) (a : Act) : Prop where
  d : a.defers = []
  n : a.tmps.size = 87
  a3 : a.tmps.getD 3 undef = .pointer (some ⟨R, 0, none⟩)
  a4 : a.tmps.getD 4 undef = .pointer (some ⟨L, 0, none⟩)
  a5 : a.tmps.getD 5 undef = .pointer (some ⟨L + 1, 0, none⟩)
set_option maxHeartbeats 8000000 in
theorem call_breaches (l : List UInt8) (hl : ImgE l) (bb oo cc : Nat) (w : World) (hv : Sl RByte 1 w (.slice (some ⟨bb, oo, none⟩) 12288 cc) l) (hc : 12288 ≤ cc ∧ cc ≤ 1000000000) (hst : Stp w) :
    Calls Tryz.prog 6 #[.slice (some ⟨bb, oo, none⟩) 12288 cc] w fun e w' => ∃ v, e = .returned v ∧ w'.ownsRow w.heap.size 33 2 v 2 [.int .i64 113, .int .i64 5, .int .i64 114, .int .i64 5] ∧ Below w.heap.size w w' := by
  have HLk := Lib.hid (call_look l hl bb oo cc w hv hc hst)
  clear hl hv hc hst
  refine (callsIn_wide (n := 9)).1 ?_
  refine callsIn_of_wp_marks Tryz.func6 rfl trivial ?_ rfl
  simp only [Tryz.ntmps6, List.size_toArray, List.length_cons, List.length_nil, Nat.reduceAdd, Nat.reduceSub, Array.replicate_succ, Array.replicate_zero, List.push_toArray, List.append_toArray, List.nil_append, List.cons_append]
  refine wpIn_wide.2 ?_
  go_wp2_with (go_at_call 11; refine HLk.out.mono ?_; rintro e w1 ⟨R, m, mo, vo, rfl, hr, hm, hmo, hlo, hb⟩; have HS := Lib.hid (show ScanOk w1 R m mo from ⟨⟨vo, hr⟩, hm, hmo⟩); have HB := Lib.hid hb; clear HLk hr hm hmo hb hlo; have hbb := below_alloc2 w1 (.cells #[.slice none 0 0] 25) (.cells #[.func (.func 12) #[] #[.pointer (some ⟨w1.heap.size, 0, none⟩)]] 56); have s5 := (show World.cell? ((w1.alloc (.cells #[.slice none 0 0] 25)).alloc (.cells #[.func (.func 12) #[] #[.pointer (some ⟨w1.heap.size, 0, none⟩)]] 56)) ⟨R, 5, none⟩ = some (.int .i64 0) from (HS.out.below hbb).c5); clear hbb)
  have HA := Lib.hid (show BrA w ((w1.alloc (.cells #[.slice none 0 0] 25)).alloc (.cells #[.func (.func 12) #[] #[.pointer (some ⟨w1.heap.size, 0, none⟩)]] 56)) R m mo w1.heap.size 0 [] from
    ⟨HS.out.below (below_alloc2 _ _ _), ⟨_, (Row.new w1 25 [.slice none 0 0]).below (below_alloc1 _ _) (by simp), World.ownsRow_nil _ _ _ _⟩, row_new1 w1 _ 56 _, below_after HB.out (below_alloc2 _ _ _), HB.out.size⟩)
  have L0 := Lib.hid ((Row.new w1 25 [.slice none 0 0]).below (below_alloc1 _ (.cells #[.func (.func 12) #[] #[.pointer (some ⟨w1.heap.size, 0, none⟩)]] 56)) (by simp))
  have hRL : ¬ R = w1.heap.size := by have := HS.out.lt; omega
  clear s5 HS HB
  generalize ((w1.alloc (.cells #[.slice none 0 0] 25)).alloc (.cells #[.func (.func 12) #[] #[.pointer (some ⟨w1.heap.size, 0, none⟩)]] 56)) = w2 at *
  generalize w1.heap.size = L at *
  have q0 := (show w2.cell? ⟨L, 0, none⟩ = some (.slice none 0 0) from L0.out.cell 0)
  have q1 := L0.out.free 0
  have q7 := HA.out.scan.c7
  refine wp_mono (Q := goodEnd _) ?_ goodEnd.le
  go_region
  refine goodEnd.of ?_
  have HA3 := Lib.hid (HA.out.tell (W' := (w2.setCell ⟨L, 0, none⟩ (.slice none 0 0)).drew) ⟨_, (L0.out.set 0 (.slice none 0 0)).drew, World.ownsRow_nil _ _ _ _⟩ ((keepT_set 0 _).trans (KeepT.of_below (below_drew _))) (((Below.refl _ _).setCell (p := ⟨L, 0, none⟩) HA.out.low _).drew))
  clear q0 q1 q7 HA L0
  generalize (w2.setCell ⟨L, 0, none⟩ (.slice none 0 0)).drew = w3 at *
  have r0 := HA3.out.scan.c0
  have r6 := HA3.out.scan.c6
  have r8 := HA3.out.scan.c8
  go_wp2
  go_loopw [6, 39] (fun _ iv wr => ∃ j : Nat, iv = .int .i64 j ∧ j ≤ 24 ∧ wr = w3) (fun _ iv _ => 24 - (RowKit.intOf iv).toNat)
  case atStart => exact ⟨0, rfl, by decide, rfl⟩
  case round =>
    obtain ⟨j, rfl, hj, rfl⟩ := hrel
    by_cases hlt : j < 24
    · have hlk := HA3.out.scan.own.look Tryz.underlying60 Tryz.underlying3 (zero3 wr) (j : Int)
      simp only [atI, Option.getD] at hlk
      go_wp2
      go_roundw
      case rel => exact ⟨j + 1, by go_num, by omega, trivial⟩
      case measure => simp [RowKit.intOf]; omega
    · obtain rfl : j = 24 := by omega
      have hlk := HA3.out.scan.map.look Tryz.underlying59 Tryz.underlying3 (zero66 wr) 1
      rw [show atI (nodesTo 9) 1 = some (.agg (nodeL 1 2 1).toArray) from rfl] at hlk
      simp only [Option.getD, nodeL] at hlk
      have hfd := field66
      go_wp2
      have t0 := (show wr.cell? ⟨L + 1, 0, none⟩ = some (.func (.func 12) #[] #[.pointer (some ⟨L, 0, none⟩)]) from HA3.out.tb.cell 0)
      have HD := Lib.hid (HA3.out.under (below_drew wr))
      clear hlk r0 r6 r8
      refine wp_mono (Q := regPost fun a' W => BrF R L a' ∧ BrA w W R m mo L 0 []) ?_ ?_
      · go_region_law (first
          | (refine step_call1 (by rfl) _ 53 13 (by rfl) _ (by rfl) (enters_of Tryz.func13 (by kernel_rfl) rfl) ((call_hanging R m mo _ HD.out.scan).mono ?_); rintro e w4 ⟨rfl, hb4⟩; refine ⟨_, rfl, ?_⟩; have H4 := Lib.hid (HD.out.under hb4); clear hb4; have t4 := (show w4.cell? ⟨L + 1, 0, none⟩ = some (.func (.func 12) #[] #[.pointer (some ⟨L, 0, none⟩)]) from H4.out.tb.cell 0))
          | (refine step_callv2 (by rfl) _ _ _ 31 55 12 _ (by rfl) (by rfl) _ _ (by rfl) (by rfl) (enters_of Tryz.func12 (by kernel_rfl) rfl) ((call_tell0 _ _ _).mono ?_); rintro e w5 ⟨rfl, rfl⟩; refine ⟨_, rfl, ?_⟩))
        all_goals exact ⟨⟨rfl, rfl, rfl, rfl, rfl⟩, H4.out⟩
      intro e a W h
      cases e with
      | panic ch => exact h.elim
      | exit id => exact h.elim
      | goto t => exact h.elim
      | ret => exact h.elim
      | outgrown => exact h.elim
      | normal =>
        obtain ⟨hf, hA⟩ := h
        obtain ⟨t, ds⟩ := a
        obtain ⟨hds, hts, h3, h4, h5⟩ := hf
        have hds : ds = [] := hds
        subst hds
        have htl := arr_eta 87 t hts
        simp only at h3 h4 h5
        generalize hv : (fun i => t.getD i undef) = v at htl
        have hv3 : v 3 = .pointer (some ⟨R, 0, none⟩) := by rw [← hv]; exact h3
        have hv4 : v 4 = .pointer (some ⟨L, 0, none⟩) := by rw [← hv]; exact h4
        have hv5 : v 5 = .pointer (some ⟨L + 1, 0, none⟩) := by rw [← hv]; exact h5
        have htl2 : t = #[v 0, v 1, v 2, v 3, v 4, v 5, v 6, v 7, v 8, v 9, v 10, v 11, v 12, v 13, v 14, v 15, v 16, v 17, v 18, v 19, v 20, v 21, v 22, v 23, v 24, v 25, v 26, v 27, v 28, v 29, v 30, v 31, v 32, v 33, v 34, v 35, v 36, v 37, v 38, v 39, v 40, v 41, v 42, v 43, v 44, v 45, v 46, v 47, v 48, v 49, v 50, v 51, v 52, v 53, v 54, v 55, v 56, v 57, v 58, v 59, v 60, v 61, v 62, v 63, v 64, v 65, v 66, v 67, v 68, v 69, v 70, v 71, v 72, v 73, v 74, v 75, v 76, v 77, v 78, v 79, v 80, v 81, v 82, v 83, v 84, v 85, v 86] := htl
        clear hv htl h3 h4 h5 hts
        subst htl2
        rw [hv3, hv4, hv5]
        clear hv3 hv4 hv5
        have HA5 := Lib.hid hA
        clear hA HA3 HD t0
        go_wp2
        have t0 := (show W.cell? ⟨L + 1, 0, none⟩ = some (.func (.func 12) #[] #[.pointer (some ⟨L, 0, none⟩)]) from HA5.out.tb.cell 0)
        have HD := Lib.hid (HA5.out.under (below_drew W))
        refine wp_mono (Q := regPost fun a' W => BrF R L a' ∧ BrA w W R m mo L 1 [.int .i64 113, .int .i64 5]) ?_ ?_
        · go_region_law (first
            | (refine step_call1 (by rfl) _ 53 14 (by rfl) _ (by rfl) (enters_of Tryz.func14 (by kernel_rfl) rfl) ((call_miscounted R m mo _ HD.out.scan).mono ?_); rintro e w4 ⟨g, c, rfl, hg4, hb4⟩; refine ⟨_, rfl, ?_⟩; have H4 := Lib.hid (HD.out.under hb4); have HG4 := Lib.hid hg4; clear hb4 hg4; have t4 := (show w4.cell? ⟨L + 1, 0, none⟩ = some (.func (.func 12) #[] #[.pointer (some ⟨L, 0, none⟩)]) from H4.out.tb.cell 0))
            | (refine step_callv2 (by rfl) _ _ _ 31 55 12 _ (by rfl) (by rfl) _ _ (by rfl) (by rfl) (enters_of Tryz.func12 (by kernel_rfl) rfl) ((call_tell1 113 5 g c L 0 w.heap.size [] _ (by decide) H4.out.below.size H4.out.low HG4.out H4.out.lst).mono ?_); rintro e w5 ⟨rfl, hl5, hk5, hb5⟩; refine ⟨_, rfl, ?_⟩; have H5 := Lib.hid (H4.out.tell hl5 hk5 hb5); clear hl5 hk5 hb5))
          all_goals exact ⟨⟨rfl, rfl, rfl, rfl, rfl⟩, H5.out⟩
        intro e a W9 h
        cases e with
        | panic ch => exact h.elim
        | exit id => exact h.elim
        | goto t => exact h.elim
        | ret => exact h.elim
        | outgrown => exact h.elim
        | normal =>
          obtain ⟨hf, hA⟩ := h
          obtain ⟨t, ds⟩ := a
          obtain ⟨hds, hts, h3, h4, h5⟩ := hf
          have hds : ds = [] := hds
          subst hds
          have htl := arr_eta 87 t hts
          simp only at h3 h4 h5
          clear v
          generalize hv : (fun i => t.getD i undef) = v at htl
          have hv3 : v 3 = .pointer (some ⟨R, 0, none⟩) := by rw [← hv]; exact h3
          have hv4 : v 4 = .pointer (some ⟨L, 0, none⟩) := by rw [← hv]; exact h4
          have hv5 : v 5 = .pointer (some ⟨L + 1, 0, none⟩) := by rw [← hv]; exact h5
          have htl2 : t = #[v 0, v 1, v 2, v 3, v 4, v 5, v 6, v 7, v 8, v 9, v 10, v 11, v 12, v 13, v 14, v 15, v 16, v 17, v 18, v 19, v 20, v 21, v 22, v 23, v 24, v 25, v 26, v 27, v 28, v 29, v 30, v 31, v 32, v 33, v 34, v 35, v 36, v 37, v 38, v 39, v 40, v 41, v 42, v 43, v 44, v 45, v 46, v 47, v 48, v 49, v 50, v 51, v 52, v 53, v 54, v 55, v 56, v 57, v 58, v 59, v 60, v 61, v 62, v 63, v 64, v 65, v 66, v 67, v 68, v 69, v 70, v 71, v 72, v 73, v 74, v 75, v 76, v 77, v 78, v 79, v 80, v 81, v 82, v 83, v 84, v 85, v 86] := htl
          clear hv htl h3 h4 h5 hts
          subst htl2
          rw [hv3, hv4, hv5]
          clear hv3 hv4 hv5
          have HA6 := Lib.hid hA
          clear hA HA5 HD t0
          go_wp2_with (first
            | (go_at_call 15; refine (call_reach R m mo _ HA6.out.scan).mono ?_; rintro e w7 ⟨rfl, hm7, hb7⟩; have HA7 := Lib.hid (HA6.out.under hb7); have HM7 := Lib.hid hm7; have hlt7 := HA6.out.tb.lt; clear hm7 hb7; generalize W9.heap.size + 1 = met at *)
            | (go_at_call 16; refine (call_each0 _ _).mono ?_; rintro e w8 ⟨rfl, rfl⟩))
          have hb8 := below_alloc2 w7 (.cells #[.map (some met)] 60) (.cells #[.pointer (some ⟨R, 0, none⟩)] 53)
          have hsz : ((w7.alloc (.cells #[.map (some met)] 60)).alloc (.cells #[.pointer (some ⟨R, 0, none⟩)] 53)).heap.size = w7.heap.size + 2 := by rw [alloc_size, alloc_size]
          have HI : Hid (BrI (w7.heap.size + 2) w ((w7.alloc (.cells #[.map (some met)] 60)).alloc (.cells #[.pointer (some ⟨R, 0, none⟩)] 53)) R m mo L met w7.heap.size 0) := Lib.hid ⟨HA7.out.under hb8, HM7.out.below hb8 HM7.out.lt, (Row.new w7 60 [.map (some met)]).below (below_alloc1 _ _) (by simp), row_new1 w7 _ 53 [.pointer (some ⟨R, 0, none⟩)], by rw [hsz]; exact Nat.le_refl _⟩
          have HM2 : Hid (m < w7.heap.size + 2 ∧ mo < w7.heap.size + 2 ∧ met < w7.heap.size + 2 ∧ w.heap.size ≤ w7.heap.size + 2) := Lib.hid (by have := HA7.out.scan.map.lt; have := HA7.out.scan.own.lt; have := HM7.out.lt; have := HA7.out.below.size; omega)
          clear hb8 HM7 HA7 HA6 hlt7
          generalize ((w7.alloc (.cells #[.map (some met)] 60)).alloc (.cells #[.pointer (some ⟨R, 0, none⟩)] 53)) = w8 at *
          generalize w7.heap.size = M at *
          refine wp_range_each (B := M + 1) (R := R) (m := m) rfl rfl (fun k W => BrI w8.heap.size w W R m mo L met M k) (fun k s A B row h hg hr => h.turn ⟨hg, hr⟩ (by rw [hsz]; exact HM2.out)) (fun k W h => h.br.scan.each h.box2) (by rw [hsz]; exact HI.out)
            (fun k a' W => a'.defers = [] ∧ a'.tmps.size = 87 ∧ a'.tmps.getD 5 undef = .pointer (some ⟨L + 1, 0, none⟩) ∧ a'.tmps.getD 7 undef = .pointer (some ⟨M, 0, none⟩) ∧ a'.tmps.getD 8 undef = .int .i64 (ndI k)) (fun k a' s A B row h hg hr => h) ?assign ?body ?done
          case assign =>
            intro l k W K hk2 hI hK
            rw [encE_eq]
            simp
            gi_wp2
            exact hK _ _ (KeepsFrom.refl _ _) hI ⟨rfl, rfl, rfl, rfl, rfl⟩
          case body =>
            rintro l k ⟨t, ds⟩ W hk2 hl hlp hI ⟨hds, hts, h5, h7, h8⟩
            have hds : ds = [] := hds
            subst hds
            have htl := arr_eta 87 t hts
            simp only at h5 h7 h8
            generalize hz : (fun i => t.getD i undef) = z at htl
            have hz5 : z 5 = .pointer (some ⟨L + 1, 0, none⟩) := by rw [← hz]; exact h5
            have hz7 : z 7 = .pointer (some ⟨M, 0, none⟩) := by rw [← hz]; exact h7
            have hz8 : z 8 = .int .i64 (ndI k) := by rw [← hz]; exact h8
            have htl2 : t = #[z 0, z 1, z 2, z 3, z 4, z 5, z 6, z 7, z 8, z 9, z 10, z 11, z 12, z 13, z 14, z 15, z 16, z 17, z 18, z 19, z 20, z 21, z 22, z 23, z 24, z 25, z 26, z 27, z 28, z 29, z 30, z 31, z 32, z 33, z 34, z 35, z 36, z 37, z 38, z 39, z 40, z 41, z 42, z 43, z 44, z 45, z 46, z 47, z 48, z 49, z 50, z 51, z 52, z 53, z 54, z 55, z 56, z 57, z 58, z 59, z 60, z 61, z 62, z 63, z 64, z 65, z 66, z 67, z 68, z 69, z 70, z 71, z 72, z 73, z 74, z 75, z 76, z 77, z 78, z 79, z 80, z 81, z 82, z 83, z 84, z 85, z 86] := htl
            clear hz htl h5 h7 h8 hts
            subst htl2
            rw [hz5, hz7, hz8]
            clear hz5 hz7 hz8
            have q0 := (show W.cell? ⟨M, 0, none⟩ = some (.map (some met)) from hI.mb.cell 0)
            have hlk := hI.metm.look Tryz.underlying60 Tryz.underlying3 (zero3 W) (ndI k)
            have HIw := Lib.hid hI
            rcases (show k = 0 ∨ k = 1 by omega) with rfl | rfl
            · have e : ndI 0 = 1 := rfl
              rw [e] at hlk ⊢
              simp [atI] at hlk
              clear hI
              gi_wp2
              exact ⟨KeepsFrom.refl _ _, ⟨HIw.out.br, HIw.out.metm, HIw.out.mb, HIw.out.box2, by have := HIw.out.size; omega⟩⟩
            · have e : ndI 1 = 5 := rfl
              rw [e] at hlk ⊢
              simp [atI] at hlk
              have t5 := (show World.cell? (W.alloc (.cells #[.int .i64 5] 3)) ⟨L + 1, 0, none⟩ = some (.func (.func 12) #[] #[.pointer (some ⟨L, 0, none⟩)]) from (hI.br.tb.alloc _).cell 0)
              have t6 := (show World.cell? W ⟨L + 1, 0, none⟩ = some (.func (.func 12) #[] #[.pointer (some ⟨L, 0, none⟩)]) from hI.br.tb.cell 0)
              clear hI
              gi_wp2
              have hbA := below_alloc1 W (.cells #[.int .i64 5] 3)
              have hA := HIw.out.br.under hbA
              have hz := hA.below.size
              refine ⟨trivial, (CallsIn.inRound l (callsIn_wide.2 (call_tell1 114 5 W.heap.size 1 L 1 w.heap.size [.int .i64 113, .int .i64 5] _ (by decide) hz hA.low ((Row.new W 3 [.int .i64 5]).cell 0) hA.lst))).mono ?_⟩
              rintro e w9 ⟨rfl, hl9, hk9, hb9⟩
              have HAz := Lib.hid (hA.tell hl9 hk9 hb9)
              obtain ⟨u9, hu1, _⟩ := hA.lst.ex
              have Hm := Lib.hid (hk9.mapi (HIw.out.metm.below hbA HIw.out.metm.lt) (cells_ne_map hu1 (HIw.out.metm.below hbA HIw.out.metm.lt)).symm)
              have Hb := Lib.hid (hk9.row (HIw.out.mb.below hbA HIw.out.mb.lt) (row_ne (HIw.out.mb.below hbA HIw.out.mb.lt) hu1 (by decide)) (by decide))
              have Hc := Lib.hid (hk9.row (HIw.out.box2.below hbA HIw.out.box2.lt) (row_ne (HIw.out.box2.below hbA HIw.out.box2.lt) hu1 (by decide)) (by decide))
              have HK := Lib.hid ((KeepsFrom.of_below (B := M + 2) hbA).trans (KeepsFrom.of_keepT hk9 hu1))
              have HZ := Lib.hid (Nat.le_trans (Nat.le_trans HIw.out.size hbA.size) hk9.size)
              clear hA hz hbA hl9 hk9 hb9 hu1
              gi_wp2
              exact ⟨by first | exact HK.out | (rw [hsz]; exact HK.out), HAz.out, Hm.out, Hb.out, Hc.out, by have := HZ.out; omega⟩
          case done =>
            intro D W hD hI hk
            obtain ⟨v9, hl1, hl2⟩ := hI.br.lst.ex
            obtain ⟨a9, n9, c9, rfl⟩ := own_isS hl2
            have q0 := (show W.cell? ⟨L, 0, none⟩ = some (.slice a9 n9 c9) from hl1.cell 0)
            have HIw := Lib.hid hI
            have HL2 := Lib.hid hl2
            clear hI hl1 hl2
            go_wp2
            refine leaves_mark hk ⟨.slice a9 n9 c9, by simp [results, Tryz.results6, go_sem], _, rfl, ?_, below_put HIw.out.br.below (by have := HIw.out.br.below.size; have := HM2.out; omega)⟩
            have ht : TurnOk D W (W.putObj D (.deferred none)) (some D) := ⟨grownBy_putObj' W D _, fun r e => by cases e; exact ⟨Nat.le_refl _, _, hk, rfl⟩⟩
            exact own_turn HL2.out ht
end Go.Proofs.YtgoogbakhhbnhaaGreatDoor.Ar
