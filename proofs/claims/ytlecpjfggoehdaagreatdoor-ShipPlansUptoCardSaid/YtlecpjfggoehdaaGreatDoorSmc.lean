/- Sq Sr Ss St Su Sv -/
import Derived.Test.YtlecpjfggoehdaaGreatDoorSmb
import Derived.StillTailTactics
import Derived.RangeFuncNested
import Derived.RangeFuncBound
import Derived.Laws.EntriesVeiled
import Derived.Sort.CutIn
import Derived.Test.YtlecpjfggoehdaaGreatDoorBkm
import Derived.Test.YtlecpjfggoehdaaGreatDoorSma
import Derived.Test.YtlecpjfggoehdaaGreatDoorKit
import Derived.LaidMore
import Derived.OpenShut
/- Ship: what is done with a member of a kind. -/
set_option linter.unusedVariables false
set_option linter.unusedSimpArgs false
set_option maxRecDepth 100000
namespace Go.Proofs.YtlecpjfggoehdaaGreatDoor.Ar
open Go.RowKit Go.Sort Go.Lib Go.Proofs.YtlecpjfggoehdaaGreatDoor.Rs

theorem wp_region_still_drew {P : Program} {id : Nat} {Q : Exit → Act → World → Prop} {a : Act} {w : World} {l : List Oper} (n : Nat) (hm : P.follows .mixedOrders = true) (hB : Region.lexTailB .any l.toArray n = true)
    (h : wpStill P l.toArray w.drew (fun a' => wpList P l.toArray Q (l.drop n) a' w.drew) (l.take n) a) : (Code.region id l.toArray true).wp P Q a w := wp_region_still_tail n hm hB h
set_option maxHeartbeats 2000000 in
theorem call_rule1 (m : Mb) (vp : Value) (w : World) (hm : m.path.length ≤ 1048576) (hvp : IsSl vp) :
    Calls Tryz.prog 139 #[.agg (mbCells m vp).toArray] w fun e w' => e = .returned (.agg (spCells (sp1 5 (47 :: m.path) 0) (.slice none 0 0)).toArray) ∧ Below w.heap.size w w' := by
  obtain ⟨mp, mn, mc, rfl⟩ := hvp
  simp only [mbCells]
  obtain ⟨pl, hpl⟩ : ∃ x, bs (47 :: m.path) = x := ⟨_, rfl⟩
  have HPl := Lib.hid hpl
  go_enter Tryz.func139, Tryz.ntmps139
  clear hpl
  go_wp2_with (go_at_call 38; refine (call_place0 m.path _ hm).mono ?_; rintro e w2 ⟨rfl, rfl⟩; rw [HPl.out])
  refine bodyPost_ret (v := .agg #[.int .i64 5, .string pl, .string ⟨#[]⟩, .int .i64 0, .int .i64 0, .int .i64 0, .slice none 0 0]) (by simp [results, Tryz.results139, go_sem]) rfl ⟨?_, below_alloc2 w _ _⟩
  simp only [spCells, sp1, HPl.out]; rfl
set_option maxHeartbeats 2000000 in
theorem call_rule2 (m : Mb) (vp : Value) (w : World) (hm : m.path.length ≤ 1048576) (hvp : IsSl vp) :
    Calls Tryz.prog 140 #[.agg (mbCells m vp).toArray] w fun e w' => e = .returned (.agg (spCells (sp1 4 (47 :: m.path) 0) (.slice none 0 0)).toArray) ∧ Below w.heap.size w w' := by
  obtain ⟨mp, mn, mc, rfl⟩ := hvp
  simp only [mbCells]
  obtain ⟨pl, hpl⟩ : ∃ x, bs (47 :: m.path) = x := ⟨_, rfl⟩
  have HPl := Lib.hid hpl
  go_enter Tryz.func140, Tryz.ntmps140
  clear hpl
  go_wp2_with (go_at_call 38; refine (call_place0 m.path _ hm).mono ?_; rintro e w2 ⟨rfl, rfl⟩; rw [HPl.out])
  refine bodyPost_ret (v := .agg #[.int .i64 4, .string pl, .string ⟨#[]⟩, .int .i64 0, .int .i64 0, .int .i64 0, .slice none 0 0]) (by simp [results, Tryz.results140, go_sem]) rfl ⟨?_, below_alloc2 w _ _⟩
  simp only [spCells, sp1, HPl.out]; rfl
set_option maxHeartbeats 4000000 in
theorem call_rule3 (m : Mb) (vp : Value) (w : World) (hm : m.path.length ≤ 1048576) (hl : m.link.length ≤ 1048576) (hvp : IsSl vp) :
    Calls Tryz.prog 141 #[.agg (mbCells m vp).toArray] w fun e w' => e = .returned (.agg (spCells ⟨9, 47 :: m.link, 47 :: m.path, 0, 0, 0, []⟩ (.slice none 0 0)).toArray) ∧ Below w.heap.size w w' := by
  obtain ⟨mp, mn, mc, rfl⟩ := hvp
  simp only [mbCells]
  obtain ⟨pl, hpl⟩ : ∃ x, bs (47 :: m.path) = x := ⟨_, rfl⟩
  obtain ⟨ll, hll⟩ : ∃ x, bs (47 :: m.link) = x := ⟨_, rfl⟩
  obtain ⟨bp, hbp⟩ : ∃ x, bs m.path = x := ⟨_, rfl⟩
  obtain ⟨bl, hbl⟩ : ∃ x, bs m.link = x := ⟨_, rfl⟩
  have HPl := Lib.hid hpl
  have HLl := Lib.hid hll
  have hA : ∀ w, Calls Tryz.prog 38 #[.string bp] w fun e w' => e = .returned (.string pl) ∧ w' = w := fun w => by rw [← hbp, ← hpl]; exact (call_place0 m.path w hm).mono fun e w' h => ⟨h.1, h.2.symm⟩
  have hB : ∀ w, Calls Tryz.prog 38 #[.string bl] w fun e w' => e = .returned (.string ll) ∧ w' = w := fun w => by rw [← hbl, ← hll]; exact (call_place0 m.link w hl).mono fun e w' h => ⟨h.1, h.2.symm⟩
  have HA := Lib.hid hA
  have HB := Lib.hid hB
  rw [hbp, hbl]
  clear hpl hll hbp hbl hA hB
  go_enter Tryz.func141, Tryz.ntmps141
  go_wp2
  refine wp_region_still_drew 7 (by kernel_rfl) (by kernel_rfl) ?_
  simp only [List.take_succ_cons, List.take_zero, List.drop_succ_cons, List.drop_zero]
  repeat still_step
  still_call (HB.out _)
  repeat still_step
  still_call (HA.out _)
  repeat still_step
  refine wpStill_nil ?_
  go_wp2
  refine bodyPost_ret (v := .agg #[.int .i64 9, .string ll, .string pl, .int .i64 0, .int .i64 0, .int .i64 0, .slice none 0 0]) (by simp [results, Tryz.results141, go_sem]) rfl ⟨?_, (below_alloc2 w _ _).drew⟩
  simp only [spCells, HPl.out, HLl.out]
end Go.Proofs.YtlecpjfggoehdaaGreatDoor.Ar

/- Ship: a list gone through from its end. -/
set_option linter.unusedVariables false
set_option linter.unusedSimpArgs false
set_option maxRecDepth 100000
namespace Go.Proofs.YtlecpjfggoehdaaGreatDoor.Ar
open Go.RowKit Go.Sort Go.Lib Go.Proofs.YtlecpjfggoehdaaGreatDoor.Rs

theorem call_backward (v : Value) (hv : IsSl v) (w : World) : Calls Tryz.prog 36 #[v] w fun e w' => e = .returned (.func (.func 55) #[] #[.pointer (some ⟨w.heap.size, 0, none⟩)]) ∧ w' = w.alloc (.cells #[v] 33) := by
  obtain ⟨a, n, c, rfl⟩ := hv
  go_enter Tryz.func36, Tryz.ntmps36
  go_wp2
  go_ret
  exact ⟨rfl, rfl⟩
/-- what one round keeps, of cells -/
structure KqS (bx : Nat) (W W' : World) : Prop where
  below : Below bx W W'
  size : W.heap.size ≤ W'.heap.size
  keep : ∀ (B T : Nat) (cur : List Value), Row W B T cur → T ≠ 24 → T ≠ 38 → Row W' B T cur
theorem KpS.kq {bx : Nat} {W W' : World} (h : KpS bx W W') : KqS bx W W' := ⟨h.below, h.size, fun _ _ _ hr h1 h2 => h.row hr h1 h2⟩
theorem KqS.refl (bx : Nat) (W : World) : KqS bx W W := ⟨Below.refl _ _, Nat.le_refl _, fun _ _ _ hr _ _ => hr⟩
theorem KqS.trans {bx : Nat} {A B C : World} (h : KqS bx A B) (k : KqS bx B C) : KqS bx A C := ⟨h.below.trans k.below, Nat.le_trans h.size k.size, fun _ _ _ hr h1 h2 => k.keep _ _ _ (h.keep _ _ _ hr h1 h2) h1 h2⟩
theorem KqS.fresh {bx : Nat} {A B : World} (hx : bx ≤ A.heap.size) (h : Below A.heap.size A B) : KqS bx A B := ⟨h.mono hx, h.size, fun _ _ _ hr _ _ => hr.below h hr.lt⟩
theorem kq_b {bx : Nat} {w : World} (hn : bx ≤ w.heap.size) (W : World) (l : Nat) (o o' : Obj) (hl : w.heap.size ≤ l) (h : W.heap[l]? = some o) (hc : o.isCells = false) (hw : o.isWalk = false) : KqS bx W (W.putObj l o') :=
  ⟨belowK_b hn W l o o' hl h hc hw, by simp [World.putObj], fun B T cur hr _ _ => by
    have hne : B ≠ l := fun e => by
      subst e
      have h' : W.heap[B]? = some (.cells cur.toArray T (0, 0)) := hr
      rw [h] at h'
      cases h'
      cases hc
    show (W.putObj l o').heap[B]? = _
    rw [World.putObj_heap_other (fun e => hne (by omega))]
    exact hr⟩
/-- a member of a list, with its place and its value -/
abbrev BkEl (wb : World) (l : List Mb) := { x : Nat × Mb × Value // l[x.1]? = some x.2.1 ∧ IsSl x.2.2 ∧ MbV wb x.2.1 x.2.2 }
def bkEnc {wb : World} {l : List Mb} (x : BkEl wb l) : Array Value := #[.int .i64 x.1.1, .agg (mbCells x.1.2.1 x.1.2.2).toArray]

attribute [local go_sem] Oper.semAt_some
set_option maxHeartbeats 4000000 in
theorem backward_stops (wb : World) (v : Value) (l : List Mb) (hs : Sl RMb 5 wb v l) (hl : l.length ≤ 1048576) (n Bk : Nat) (w : World) (hw : Below wb.heap.size wb w) (hr : Row w Bk 33 [v]) :
    SeqStopsK Fence.wide n Tryz.prog 55 #[.pointer (some ⟨Bk, 0, none⟩)] (bkEnc (wb := wb) (l := l)) (KqS wb.heap.size) (fun xs => xs.map (fun x => x.1.2.1) = l.reverse) (fun _ => True) l.length w := by
  intro l1 J Jx W hW hJ hJx hY h0
  have hdep : ∀ m, Fence.wide.depth.isSome = true → 1 ≤ m := fun m h => by cases h
  have HS := Lib.hid hs
  obtain ⟨aa, ba, oa, ca, rfl, haa, hca⟩ := hs
  obtain ⟨m, hm⟩ : ∃ n, l.length = n := ⟨_, rfl⟩
  rw [hm] at hl haa hr
  have HCa := Lib.hid hca
  have HM := Lib.hid hm
  have HY := Lib.hid hY
  have HJ0 := Lib.hid h0
  have HR0 := Lib.hid (hr.below hW hr.lt)
  have HB0 : Hid (Below wb.heap.size wb W) := Lib.hid (below_then hw hw.size hW)
  have b0 : W.cell? ⟨Bk, 0, none⟩ = some (.slice aa m ca) := HR0.out.cell 0
  clear hca hm hY h0 hr hW hw
  refine callsIn_of_wp Tryz.func55 rfl trivial ?_ rfl
  simp only [Tryz.ntmps55, List.size_toArray, List.length_cons, List.length_nil, Nat.reduceAdd, Nat.reduceSub, Array.replicate_succ, Array.replicate_zero, List.push_toArray, List.append_toArray, List.nil_append, List.cons_append]
  gi_wp2
  clear b0
  gi_loopw [3] (fun iv wr => ∃ (k : Nat) (z : Int) (pre : List (BkEl wb l)), k ≤ m ∧ iv = .int .i64 z ∧ z = (m : Int) - 1 - k ∧ pre.length = k ∧ pre.map (fun x => x.1.2.1) = l.reverse.take k ∧ J pre wr ∧ KqS wb.heap.size W wr)
    (fun iv _ => (RowKit.intOf iv + 1).toNat)
  case atStart => exact ⟨0, _, [], Nat.zero_le _, rfl, by omega, rfl, by simp, HJ0.out, KqS.refl _ _⟩
  case round =>
    obtain ⟨k, z, pre, hk, rfl, hz, hpl, hpm, hJp, hkq⟩ := hrel
    have HJp := Lib.hid hJp
    have HKq := Lib.hid hkq
    have HPl := Lib.hid hpl
    have HPm := Lib.hid hpm
    have HRw := Lib.hid (hkq.keep _ _ _ HR0.out (by decide) (by decide))
    have HBw : Hid (Below wb.heap.size wb wr) := Lib.hid (HB0.out.trans hkq.below)
    have b0 : wr.cell? ⟨Bk, 0, none⟩ = some (.slice aa m ca) := HRw.out.cell 0
    clear hJp hkq hpl hpm
    by_cases hlt : k < m
    · obtain ⟨i, hi⟩ : ∃ i : Nat, z = i := ⟨m - 1 - k, by omega⟩
      subst hi
      have hik : i = m - 1 - k := by omega
      have HIk := Lib.hid hik
      obtain ⟨x, hx⟩ : ∃ x, l[i]? = some x := ⟨_, List.getElem?_eq_getElem (by have := HM.out; omega)⟩
      obtain ⟨vp, c0, c1, c2, c3, c4, hxv⟩ := RMb.stays _ _ (keeps_below HBw.out) _ _ _ (HCa.out i x hx)
      obtain ⟨vp', _, _, _, _, d4, hxv0⟩ := HCa.out i x hx
      have hvv : vp' = vp := by
        have := (keeps_below HBw.out) _ _ _ d4
        rw [this] at c4
        cases c4
        rfl
      subst hvv
      obtain ⟨ap, np, cp, rfl⟩ : ∃ a m' c, vp' = .slice a m' c := by obtain ⟨a, b, o, c, h, _⟩ := hxv.pieces; exact ⟨_, _, _, h⟩
      have HX : Hid (l.reverse.take (k + 1) = l.reverse.take k ++ [x]) := Lib.hid (by
        rw [List.take_add_one, List.getElem?_reverse (by have := HM.out; omega), HM.out, show m - 1 - k = i by omega, hx]; rfl)
      obtain ⟨X, hX⟩ : ∃ X : BkEl wb l, X.1 = (i, x, .slice ap np cp) := ⟨⟨(i, x, .slice ap np cp), hx, ⟨_, _, _, rfl⟩, hxv0⟩, rfl⟩
      obtain ⟨fn, tmps, assign, body, hy, hR⟩ := HY.out pre X wr HJp.out (by rw [HPl.out, HM.out]; exact hlt)
      simp only [bkEnc, mbCells, hX] at hy
      have HXe := Lib.hid hX
      have k0 : (0 : Int) ≤ i := Int.natCast_nonneg _
      have k1 : (i : Int) < m := by omega
      have ha' := haa (by omega)
      subst ha'
      have HXx := Lib.hid hx
      clear hx haa hxv hxv0 d4 hik hz hX
      gi_wp2
      refine ⟨hdep _, hR.mono ?_⟩
      rintro e w3 (⟨rfl, hJ3, hk3⟩ | ⟨rfl, hJx3⟩)
      · have HJ3 := Lib.hid hJ3
        have HK3 := Lib.hid (HKq.out.trans hk3)
        clear hJ3 hk3 hy hR c0 c1 c2 c3 c4 b0
        gi_wp2
        go_roundw
        case rel => exact ⟨k + 1, _, _, by omega, rfl, by have := HIk.out; omega, by rw [List.length_append, HPl.out]; rfl, by rw [List.map_append, HPm.out, HX.out, List.map_cons, List.map_nil, HXe.out], HJ3.out, HK3.out⟩
        case measure => simp [RowKit.intOf]
      · clear hy hR c0 c1 c2 c3 c4 b0
        gi_wp2
        refine bodyPost_ret (results_none rfl _ _ _) rfl ?_
        exact ⟨⟨_, rfl⟩, .inr ⟨_, trivial, hJx3⟩⟩
    · obtain rfl : k = m := by omega
      have hz2 : ¬ (0 : Int) ≤ z := by omega
      have hz3 : z < 0 := by omega
      clear haa hz
      gi_wp2
      go_end0
      exact ⟨⟨_, rfl⟩, .inl ⟨_, by rw [HPm.out, ← HM.out, List.take_of_length_le (by simp)], HJp.out⟩⟩
end Go.Proofs.YtlecpjfggoehdaaGreatDoor.Ar

/- Ship: the steps from the one tree to the other, handed on one by one. -/
set_option linter.unusedVariables false
set_option linter.unusedSimpArgs false
set_option maxRecDepth 100000
namespace Go.Proofs.YtlecpjfggoehdaaGreatDoor.Ar
open Go.RowKit Go.Sort Go.Lib Go.Proofs.YtlecpjfggoehdaaGreatDoor.Rs

/-- what the program's table says of the kinds -/
structure RulesTab (w : World) : Prop where
  c3 : w.cell? ⟨0, 3, none⟩ = some (.int .i64 6)
  c4 : w.cell? ⟨0, 4, none⟩ = some (.func (.func 140) #[] #[])
  c5 : w.cell? ⟨0, 5, none⟩ = some (.bool true)
  c6 : w.cell? ⟨0, 6, none⟩ = some (.int .i64 7)
  c7 : w.cell? ⟨0, 7, none⟩ = some (.func (.func 139) #[] #[])
  c8 : w.cell? ⟨0, 8, none⟩ = some (.bool false)
  c9 : w.cell? ⟨0, 9, none⟩ = some (.int .i64 6)
  c10 : w.cell? ⟨0, 10, none⟩ = some (.func (.func 141) #[] #[])
  c11 : w.cell? ⟨0, 11, none⟩ = some (.bool false)
theorem RulesTab.keep {w w' : World} (h : RulesTab w) (hk : Keeps w w') : RulesTab w' := ⟨hk _ _ _ h.c3, hk _ _ _ h.c4, hk _ _ _ h.c5, hk _ _ _ h.c6, hk _ _ _ h.c7, hk _ _ _ h.c8, hk _ _ _ h.c9, hk _ _ _ h.c10, hk _ _ _ h.c11⟩
/-- of a list whose members have a kind of the three, and files that may be gone through -/
structure LsOk (l : List Mb) : Prop where
  sm : LsSm l
  kind : ∀ m ∈ l, m.kind = 1 ∨ m.kind = 2 ∨ m.kind = 3
  file : ∀ m ∈ l, FileOk m
theorem call_steps (v1 v2 : Value) (b1 b2 : Nat) (h1 : IsSl v1) (h2 : IsSl v2) (w : World) : Calls Tryz.prog 16 #[.agg #[v1, .map (some b1)], .agg #[v2, .map (some b2)]] w fun e w' =>
    e = .returned (.func (.func 35) #[] #[.pointer (some ⟨w.heap.size, 0, none⟩), .pointer (some ⟨w.heap.size + 1, 0, none⟩)]) ∧ w' = (w.alloc (.cells #[v1, .map (some b1)] 47)).alloc (.cells #[v2, .map (some b2)] 47) := by
  obtain ⟨a1, n1, c1, rfl⟩ := h1
  obtain ⟨a2, n2, c2, rfl⟩ := h2
  go_enter Tryz.func16, Tryz.ntmps16
  go_wp2
  go_ret
  exact ⟨rfl, rfl⟩
/-- The caller's word abides the turn of what is no cells and lies from n0 on. -/
def StO (n0 : Nat) (J : List Sp → World → Prop) : Prop := OwnFrom n0 J

theorem MapO.kp {bx : Nat} {W W' : World} {b n : Nat} {f : List UInt8 → Option Int} (h : MapO W b n f) (hk : KpS bx W W') : MapO W' b n f := by
  obtain ⟨D, ⟨es, clock, hb, F, hs, hD⟩, hf⟩ := h
  exact ⟨D, ⟨es, clock, hk.keep _ _ hb (fun c T fz e => by cases e), F, hs, hD⟩, hf⟩
/-- what is known between two steps -/
structure StI (J : List Sp → World → Prop) (lf lt : List Mb) (m1 m2 B1 B2 Y l0 : Nat) (v1 v2 : Value) (out : List Sp) (W : World) : Prop where
  j : J out W
  r1 : Row W B1 47 [v1, .map (some m1)]
  r2 : Row W B2 47 [v2, .map (some m2)]
  y : Row W Y 80 [.func (.yield l0) #[] #[]]
  t1 : MapO W m1 lf.length (idxF lf lf.length)
  t2 : MapO W m2 lt.length (idxF lt lt.length)
section
variable {wb : World} {n n0 : Nat} {J : List Sp → World → Prop} {lf lt : List Mb} {m1 m2 B1 B2 Y l0 : Nat} {v1 v2 : Value} {out out' : List Sp} {W W' : World}
theorem StI.fresh (hJ : StJ wb l0 n J) (h : StI J lf lt m1 m2 B1 B2 Y l0 v1 v2 out W) (hb : Below W.heap.size W W') : StI J lf lt m1 m2 B1 B2 Y l0 v1 v2 out W' :=
  ⟨hJ.fresh _ _ _ h.j hb, h.r1.below hb h.r1.lt, h.r2.below hb h.r2.lt, h.y.below hb h.y.lt, h.t1.below hb, h.t2.below hb⟩
theorem StI.step {bx : Nat} (h : StI J lf lt m1 m2 B1 B2 Y l0 v1 v2 out W) (hj : J out' W') (hk : KpS bx W W') : StI J lf lt m1 m2 B1 B2 Y l0 v1 v2 out' W' :=
  ⟨hj, hk.row h.r1 (by decide) (by decide), hk.row h.r2 (by decide) (by decide), hk.row h.y (by decide) (by decide), h.t1.kp hk, h.t2.kp hk⟩
theorem Row.turn {W W' : World} {B T : Nat} {cur : List Value} {row : Option Nat} (h : Row W B T cur) (hg : W.grownBy W' row) (hr : ∀ r, row = some r → ∃ o : Obj, W.heap[r]? = some o ∧ o.isCells = false) : Row W' B T cur :=
  h.grown hg (fun e => by
    obtain ⟨o, ho, hc⟩ := hr B e.symm
    have h' : W.heap[B]? = some (.cells cur.toArray T (0, 0)) := h
    rw [h'] at ho
    cases ho
    cases hc)
theorem StI.own {B : Nat} (hO : StO n0 J) (hn : n0 ≤ B) (h1 : m1 < B) (h2 : m2 < B) (h : StI J lf lt m1 m2 B1 B2 Y l0 v1 v2 out W) {row : Option Nat} (hg : W.grownBy W' row)
    (hr : ∀ r, row = some r → B ≤ r ∧ ∃ o : Obj, W.heap[r]? = some o ∧ o.isCells = false) : StI J lf lt m1 m2 B1 B2 Y l0 v1 v2 out W' :=
  ⟨hO _ _ _ _ h.j hg (fun r e => ⟨Nat.le_trans hn (hr r e).1, (hr r e).2⟩), Row.turn h.r1 hg (fun r e => (hr r e).2), Row.turn h.r2 hg (fun r e => (hr r e).2), Row.turn h.y hg (fun r e => (hr r e).2),
    h.t1.kept (hg.block _ h.t1.lt (fun e => by have := (hr _ e.symm).1; omega)), h.t2.kept (hg.block _ h.t2.lt (fun e => by have := (hr _ e.symm).1; omega))⟩
end
theorem KpS.from {bx : Nat} {W W' : World} (h : KpS bx W W') (B : Nat) : KeepsFrom B W W' := ⟨h.size, fun k o _ hk ho => h.keep k o hk (fun c T fz e => by subst e; cases ho)⟩
theorem keepsFrom_below {W W' : World} (B : Nat) (h : Below W.heap.size W W') : KeepsFrom B W W' := ⟨h.size, fun k o _ hk ho => (h.block k (Array.getElem?_eq_some_iff.1 hk).1).trans hk⟩
/-- the place of a kind in the table -/
theorem rule_at {w : World} (h : RulesTab w) {k : Int} (hk : k = 1 ∨ k = 2 ∨ k = 3) : ∃ (kn : Nat) (g : Int) (f : Nat) (b : Bool), k = kn ∧ kn < 4 ∧ w.cell? ⟨0, kn * 3, none⟩ = some (.int .i64 g) ∧ w.cell? ⟨0, kn * 3 + 1, none⟩ = some (.func (.func f) #[] #[]) ∧ w.cell? ⟨0, kn * 3 + 2, none⟩ = some (.bool b) ∧
    g = (if k = 2 then 7 else 6) ∧ f = (if k = 2 then 139 else if k = 1 then 140 else 141) ∧ b = decide (k = 1) := by
  rcases hk with rfl | rfl | rfl
  · exact ⟨1, 6, 140, true, rfl, by decide, h.c3, h.c4, h.c5, rfl, rfl, rfl⟩
  · exact ⟨2, 7, 139, false, rfl, by decide, h.c6, h.c7, h.c8, rfl, rfl, rfl⟩
  · exact ⟨3, 6, 141, false, rfl, by decide, h.c9, h.c10, h.c11, rfl, rfl, rfl⟩

theorem KpS.trans {bx : Nat} {A B C : World} (h : KpS bx A B) (k : KpS bx B C) : KpS bx A C := ⟨h.below.trans k.below, Nat.le_trans h.size k.size, fun b o ho hn => k.keep b o (h.keep b o ho hn) hn⟩
theorem KpS.fresh {bx : Nat} {A B : World} (hx : bx ≤ A.heap.size) (h : Below A.heap.size A B) : KpS bx A B := ⟨h.mono hx, h.size, fun b o ho _ => (h.block b (Array.getElem?_eq_some_iff.1 ho).1).trans ho⟩
theorem StJ.kp {wb : World} {l0 n : Nat} {J : List Sp → World → Prop} (h : StJ wb l0 n J) (A : World) : StJ wb l0 n (fun out X => J out X ∧ KpS wb.heap.size A X) :=
  ⟨fun _ _ hj => h.base _ _ hj.1, fun _ _ _ hj hb => ⟨h.fresh _ _ _ hj.1 hb, hj.2.trans (KpS.fresh (h.base _ _ hj.1).size hb)⟩, fun pre s X hj hn => by
    obtain ⟨fn, tmps, assign, body, hy, hR⟩ := h.yield pre s X hj.1 hn
    exact ⟨fn, tmps, assign, body, hy, hR.mono fun e X' hx => ⟨hx.1, ⟨hx.2.1, hj.2.trans hx.2.2⟩, hx.2.2⟩⟩⟩
theorem call_changesK {wb : World} {l0 n : Nat} {J : List Sp → World → Prop} (hJ : StJ wb l0 n J) (a b : Mb) (va vb : Value) (pre : List Sp) (W : World)
    (ha : Sl RPc 2 wb va a.pieces) (hb : Sl RPc 2 wb vb b.pieces) (fa : FileOk a) (fb : FileOk b) (h0 : J pre W) (hN : pre.length + 700 ≤ 1000000000) :
    CallsIn Fence.wide n Tryz.prog 39 #[.agg (mbCells a va).toArray, .agg (mbCells b vb).toArray, .func (.yield l0) #[] #[]] W fun e W' => e = .returned (.bool true) ∧ J (pre ++ changesF a b) W' ∧ KpS wb.heap.size W W' :=
  (call_changes wb l0 n _ (hJ.kp W) a b va vb pre W ha hb fa fb ⟨h0, KpS.fresh (hJ.base _ _ h0).size (Below.refl _ _)⟩ hN).mono fun e W' h => ⟨h.1, h.2.1, h.2.2⟩
abbrev RgS (w7 : World) (B1 T7 kn : Nat) (a b c : List Value) (w' : World) : Prop :=
  w'.cell? ⟨B1, 0, none⟩ = some (a.getD 0 undef) ∧ w'.cell? ⟨B1, 1, none⟩ = some (a.getD 1 undef) ∧
  w'.cell? ⟨T7, 0, none⟩ = some (b.getD 0 undef) ∧ w'.cell? ⟨T7, 1, none⟩ = some (b.getD 1 undef) ∧ w'.cell? ⟨T7, 2, none⟩ = some (b.getD 2 undef) ∧ w'.cell? ⟨T7, 3, none⟩ = some (b.getD 3 undef) ∧ w'.cell? ⟨T7, 4, none⟩ = some (b.getD 4 undef) ∧
  w'.cell? ⟨0, kn * 3, none⟩ = some (c.getD 0 undef) ∧ w'.cell? ⟨0, kn * 3 + 1, none⟩ = some (c.getD 1 undef) ∧ w'.cell? ⟨0, kn * 3 + 2, none⟩ = some (c.getD 2 undef) ∧ Hid (Below w7.heap.size w7 w')
theorem rgS {w7 w : World} {B1 T7 kn : Nat} {a0 a1 b0 b1 b2 b3 b4 c0 c1 c2 : Value} (ha : Hid (Row w7 B1 47 [a0, a1])) (hb : Hid (Row w7 T7 58 [b0, b1, b2, b3, b4]))
    (hc : Hid (w7.cell? ⟨0, kn * 3, none⟩ = some c0 ∧ w7.cell? ⟨0, kn * 3 + 1, none⟩ = some c1 ∧ w7.cell? ⟨0, kn * 3 + 2, none⟩ = some c2)) (h : Below w7.heap.size w7 w) :
    RgS w7 B1 T7 kn [a0, a1] [b0, b1, b2, b3, b4] [c0, c1, c2] w := by
  have ra := ha.out.below h ha.out.lt
  have rb := hb.out.below h hb.out.lt
  have k := keeps_below h
  exact ⟨ra.cell 0, ra.cell 1, rb.cell 0, rb.cell 1, rb.cell 2, rb.cell 3, rb.cell 4, k _ _ _ hc.out.1, k _ _ _ hc.out.2.1, k _ _ _ hc.out.2.2, Lib.hid h⟩
theorem RgS.b {w7 w : World} {B1 T7 kn : Nat} {a b c : List Value} (h : RgS w7 B1 T7 kn a b c w) : Below w7.heap.size w7 w := h.2.2.2.2.2.2.2.2.2.2.out
theorem fileOk_empty : FileOk emptyMb := by
  refine ⟨by decide, by decide, by decide, by decide, by decide, ?_, ?_, ?_⟩ <;> simp [emptyMb]
theorem goes_len {α : Type} (lt : List Mb) (f : α → Mb) : ∀ xs : List α, (xs.flatMap fun x => goesF lt (f x)).length ≤ xs.length
  | [] => Nat.le_refl _
  | x :: xs => by
    rw [List.flatMap_cons, List.length_append, List.length_cons]
    have := goes_len lt f xs
    have h : (goesF lt (f x)).length ≤ 1 := by unfold goesF; split <;> simp
    omega
theorem comes_len1 (lf : List Mb) (m : Mb) (hm : FileOk m) : (comesF lf m).length ≤ 700 := by
  unfold comesF
  rw [List.length_append]
  have h1 : (if (twinF lf m).isNone = true then [comesSp m] else []).length ≤ 1 := by split <;> simp
  have h2 : ∀ a : Mb, (changesF a m).length ≤ 600 := fun a => by
    unfold changesF
    simp only [List.length_append]
    have := chW_len a m (pagesN m)
    have h3 := headW_len a m
    have h4 : (if chS a m (pagesN m) = m.size then [] else [trSp m]).length ≤ 1 := by split <;> simp
    have h5 : pagesN m ≤ 512 := by unfold pagesN; have := hm.s1; omega
    omega
  have h5 : (if m.kind = 1 then changesF ((twinF lf m).getD emptyMb) m else []).length ≤ 600 := by
    split
    · exact h2 _
    · simp
  omega
theorem comes_len (lf : List Mb) : ∀ l : List Mb, (∀ m ∈ l, FileOk m) → (l.flatMap (comesF lf)).length ≤ 700 * l.length
  | [], _ => Nat.le_refl _
  | m :: l, h => by
    rw [List.flatMap_cons, List.length_append, List.length_cons]
    have := comes_len lf l (fun x hx => h x (List.mem_cons_of_mem _ hx))
    have := comes_len1 lf m (h m List.mem_cons_self)
    omega
theorem roundIn_wide {m n l1 l : Nat} {P : Program} {f : FuncId} {tmps : Array Value} {assign body : Code} {w : World} {R : Ending → World → Prop} (h : RoundIn Fence.wide m P l f tmps assign body w R) : RoundIn (Fence.wide.inRound l1) n P l f tmps assign body w R :=
  ⟨trivial, fun c cs _ => h.2 c cs (fun _ e => by cases e)⟩

theorem roundIn_wide' {m n l : Nat} {P : Program} {f : FuncId} {tmps : Array Value} {assign body : Code} {w : World} {R : Ending → World → Prop} (h : RoundIn Fence.wide m P l f tmps assign body w R) : RoundIn Fence.wide n P l f tmps assign body w R :=
  ⟨trivial, fun c cs _ => h.2 c cs (fun _ e => by cases e)⟩

attribute [local go_sem] Oper.semAt_some
set_option maxHeartbeats 8000000 in
theorem call_stepsIn (wb : World) (l0 n n0 : Nat) (J : List Sp → World → Prop) (hJ : StJ wb l0 n J) (hO : StO n0 J) (h1n : 1 ≤ n) (v1 v2 : Value) (lf lt : List Mb) (m1 m2 B1 B2 : Nat) (pre : List Sp) (W : World)
    (hs1 : Sl RMb 5 wb v1 lf) (hs2 : Sl RMb 5 wb v2 lt) (ok1 : LsOk lf) (ok2 : LsOk lt) (hr : RulesTab wb) (ht1 : MapO W m1 lf.length (idxF lf lf.length)) (ht2 : MapO W m2 lt.length (idxF lt lt.length))
    (r1 : Row W B1 47 [v1, .map (some m1)]) (r2 : Row W B2 47 [v2, .map (some m2)]) (hn0 : n0 ≤ W.heap.size) (h0 : J pre W) (hN : pre.length ≤ 1000) :
    CallsIn Fence.wide n Tryz.prog 35 #[.func (.yield l0) #[] #[], .pointer (some ⟨B1, 0, none⟩), .pointer (some ⟨B2, 0, none⟩)] W fun e W' => (∃ v, e = .returned v) ∧ J (pre ++ planF lf lt) W' := by
  have hdep : ∀ m, Fence.wide.depth.isSome = true → 1 ≤ m := fun m h => by cases h
  have HJ := Lib.hid hJ
  have HO := Lib.hid hO
  have HS1 := Lib.hid hs1
  have HS2 := Lib.hid hs2
  have HK1 := Lib.hid ok1
  have HK2 := Lib.hid ok2
  have HR := Lib.hid hr
  have HT1 := Lib.hid ht1
  have HT2 := Lib.hid ht2
  have R1 := Lib.hid r1
  have R2 := Lib.hid r2
  have HJ0 := Lib.hid h0
  obtain ⟨aa, ba, oa, ca, rfl, haa, hca⟩ := hs1
  obtain ⟨ab, bb, ob, cb, rfl, hab, hcb⟩ := hs2
  have x1 : W.cell? ⟨B1, 0, none⟩ = some (.slice aa lf.length ca) := r1.cell 0
  have HCb := Lib.hid hcb
  have HAb := Lib.hid hab
  clear hJ hO ok1 ok2 hr ht1 ht2 r1 r2 h0 haa hca hab hcb
  refine callsIn_of_wp_marks Tryz.func35 rfl trivial ?_ rfl
  simp only [Tryz.ntmps35, List.size_toArray, List.length_cons, List.length_nil, Nat.reduceAdd, Nat.reduceSub, Array.replicate_succ, Array.replicate_zero, List.push_toArray, List.append_toArray, List.nil_append, List.cons_append]
  have x2 : (W.alloc (.cells #[.func (.yield l0) #[] #[]] 80)).cell? ⟨B1, 0, none⟩ = some (.slice aa lf.length ca) := (R1.out.alloc _).cell 0
  gi_wp2
  refine ⟨trivial, (callsIn_wide.2 (call_backward _ ⟨_, _, _, rfl⟩ _)).mono ?_⟩
  rintro e w2 ⟨rfl, rfl⟩
  gi_wp2
  have hdepR : ∀ (l m : Nat), (Fence.wide.inRound l).depth.isSome = true → 1 ≤ m := fun l m h => by cases h
  have hN : Below wb.heap.size wb W := HJ.out.base _ _ HJ0.out
  have HBa := Lib.hid hN
  have HY3 : Hid (Row ((W.alloc (.cells #[.func (.yield l0) #[] #[]] 80)).alloc (.cells #[.slice aa lf.length ca] 33)) W.heap.size 80 [.func (.yield l0) #[] #[]]) := Lib.hid ((Row.new W 80 _).alloc _)
  have HY4 : Hid (Row ((W.alloc (.cells #[.func (.yield l0) #[] #[]] 80)).alloc (.cells #[.slice aa lf.length ca] 33)) (W.heap.size + 1) 33 [.slice aa lf.length ca]) := Lib.hid (row_new1 W _ 33 _)
  have HB4 := Lib.hid (below_alloc2 W (.cells #[.func (.yield l0) #[] #[]] 80) (.cells #[.slice aa lf.length ca] 33))
  obtain ⟨W0, hW0⟩ : ∃ X, (W.alloc (.cells #[.func (.yield l0) #[] #[]] 80)).alloc (.cells #[.slice aa lf.length ca] 33) = X := ⟨_, rfl⟩
  have hz0 : W0.heap.size = W.heap.size + 1 + 1 := by rw [← hW0, alloc_size, alloc_size]
  rw [hW0] at HY3 HY4 HB4 ⊢
  have HZ0 := Lib.hid hz0
  have hm1 := HT1.out.lt
  have hm2 := HT2.out.lt
  have hb1 := R1.out.lt
  have hb2 := R2.out.lt
  clear x1 x2 hW0 hz0 hN
  have HI : Hid (StI J lf lt m1 m2 B1 B2 W.heap.size l0 (.slice aa lf.length ca) (.slice ab lt.length cb) pre W0) := Lib.hid
    ⟨HJ.out.fresh _ _ _ HJ0.out HB4.out, R1.out.below HB4.out R1.out.lt, R2.out.below HB4.out R2.out.lt, HY3.out, HT1.out.below HB4.out, HT2.out.below HB4.out⟩
  have HBk := Lib.hid (backward_stops wb (.slice aa lf.length ca) lf HS1.out HK1.out.sm.len (n - 1) (W.heap.size + 1) W0 (below_then HBa.out HBa.out.size (HB4.out)) HY4.out)
  have HBb : Hid (wb.heap.size ≤ W0.heap.size) := Lib.hid (by rw [HZ0.out]; have := HBa.out.size; omega)
  refine wpIn_rangeFunc_ownH rfl h1n (gf := 55) (lb := #[.pointer (some ⟨W.heap.size + 1, 0, none⟩)]) rfl trivial (enters_of Tryz.func55 (by kernel_rfl) rfl) HBk.out
    (fun h k => h.trans k) (kq_b HBb.out) (Below.refl _ _) (fun _ => rfl)
    (fun xs W' => StI J lf lt m1 m2 B1 B2 W.heap.size l0 (.slice aa lf.length ca) (.slice ab lt.length cb) (pre ++ xs.flatMap (fun x => goesF lt x.1.2.1)) W')
    (fun _ _ _ => False)
    (fun xs A B row hs hg hr => hs.own HO.out (by rw [HZ0.out]; omega) (by rw [HZ0.out]; omega) (by rw [HZ0.out]; omega) hg hr)
    (fun _ _ _ _ _ hs _ _ => hs)
    (by simpa using HI.out)
    (fun x a' W' => ∃ Bx, Row W' Bx 58 (mbCells x.1.2.1 x.1.2.2) ∧ a' = { tmps := #[.func (.yield l0) #[] #[], .pointer (some ⟨B1, 0, none⟩), .pointer (some ⟨B2, 0, none⟩), .pointer (some ⟨W.heap.size, 0, none⟩), undef, .pointer (some ⟨Bx, 0, none⟩), undef, undef, undef, undef, .pointer (some ⟨B1, 0, none⟩), .slice aa lf.length ca, .func (.func 55) #[] #[.pointer (some ⟨W.heap.size + 1, 0, none⟩)], .int .i64 x.1.1, .agg (mbCells x.1.2.1 x.1.2.2).toArray, undef, undef, undef, undef, undef, undef, undef, undef, undef, undef, undef, undef, undef, undef, undef, undef, undef, undef, undef, undef, undef, undef, undef, undef, undef, undef, undef, undef, undef, undef, undef, undef, undef, undef, undef, undef, undef, undef, undef, undef, undef, undef, undef, undef, undef, undef, undef, undef, undef, undef, undef, undef, undef, undef, undef], defers := [] })
    (fun x a' s A B row hs hg hr => by
      obtain ⟨Bx, h1, h2⟩ := hs
      exact ⟨Bx, Row.turn h1 hg (fun r e => (hr r e).2), h2⟩) ?assign ?body ?done ?stop
  case assign =>
    rintro l xs ⟨⟨i, m, vp⟩, hx, hsl, hxv⟩ Wx K hi hK
    obtain ⟨ap, np, cp, hvp⟩ := hsl
    simp only at hvp
    subst hvp
    have hfr := below_alloc1 Wx (.cells (mbCells m (.slice ap np cp)).toArray 58)
    have hk1 := hK { tmps := #[.func (.yield l0) #[] #[], .pointer (some ⟨B1, 0, none⟩), .pointer (some ⟨B2, 0, none⟩), .pointer (some ⟨W.heap.size, 0, none⟩), undef, .pointer (some ⟨Wx.heap.size, 0, none⟩), undef, undef, undef, undef, .pointer (some ⟨B1, 0, none⟩), .slice aa lf.length ca, .func (.func 55) #[] #[.pointer (some ⟨W.heap.size + 1, 0, none⟩)], .int .i64 i, .agg (mbCells m (.slice ap np cp)).toArray, undef, undef, undef, undef, undef, undef, undef, undef, undef, undef, undef, undef, undef, undef, undef, undef, undef, undef, undef, undef, undef, undef, undef, undef, undef, undef, undef, undef, undef, undef, undef, undef, undef, undef, undef, undef, undef, undef, undef, undef, undef, undef, undef, undef, undef, undef, undef, undef, undef, undef, undef, undef, undef, undef, undef], defers := [] } _ (keepsFrom_below _ hfr) (KqS.fresh (Nat.le_trans (HJ.out.base _ _ hi.j).size (Nat.le_refl _)) hfr) (hi.fresh HJ.out hfr) ⟨Wx.heap.size, Row.new Wx 58 _, rfl⟩
    simp only [bkEnc, mbCells] at hk1 ⊢
    clear hK
    gi_wp2
    exact hk1
  case body =>
    rintro l xs x a' Wr hl ⟨rr, hrr⟩ hi ⟨Bx, hBx, rfl⟩ hlen
    obtain ⟨i, m, vp, hX⟩ : ∃ (i : Nat) (m : Mb) (vp : Value), x.1 = (i, m, vp) := ⟨_, _, _, rfl⟩
    have hx := x.2.1
    have hsl := x.2.2.1
    simp only [hX] at hx hsl hBx ⊢
    obtain ⟨ap, np, cp, rfl⟩ := hsl
    simp only [mbCells] at hBx ⊢
    have hmem := List.mem_of_getElem? hx
    have hpath := (HK1.out.sm.mb m hmem).path
    obtain ⟨kn, g, fk, bk, hkk, hk4, q0, q1, q2, hg, -, -⟩ := rule_at (HR.out.keep (keeps_below (HJ.out.base _ _ hi.j))) (HK1.out.kind m hmem)
    have HHi := Lib.hid hi
    have HBx := Lib.hid hBx
    have hkn : (kn : Int) < 4 := by omega
    have hkn0 : (0 : Int) ≤ kn := Int.natCast_nonneg _
    have HGo : Hid (Value.agg (spCells (goesSp m) (.slice none 0 0)).toArray = .agg #[.int .i64 g, .string (bs (47 :: m.path)), .string ⟨#[]⟩, .int .i64 0, .int .i64 0, .int .i64 0, .slice none 0 0]) := Lib.hid (by simp only [goesSp, sp1, spCells, hg]; rfl)
    have k1 : ∀ y : Wd (Below Wr.heap.size Wr), y.val.cell? ⟨B2, 0, none⟩ = some (.slice ab lt.length cb) := fun y => (HHi.out.r2.below y.ok HHi.out.r2.lt).cell 0
    have k2 : ∀ y : Wd (Below Wr.heap.size Wr), y.val.cell? ⟨B2, 1, none⟩ = some (.map (some m2)) := fun y => (HHi.out.r2.below y.ok HHi.out.r2.lt).cell 1
    have k3 : ∀ y : Wd (Below Wr.heap.size Wr), y.val.cell? ⟨W.heap.size, 0, none⟩ = some (.func (.yield l0) #[] #[]) := fun y => (HHi.out.y.below y.ok HHi.out.y.lt).cell 0
    have d0 : ∀ y : Wd (Below Wr.heap.size Wr), y.val.cell? ⟨Bx, 0, none⟩ = some (.int .i64 kn) := fun y => by rw [← hkk]; exact (HBx.out.below y.ok HBx.out.lt).cell 0
    have d1 : ∀ y : Wd (Below Wr.heap.size Wr), y.val.cell? ⟨Bx, 1, none⟩ = some (.string (bs m.path)) := fun y => (HBx.out.below y.ok HBx.out.lt).cell 1
    have d2 : ∀ y : Wd (Below Wr.heap.size Wr), y.val.cell? ⟨Bx, 2, none⟩ = some (.string (bs m.link)) := fun y => (HBx.out.below y.ok HBx.out.lt).cell 2
    have d3 : ∀ y : Wd (Below Wr.heap.size Wr), y.val.cell? ⟨Bx, 3, none⟩ = some (.int .i64 m.size) := fun y => (HBx.out.below y.ok HBx.out.lt).cell 3
    have d4 : ∀ y : Wd (Below Wr.heap.size Wr), y.val.cell? ⟨Bx, 4, none⟩ = some (.slice ap np cp) := fun y => (HBx.out.below y.ok HBx.out.lt).cell 4
    have q0 : ∀ y : Wd (Below Wr.heap.size Wr), y.val.cell? ⟨0, kn * 3, none⟩ = some (.int .i64 g) := fun y => keeps_below y.ok _ _ _ q0
    have HTw : Hid (∀ y : Wd (Below Wr.heap.size Wr), Calls Tryz.prog 37 #[.agg #[.slice ab lt.length cb, .map (some m2)], .agg #[.int .i64 kn, .string (bs m.path), .string (bs m.link), .int .i64 m.size, .slice ap np cp]] y.val fun e w' => e = .returned (.pointer (twinP (.slice ab lt.length cb) lt m)) ∧ ∃ z : Wd (Below Wr.heap.size Wr), w' = z.val) := Lib.hid (fun y => by
      have h := call_treeTwin (.slice ab lt.length cb) lt m2 m (.slice ap np cp) y.val ⟨HS2.out.keep RMb.stays (keeps_below (below_then (HJ.out.base _ _ HHi.out.j) (HJ.out.base _ _ HHi.out.j).size y.ok)), HHi.out.t2.below y.ok⟩ HK2.out.sm hpath ⟨_, _, _, rfl⟩
      simp only [mbCells, hkk] at h
      exact h.mono fun e w' h => ⟨h.1, ⟨w', below_then y.ok y.ok.size h.2⟩, rfl⟩)
    have HPl : Hid (∀ y : Wd (Below Wr.heap.size Wr), Calls Tryz.prog 38 #[.string (bs m.path)] y.val fun e w' => e = .returned (.string (bs (47 :: m.path))) ∧ ∃ z : Wd (Below Wr.heap.size Wr), w' = z.val) := Lib.hid (fun y => (call_place0 m.path y.val hpath).mono fun e w' h => ⟨h.1, y, h.2.symm⟩)
    have hres : ∀ W', StI J lf lt m1 m2 B1 B2 W.heap.size l0 (.slice aa lf.length ca) (.slice ab lt.length cb) (pre ++ xs.flatMap (fun x => goesF lt x.1.2.1) ++ goesF lt m) W' → StI J lf lt m1 m2 B1 B2 W.heap.size l0 (.slice aa lf.length ca) (.slice ab lt.length cb) (pre ++ (xs ++ [x]).flatMap (fun x => goesF lt x.1.2.1)) W' := fun W' h => by
      rw [List.flatMap_append, ← List.append_assoc]
      simpa [hX] using h
    have HRes := Lib.hid hres
    have HLn : Hid ((pre ++ xs.flatMap (fun x => goesF lt x.1.2.1)).length < 1000000000) := Lib.hid (by
      have h1 := goes_len lt (fun x : BkEl wb lf => x.1.2.1) xs
      have h2 := HK1.out.sm.len
      rw [List.length_append]
      omega)
    haveI : Nonempty (Wd (Below Wr.heap.size Wr)) := ⟨⟨_, Below.refl _ _⟩⟩
    clear hx hmem hi hBx hrr hres hg hkk
    gi_wp2
    cases htw : twinF lt m with
    | none =>
      have HNo : Hid (goesF lt m = [goesSp m]) := Lib.hid (by rw [goesF, htw]; rfl)
      have htp := twinP_no (v := .slice ab lt.length cb) htw
      rw [htp] at HTw
      clear htw htp
      refine wpIn_region_tail 15 (Below Wr.heap.size Wr) (.round l) (by kernel_rfl) (by kernel_rfl) (by kernel_rfl) (below_drew _) ?_
      simp only [List.take_succ_cons, List.take_zero, List.drop_succ_cons, List.drop_zero]
      repeat (first | go_big_quiet_skip | (go_big_quiet_want; go_big_quiet_op; first | go_big_quiet_on | go_big_quiet_call ((first | (go_at_call 37; exact HTw.out _) | (go_at_call 38; exact HPl.out _)))))
      refine wpQuiet_nil ?_
      rintro _ ⟨y, rfl⟩
      have hyB := y.ok
      have hjy := HJ.out.fresh _ _ _ HHi.out.j hyB
      have hiy := Lib.hid (HHi.out.fresh HJ.out hyB)
      obtain ⟨fn, tmps, assign, body, hy, hR⟩ := HJ.out.yield _ (goesSp m) y.val hjy HLn.out
      rw [HGo.out] at hy
      gi_wp2
      refine ⟨hdepR l _, (roundIn_wide hR).mono ?_⟩
      rintro e w3 ⟨rfl, hj3, hk3⟩
      have HI3 := Lib.hid (HRes.out w3 (by rw [HNo.out]; exact hiy.out.step hj3 hk3))
      have HK3 := Lib.hid hk3
      have HYb := Lib.hid hyB
      have HBr : Hid (wb.heap.size ≤ Wr.heap.size) := Lib.hid (HJ.out.base _ _ HHi.out.j).size
      clear hj3 hk3 hy hR hjy hyB
      gi_wp2
      exact ⟨(keepsFrom_below _ HYb.out).trans (HK3.out.from _), (KqS.fresh HBr.out HYb.out).trans HK3.out.kq, HI3.out⟩
    | some tw =>
      obtain ⟨tb, tofs, hta, -, -⟩ := twinP_some HS2.out htw
      rw [hta] at HTw
      have HNo : Hid (goesF lt m = []) := Lib.hid (by rw [goesF, htw]; rfl)
      clear htw hta
      refine wpIn_region_class (Below Wr.heap.size Wr) (.round l) (by kernel_rfl) (by kernel_rfl) (by kernel_rfl) (below_drew _) ?_
      repeat (first | go_big_quiet_skip | (go_big_quiet_want; go_big_quiet_op; first | go_big_quiet_on | go_big_quiet_call ((first | (go_at_call 37; exact HTw.out _) | (go_at_call 38; exact HPl.out _)))))
      refine wpQuiet_nil ?_
      rintro _ ⟨y, rfl⟩
      have HYb := Lib.hid y.ok
      have HI3 := Lib.hid (HRes.out y.val (by rw [HNo.out, List.append_nil]; exact HHi.out.fresh HJ.out HYb.out))
      have HBr : Hid (wb.heap.size ≤ Wr.heap.size) := Lib.hid (HJ.out.base _ _ HHi.out.j).size
      gi_wp2
      exact ⟨keepsFrom_below _ HYb.out, KqS.fresh HBr.out HYb.out, HI3.out⟩
  case done =>
    intro D xs Wd0 hD hxs hi hK
    have hout : pre ++ xs.flatMap (fun x => goesF lt x.1.2.1) = pre ++ lf.reverse.flatMap (goesF lt) := by rw [← hxs, List.flatMap_map]
    rw [hout] at hi
    obtain ⟨P2, hP2⟩ : ∃ P, pre ++ lf.reverse.flatMap (goesF lt) = P := ⟨_, rfl⟩
    rw [hP2] at hi
    have HPp := Lib.hid hP2
    have HI2 := Lib.hid hi
    have HDf := Lib.hid hK
    have x2 : Wd0.cell? ⟨B2, 0, none⟩ = some (.slice ab lt.length cb) := hi.r2.cell 0
    obtain ⟨tn, htn⟩ : ∃ t, lt.length = t := ⟨_, rfl⟩
    have HTn := Lib.hid htn
    have htn2 : tn ≤ 1048576 := by rw [← htn]; exact HK2.out.sm.len
    clear hxs hi hK hout hP2 HI HBk
    rw [htn] at x2
    gi_wp2
    clear x2
    gi_loopw [36] (fun iv wr => ∃ k, k ≤ tn ∧ iv = .int .i64 k ∧ StI J lf lt m1 m2 B1 B2 W.heap.size l0 (.slice aa lf.length ca) (.slice ab lt.length cb) (P2 ++ (lt.take k).flatMap (comesF lf)) wr ∧ wr.heap[D]? = some (.deferred (some [])))
      (fun iv _ => tn - (RowKit.intOf iv).toNat)
    case atStart => exact ⟨0, Nat.zero_le _, rfl, by simpa using HI2.out, HDf.out⟩
    case round =>
      obtain ⟨k, hk, rfl, hik, hdk⟩ := hrel
      have HIk := Lib.hid hik
      have HDk := Lib.hid hdk
      have HBw : Hid (Below wb.heap.size wb wr) := Lib.hid (HJ.out.base _ _ hik.j)
      clear hik hdk HI2 HDf
      by_cases hlt : k < tn
      · obtain ⟨m, hm⟩ : ∃ x, lt[k]? = some x := ⟨_, List.getElem?_eq_getElem (by rw [HTn.out]; exact hlt)⟩
        have hmem := List.mem_of_getElem? hm
        have HX : Hid (lt.take (k + 1) = lt.take k ++ [m]) := Lib.hid (by rw [List.take_add_one, hm]; rfl)
        obtain ⟨vp, c0, c1, c2, c3, c4, hxv⟩ := RMb.stays _ _ (keeps_below HBw.out) _ _ _ (HCb.out k m hm)
        have HLn : Hid ((P2 ++ (lt.take k).flatMap (comesF lf)).length + 701 ≤ 1000000000) := Lib.hid (by
          have h1 := comes_len lf (lt.take k) (fun x hx => HK2.out.file x (List.mem_of_mem_take hx))
          have h2 : (lf.reverse.flatMap (goesF lt)).length ≤ lf.reverse.length := goes_len lt (fun x : Mb => x) lf.reverse
          have h3 := HK1.out.sm.len
          have h4 : (lt.take k).length ≤ k := by rw [List.length_take]; omega
          rw [List.length_reverse] at h2
          rw [List.length_append, ← HPp.out, List.length_append]
          omega)
        obtain ⟨ap, np, cp, rfl⟩ : ∃ a m' c, vp = .slice a m' c := by obtain ⟨a, b, o, c, h, _⟩ := hxv.pieces; exact ⟨_, _, _, h⟩
        have hpath := (HK2.out.sm.mb m hmem).path
        obtain ⟨vp', _, _, _, _, d4', hxv0⟩ := HCb.out k m hm
        have hvv : vp' = .slice ap np cp := by
          have := (keeps_below HBw.out) _ _ _ d4'
          rw [this] at c4
          cases c4
          rfl
        subst hvv
        obtain ⟨kn, g, fk, bk, hkk, hk4, q0, q1, q2, hg, hfk, hbk⟩ := rule_at (HR.out.keep (keeps_below HBw.out)) (HK2.out.kind m hmem)
        have HMem := Lib.hid hmem
        have HXv := Lib.hid hxv0
        have HKk := Lib.hid hkk
        have HFk := Lib.hid hfk
        have HBk2 := Lib.hid hbk
        have hkn : (kn : Int) < 4 := by omega
        have hkn0 : (0 : Int) ≤ kn := Int.natCast_nonneg _
        have k1 : (k : Int) < tn := by omega
        have k0 : (0 : Int) ≤ k := Int.natCast_nonneg _
        have ha2 := HAb.out (by rw [HTn.out]; omega)
        subst ha2
        rw [hkk] at c0
        clear hm hmem hxv hxv0 d4' hkk hg hfk hbk
        gi_wp2
        have HT7 : Hid (Row (wr.alloc (.cells #[.int .i64 kn, .string (bs m.path), .string (bs m.link), .int .i64 m.size, .slice ap np cp] 58)) wr.heap.size 58 [.int .i64 kn, .string (bs m.path), .string (bs m.link), .int .i64 m.size, .slice ap np cp]) := Lib.hid (Row.new wr 58 _)
        have HB7 : Hid (Below wr.heap.size wr (wr.alloc (.cells #[.int .i64 kn, .string (bs m.path), .string (bs m.link), .int .i64 m.size, .slice ap np cp] 58))) := Lib.hid (below_alloc1 _ _)
        obtain ⟨w7, hw7⟩ : ∃ w, wr.alloc (.cells #[.int .i64 kn, .string (bs m.path), .string (bs m.link), .int .i64 m.size, .slice ap np cp] 58) = w := ⟨_, rfl⟩
        obtain ⟨T7, hT7⟩ : ∃ w, wr.heap.size = w := ⟨_, rfl⟩
        have hz7 : w7.heap.size = T7 + 1 := by rw [← hw7, ← hT7, alloc_size]
        rw [hw7, hT7] at HT7
        rw [hw7] at HB7
        rw [hw7, hT7]
        have HZ7 := Lib.hid hz7
        have HT7e := Lib.hid hT7
        have hI7 := HIk.out.fresh HJ.out HB7.out
        have HI7 := Lib.hid hI7
        have HD7 : Hid (w7.heap[D]? = some (.deferred (some []))) := Lib.hid ((HB7.out.block D (Array.getElem?_eq_some_iff.1 HDk.out).1).trans HDk.out)
        have hkp := keeps_below HB7.out
        have R0 : RgS w7 B1 T7 kn [.slice aa lf.length ca, .map (some m1)] [.int .i64 kn, .string (bs m.path), .string (bs m.link), .int .i64 m.size, .slice ap np cp] [.int .i64 g, .func (.func fk) #[] #[], .bool bk] w7 := rgS (Lib.hid hI7.r1) HT7 (Lib.hid ⟨hkp _ _ _ q0, hkp _ _ _ q1, hkp _ _ _ q2⟩) (Below.refl _ _)
        clear c0 c1 c2 c3 c4 q0 q1 q2 hw7 hT7 hI7 hz7 hkp
        have HRa : Hid (Row w7 B1 47 [.slice aa lf.length ca, .map (some m1)]) := Lib.hid HI7.out.r1
        have HRc : Hid (w7.cell? ⟨0, kn * 3, none⟩ = some (.int .i64 g) ∧ w7.cell? ⟨0, kn * 3 + 1, none⟩ = some (.func (.func fk) #[] #[]) ∧ w7.cell? ⟨0, kn * 3 + 2, none⟩ = some (.bool bk)) := Lib.hid ⟨R0.2.2.2.2.2.2.2.1, R0.2.2.2.2.2.2.2.2.1, R0.2.2.2.2.2.2.2.2.2.1⟩
        have HTw : Hid (∀ y : World, Below w7.heap.size w7 y → Calls Tryz.prog 37 #[.agg #[.slice aa lf.length ca, .map (some m1)], .agg #[.int .i64 kn, .string (bs m.path), .string (bs m.link), .int .i64 m.size, .slice ap np cp]] y fun e w' => e = .returned (.pointer (twinP (.slice aa lf.length ca) lf m)) ∧ Below y.heap.size y w') := Lib.hid (fun y hy => by
          have h := call_treeTwin (.slice aa lf.length ca) lf m1 m (.slice ap np cp) y ⟨HS1.out.keep RMb.stays (keeps_below (below_then (HJ.out.base _ _ HI7.out.j) (HJ.out.base _ _ HI7.out.j).size hy)), HI7.out.t1.below hy⟩ HK1.out.sm hpath ⟨_, _, _, rfl⟩
          simp only [mbCells, HKk.out] at h
          exact h)
        clear R0
        gi_cut [8, 9] from 70 (fun v8 v9 wc => ∃ T9 : Nat, v8 = .pointer (twinP (.slice aa lf.length ca) lf m) ∧ v9 = .pointer (some ⟨T9, 0, none⟩) ∧ Row wc T9 88 [.int .i64 g, .func (.func fk) #[] #[], .bool bk] ∧ Below w7.heap.size w7 wc)
        case first =>
          refine wpIn_wide.2 ?_
          go_region_held3 (fun w' => RgS w7 B1 T7 kn [.slice aa lf.length ca, .map (some m1)] [.int .i64 kn, .string (bs m.path), .string (bs m.link), .int .i64 m.size, .slice ap np cp] [.int .i64 g, .func (.func fk) #[] #[], .bool bk] w')
            (first | exact rgS HRa HT7 HRc (below_drew _) | exact rgS HRa HT7 HRc HB1.out | exact rgS HRa HT7 HRc (below_then HB1.out HB1.out.size (below_alloc1 _ _)) | exact rgS HRa HT7 HRc (below_then (below_drew _) (Nat.le_refl _) (below_alloc1 _ _)) | exact rgS HRa HT7 HRc (((HB1.out.setCell (Nat.le_refl _) _).setCell (Nat.le_refl _) _).setCell (Nat.le_refl _) _))
            (first | (go_at_call 37; refine (HTw.out _ (RgS.b ‹_›)).mono ?_; rintro e w1 ⟨rfl, hb1⟩; have HB1 := Lib.hid (below_then (RgS.b ‹_›) (RgS.b ‹_›).size hb1); first | (have HN9 : Hid (Row w1 w7.heap.size 88 [.int .i64 0, .nilFunc, .bool false]) := Lib.hid ((Row.new w7.drew 88 [.int .i64 0, .nilFunc, .bool false]).below hb1 (Row.new _ _ _).lt); have z0 := HN9.out.cell 0; have z1 := HN9.out.cell 1; have z2 := HN9.out.cell 2; have y0 := HN9.out.free 0; have y1 := HN9.out.free 1; have y2 := HN9.out.free 2; clear hb1) | clear hb1))
          · go_wp2
            go_meet
            case rel => exact ⟨_, rfl, rfl, Row.new _ _ _, below_then HB1.out HB1.out.size (below_alloc1 _ _)⟩
          · go_wp2
            go_meet
            case rel => exact ⟨_, rfl, rfl, ((HN9.out.set 0 _).set 1 _).set 2 _, ((HB1.out.setCell (p := ⟨w7.heap.size, 0, none⟩) (Nat.le_refl _) _).setCell (p := ⟨w7.heap.size, 1, none⟩) (Nat.le_refl _) _).setCell (p := ⟨w7.heap.size, 2, none⟩) (Nat.le_refl _) _⟩
        case rest =>
          obtain ⟨T9, rfl, rfl, r9, hb9⟩ := hcut
          have HI9 := Lib.hid (HI7.out.fresh HJ.out hb9)
          have HD9 := Lib.hid ((hb9.block D (Array.getElem?_eq_some_iff.1 HD7.out).1).trans HD7.out)
          have HR9 := Lib.hid r9
          have HT9 := Lib.hid (HT7.out.below hb9 HT7.out.lt)
          clear r9 hb9 HTw HRa HRc HT7 HB7 HI7 HD7 HZ7 HT7e
          cases htw : twinF lf m with
          | none =>
            have HNo : Hid (comesF lf m = [comesSp m] ++ (if m.kind = 1 then changesF emptyMb m else [])) := Lib.hid (by rw [comesF, htw]; rfl)
            rw [twinP_no htw]
            clear htw
            gi_wp2
            have HE10 : Hid (Row (wc.alloc (.cells #[.int .i64 0, .string ⟨#[]⟩, .string ⟨#[]⟩, .int .i64 0, .slice none 0 0] 58)) wc.heap.size 58 [.int .i64 0, .string ⟨#[]⟩, .string ⟨#[]⟩, .int .i64 0, .slice none 0 0]) := Lib.hid (Row.new wc 58 _)
            have hb10 : Below wc.heap.size wc (wc.alloc (.cells #[.int .i64 0, .string ⟨#[]⟩, .string ⟨#[]⟩, .int .i64 0, .slice none 0 0] 58)) := below_alloc1 _ _
            obtain ⟨w10, hw10⟩ : ∃ w, wc.alloc (.cells #[.int .i64 0, .string ⟨#[]⟩, .string ⟨#[]⟩, .int .i64 0, .slice none 0 0] 58) = w := ⟨_, rfl⟩
            obtain ⟨E, hE⟩ : ∃ w, wc.heap.size = w := ⟨_, rfl⟩
            rw [hw10, hE] at HE10
            rw [hw10] at hb10
            rw [hw10, hE]
            clear hw10 hE
            have HI10 := Lib.hid (HI9.out.fresh HJ.out hb10)
            have HD10 : Hid (w10.heap[D]? = some (.deferred (some []))) := Lib.hid ((hb10.block D (Array.getElem?_eq_some_iff.1 HD9.out).1).trans HD9.out)
            have HR10 := Lib.hid (HR9.out.below hb10 HR9.out.lt)
            have HT10 := Lib.hid (HT9.out.below hb10 HT9.out.lt)
            clear hb10 HI9 HD9 HR9 HT9
            obtain ⟨sv, hsv⟩ : ∃ v, Value.agg (spCells (comesSp m) (.slice none 0 0)).toArray = v := ⟨_, rfl⟩
            have HSv := Lib.hid hsv
            clear hsv
            have k3 : ∀ y : Wd (Below w10.heap.size w10), y.val.cell? ⟨W.heap.size, 0, none⟩ = some (.func (.yield l0) #[] #[]) := fun y => (HI10.out.y.below y.ok HI10.out.y.lt).cell 0
            have d0 : ∀ y : Wd (Below w10.heap.size w10), y.val.cell? ⟨T7, 0, none⟩ = some (.int .i64 kn) := fun y => (HT10.out.below y.ok HT10.out.lt).cell 0
            have d1 : ∀ y : Wd (Below w10.heap.size w10), y.val.cell? ⟨T7, 1, none⟩ = some (.string (bs m.path)) := fun y => (HT10.out.below y.ok HT10.out.lt).cell 1
            have d2 : ∀ y : Wd (Below w10.heap.size w10), y.val.cell? ⟨T7, 2, none⟩ = some (.string (bs m.link)) := fun y => (HT10.out.below y.ok HT10.out.lt).cell 2
            have d3 : ∀ y : Wd (Below w10.heap.size w10), y.val.cell? ⟨T7, 3, none⟩ = some (.int .i64 m.size) := fun y => (HT10.out.below y.ok HT10.out.lt).cell 3
            have d4 : ∀ y : Wd (Below w10.heap.size w10), y.val.cell? ⟨T7, 4, none⟩ = some (.slice ap np cp) := fun y => (HT10.out.below y.ok HT10.out.lt).cell 4
            haveI : Nonempty (Wd (Below w10.heap.size w10)) := ⟨⟨_, Below.refl _ _⟩⟩
            rcases HK2.out.kind m HMem.out with hkd | hkd | hkd
            · have fk0 : fk = 140 := by have := HFk.out; simpa [hkd] using this
              subst fk0
              have bk0 : bk = true := by have := HBk2.out; simpa [hkd] using this
              subst bk0
              have HRu : Hid (∀ y : Wd (Below w10.heap.size w10), Calls Tryz.prog 140 #[.agg #[.int .i64 kn, .string (bs m.path), .string (bs m.link), .int .i64 m.size, .slice ap np cp]] y.val fun e w' => e = .returned sv ∧ ∃ z : Wd (Below w10.heap.size w10), w' = z.val) := Lib.hid (fun y => by
                have h := call_rule2 m (.slice ap np cp) y.val (HK2.out.sm.mb m HMem.out).path ⟨_, _, _, rfl⟩
                simp only [mbCells, HKk.out] at h
                refine h.mono fun e w' h => ⟨h.1.trans ?_, ⟨w', below_then y.ok y.ok.size h.2⟩, rfl⟩
                rw [← HSv.out]
                simp [comesSp, hkd])
              have b1 : ∀ y : Wd (Below w10.heap.size w10), y.val.cell? ⟨T9, 1, none⟩ = some (.func (.func 140) #[] #[]) := fun y => (HR10.out.below y.ok HR10.out.lt).cell 1
              refine wpIn_region_tail 5 (Below w10.heap.size w10) .wide (by kernel_rfl) (by kernel_rfl) (by kernel_rfl) (below_drew _) ?_
              simp only [List.take_succ_cons, List.take_zero, List.drop_succ_cons, List.drop_zero]
              repeat (first | go_big_quiet_skip | (go_big_quiet_want; go_big_quiet_op; first | go_big_quiet_on | go_big_quiet_call ((go_at_call 140; exact HRu.out _))))
              refine wpQuiet_nil ?_
              rintro _ ⟨y, rfl⟩
              have HIy := Lib.hid (HI10.out.fresh HJ.out y.ok)
              have HDy : Hid (y.val.heap[D]? = some (.deferred (some []))) := Lib.hid ((y.ok.block D (Array.getElem?_eq_some_iff.1 HD10.out).1).trans HD10.out)
              have HRy := Lib.hid (HR10.out.below y.ok HR10.out.lt)
              have HTy := Lib.hid (HT10.out.below y.ok HT10.out.lt)
              have HEy := Lib.hid (HE10.out.below y.ok HE10.out.lt)
              obtain ⟨fn, tmps, assign, body, hy, hR⟩ := HJ.out.yield _ (comesSp m) y.val HIy.out.j (by have := HLn.out; omega)
              rw [HSv.out] at hy
              gi_wp2
              refine (roundIn_wide' hR).mono ?_
              rintro e w11 ⟨rfl, hj3, hk3⟩
              have HIr := Lib.hid (HIy.out.step hj3 hk3)
              have HDr : Hid (w11.heap[D]? = some (.deferred (some []))) := Lib.hid (hk3.keep _ _ HDy.out (fun c T fz e => by cases e))
              have HRr := Lib.hid (hk3.row HRy.out (by decide) (by decide))
              have HTr := Lib.hid (hk3.row HTy.out (by decide) (by decide))
              have HEr := Lib.hid (hk3.row HEy.out (by decide) (by decide))
              clear hj3 hk3 hy hR b1 d0 d1 d2 d3 d4 k3
              gi_wp2
              have b2 : ∀ y : Wd (Below w11.heap.size w11), y.val.cell? ⟨T9, 2, none⟩ = some (.bool true) := fun y => (HRr.out.below y.ok HRr.out.lt).cell 2
              have d0 : ∀ y : Wd (Below w11.heap.size w11), y.val.cell? ⟨T7, 0, none⟩ = some (.int .i64 kn) := fun y => (HTr.out.below y.ok HTr.out.lt).cell 0
              have d1 : ∀ y : Wd (Below w11.heap.size w11), y.val.cell? ⟨T7, 1, none⟩ = some (.string (bs m.path)) := fun y => (HTr.out.below y.ok HTr.out.lt).cell 1
              have d2 : ∀ y : Wd (Below w11.heap.size w11), y.val.cell? ⟨T7, 2, none⟩ = some (.string (bs m.link)) := fun y => (HTr.out.below y.ok HTr.out.lt).cell 2
              have d3 : ∀ y : Wd (Below w11.heap.size w11), y.val.cell? ⟨T7, 3, none⟩ = some (.int .i64 m.size) := fun y => (HTr.out.below y.ok HTr.out.lt).cell 3
              have d4 : ∀ y : Wd (Below w11.heap.size w11), y.val.cell? ⟨T7, 4, none⟩ = some (.slice ap np cp) := fun y => (HTr.out.below y.ok HTr.out.lt).cell 4
              have k3 : ∀ y : Wd (Below w11.heap.size w11), y.val.cell? ⟨W.heap.size, 0, none⟩ = some (.func (.yield l0) #[] #[]) := fun y => (HIr.out.y.below y.ok HIr.out.y.lt).cell 0
              have e0 : ∀ y : Wd (Below w11.heap.size w11), y.val.cell? ⟨E, 0, none⟩ = some (.int .i64 0) := fun y => (HEr.out.below y.ok HEr.out.lt).cell 0
              have e1 : ∀ y : Wd (Below w11.heap.size w11), y.val.cell? ⟨E, 1, none⟩ = some (.string ⟨#[]⟩) := fun y => (HEr.out.below y.ok HEr.out.lt).cell 1
              have e2 : ∀ y : Wd (Below w11.heap.size w11), y.val.cell? ⟨E, 2, none⟩ = some (.string ⟨#[]⟩) := fun y => (HEr.out.below y.ok HEr.out.lt).cell 2
              have e3 : ∀ y : Wd (Below w11.heap.size w11), y.val.cell? ⟨E, 3, none⟩ = some (.int .i64 0) := fun y => (HEr.out.below y.ok HEr.out.lt).cell 3
              have e4 : ∀ y : Wd (Below w11.heap.size w11), y.val.cell? ⟨E, 4, none⟩ = some (.slice none 0 0) := fun y => (HEr.out.below y.ok HEr.out.lt).cell 4
              have HCh : Hid (∀ y : Wd (Below w11.heap.size w11), CallsIn Fence.wide n Tryz.prog 39 #[.agg #[.int .i64 0, .string ⟨#[]⟩, .string ⟨#[]⟩, .int .i64 0, .slice none 0 0], .agg #[.int .i64 kn, .string (bs m.path), .string (bs m.link), .int .i64 m.size, .slice ap np cp], .func (.yield l0) #[] #[]] y.val fun e W' => e = .returned (.bool true) ∧ J (P2 ++ (lt.take k).flatMap (comesF lf) ++ [comesSp m] ++ changesF emptyMb m) W' ∧ KpS wb.heap.size y.val W') := Lib.hid (fun y => by
                have h := call_changesK HJ.out emptyMb m (.slice none 0 0) (.slice ap np cp) _ y.val ⟨none, 0, 0, 0, rfl, fun h => (by cases h), fun j x h => (by cases h)⟩ HXv.out.pieces fileOk_empty (HK2.out.file m HMem.out) (HJ.out.fresh _ _ _ HIr.out.j y.ok) (by have := HLn.out; (try rw [List.length_append _ [comesSp m]]); (try simp only [List.length_append, List.length_cons, List.length_nil] at this ⊢); omega)
                simp only [mbCells, HKk.out] at h
                exact h)
              haveI : Nonempty (Wd (Below w11.heap.size w11)) := ⟨⟨_, Below.refl _ _⟩⟩
              refine wpIn_region_tail 8 (Below w11.heap.size w11) .wide (by kernel_rfl) (by kernel_rfl) (by kernel_rfl) (below_drew _) ?_
              simp only [List.take_succ_cons, List.take_zero, List.drop_succ_cons, List.drop_zero]
              repeat (first | go_big_quiet_skip | (go_big_quiet_want; go_big_quiet_op; first | go_big_quiet_on | go_big_quiet_call (fail)))
              refine wpQuiet_nil ?_
              rintro _ ⟨y, rfl⟩
              have HIy := Lib.hid (HIr.out.fresh HJ.out y.ok)
              have HDy : Hid (y.val.heap[D]? = some (.deferred (some []))) := Lib.hid ((y.ok.block D (Array.getElem?_eq_some_iff.1 HDr.out).1).trans HDr.out)
              gi_wp2
              refine ⟨trivial, (callsIn_wide.2 (callsIn_wide.1 (HCh.out y))).mono ?_⟩
              rintro e w3 ⟨rfl, hj3, hk3⟩
              have HIz := Lib.hid (HIy.out.step hj3 hk3)
              have HDz : Hid (w3.heap[D]? = some (.deferred (some []))) := Lib.hid (hk3.keep _ _ HDy.out (fun c T fz e => by cases e))
              clear b2 d0 d1 d2 d3 d4 k3 hj3 hk3
              gi_wp2
              go_roundw
              case rel => exact ⟨k + 1, by omega, by go_num, by rw [HX.out, List.flatMap_append, List.flatMap_cons, List.flatMap_nil, List.append_nil, HNo.out, if_pos hkd]; simpa only [List.append_nil, List.append_assoc] using HIz.out, HDz.out⟩
              case measure => simp [RowKit.intOf]; omega
            · have fk0 : fk = 139 := by have := HFk.out; simpa [hkd] using this
              subst fk0
              have bk0 : bk = false := by have := HBk2.out; simpa [hkd] using this
              subst bk0
              have HRu : Hid (∀ y : Wd (Below w10.heap.size w10), Calls Tryz.prog 139 #[.agg #[.int .i64 kn, .string (bs m.path), .string (bs m.link), .int .i64 m.size, .slice ap np cp]] y.val fun e w' => e = .returned sv ∧ ∃ z : Wd (Below w10.heap.size w10), w' = z.val) := Lib.hid (fun y => by
                have h := call_rule1 m (.slice ap np cp) y.val (HK2.out.sm.mb m HMem.out).path ⟨_, _, _, rfl⟩
                simp only [mbCells, HKk.out] at h
                refine h.mono fun e w' h => ⟨h.1.trans ?_, ⟨w', below_then y.ok y.ok.size h.2⟩, rfl⟩
                rw [← HSv.out]
                simp [comesSp, hkd])
              have b1 : ∀ y : Wd (Below w10.heap.size w10), y.val.cell? ⟨T9, 1, none⟩ = some (.func (.func 139) #[] #[]) := fun y => (HR10.out.below y.ok HR10.out.lt).cell 1
              refine wpIn_region_tail 5 (Below w10.heap.size w10) .wide (by kernel_rfl) (by kernel_rfl) (by kernel_rfl) (below_drew _) ?_
              simp only [List.take_succ_cons, List.take_zero, List.drop_succ_cons, List.drop_zero]
              repeat (first | go_big_quiet_skip | (go_big_quiet_want; go_big_quiet_op; first | go_big_quiet_on | go_big_quiet_call ((go_at_call 139; exact HRu.out _))))
              refine wpQuiet_nil ?_
              rintro _ ⟨y, rfl⟩
              have HIy := Lib.hid (HI10.out.fresh HJ.out y.ok)
              have HDy : Hid (y.val.heap[D]? = some (.deferred (some []))) := Lib.hid ((y.ok.block D (Array.getElem?_eq_some_iff.1 HD10.out).1).trans HD10.out)
              have HRy := Lib.hid (HR10.out.below y.ok HR10.out.lt)
              have HTy := Lib.hid (HT10.out.below y.ok HT10.out.lt)
              have HEy := Lib.hid (HE10.out.below y.ok HE10.out.lt)
              obtain ⟨fn, tmps, assign, body, hy, hR⟩ := HJ.out.yield _ (comesSp m) y.val HIy.out.j (by have := HLn.out; omega)
              rw [HSv.out] at hy
              gi_wp2
              refine (roundIn_wide' hR).mono ?_
              rintro e w11 ⟨rfl, hj3, hk3⟩
              have HIr := Lib.hid (HIy.out.step hj3 hk3)
              have HDr : Hid (w11.heap[D]? = some (.deferred (some []))) := Lib.hid (hk3.keep _ _ HDy.out (fun c T fz e => by cases e))
              have HRr := Lib.hid (hk3.row HRy.out (by decide) (by decide))
              have HTr := Lib.hid (hk3.row HTy.out (by decide) (by decide))
              have HEr := Lib.hid (hk3.row HEy.out (by decide) (by decide))
              clear hj3 hk3 hy hR b1 d0 d1 d2 d3 d4 k3
              gi_wp2
              have b2 : ∀ y : Wd (Below w11.heap.size w11), y.val.cell? ⟨T9, 2, none⟩ = some (.bool false) := fun y => (HRr.out.below y.ok HRr.out.lt).cell 2
              haveI : Nonempty (Wd (Below w11.heap.size w11)) := ⟨⟨_, Below.refl _ _⟩⟩
              refine wpIn_region_class (Below w11.heap.size w11) .wide (by kernel_rfl) (by kernel_rfl) (by kernel_rfl) (below_drew _) ?_
              repeat (first | go_big_quiet_skip | (go_big_quiet_want; go_big_quiet_op; first | go_big_quiet_on | go_big_quiet_call (fail)))
              refine wpQuiet_nil ?_
              rintro _ ⟨y, rfl⟩
              have HIz := Lib.hid (HIr.out.fresh HJ.out y.ok)
              have HDz : Hid (y.val.heap[D]? = some (.deferred (some []))) := Lib.hid ((y.ok.block D (Array.getElem?_eq_some_iff.1 HDr.out).1).trans HDr.out)
              clear b2
              gi_wp2
              go_roundw
              case rel => exact ⟨k + 1, by omega, by go_num, by rw [HX.out, List.flatMap_append, List.flatMap_cons, List.flatMap_nil, List.append_nil, HNo.out, if_neg (by rw [hkd]; decide)]; simpa only [List.append_nil, List.append_assoc] using HIz.out, HDz.out⟩
              case measure => simp [RowKit.intOf]; omega
            · have fk0 : fk = 141 := by have := HFk.out; simpa [hkd] using this
              subst fk0
              have bk0 : bk = false := by have := HBk2.out; simpa [hkd] using this
              subst bk0
              have HRu : Hid (∀ y : Wd (Below w10.heap.size w10), Calls Tryz.prog 141 #[.agg #[.int .i64 kn, .string (bs m.path), .string (bs m.link), .int .i64 m.size, .slice ap np cp]] y.val fun e w' => e = .returned sv ∧ ∃ z : Wd (Below w10.heap.size w10), w' = z.val) := Lib.hid (fun y => by
                have h := call_rule3 m (.slice ap np cp) y.val (HK2.out.sm.mb m HMem.out).path (HK2.out.sm.mb m HMem.out).link ⟨_, _, _, rfl⟩
                simp only [mbCells, HKk.out] at h
                refine h.mono fun e w' h => ⟨h.1.trans ?_, ⟨w', below_then y.ok y.ok.size h.2⟩, rfl⟩
                rw [← HSv.out]
                simp [comesSp, hkd])
              have b1 : ∀ y : Wd (Below w10.heap.size w10), y.val.cell? ⟨T9, 1, none⟩ = some (.func (.func 141) #[] #[]) := fun y => (HR10.out.below y.ok HR10.out.lt).cell 1
              refine wpIn_region_tail 5 (Below w10.heap.size w10) .wide (by kernel_rfl) (by kernel_rfl) (by kernel_rfl) (below_drew _) ?_
              simp only [List.take_succ_cons, List.take_zero, List.drop_succ_cons, List.drop_zero]
              repeat (first | go_big_quiet_skip | (go_big_quiet_want; go_big_quiet_op; first | go_big_quiet_on | go_big_quiet_call ((go_at_call 141; exact HRu.out _))))
              refine wpQuiet_nil ?_
              rintro _ ⟨y, rfl⟩
              have HIy := Lib.hid (HI10.out.fresh HJ.out y.ok)
              have HDy : Hid (y.val.heap[D]? = some (.deferred (some []))) := Lib.hid ((y.ok.block D (Array.getElem?_eq_some_iff.1 HD10.out).1).trans HD10.out)
              have HRy := Lib.hid (HR10.out.below y.ok HR10.out.lt)
              have HTy := Lib.hid (HT10.out.below y.ok HT10.out.lt)
              have HEy := Lib.hid (HE10.out.below y.ok HE10.out.lt)
              obtain ⟨fn, tmps, assign, body, hy, hR⟩ := HJ.out.yield _ (comesSp m) y.val HIy.out.j (by have := HLn.out; omega)
              rw [HSv.out] at hy
              gi_wp2
              refine (roundIn_wide' hR).mono ?_
              rintro e w11 ⟨rfl, hj3, hk3⟩
              have HIr := Lib.hid (HIy.out.step hj3 hk3)
              have HDr : Hid (w11.heap[D]? = some (.deferred (some []))) := Lib.hid (hk3.keep _ _ HDy.out (fun c T fz e => by cases e))
              have HRr := Lib.hid (hk3.row HRy.out (by decide) (by decide))
              have HTr := Lib.hid (hk3.row HTy.out (by decide) (by decide))
              have HEr := Lib.hid (hk3.row HEy.out (by decide) (by decide))
              clear hj3 hk3 hy hR b1 d0 d1 d2 d3 d4 k3
              gi_wp2
              have b2 : ∀ y : Wd (Below w11.heap.size w11), y.val.cell? ⟨T9, 2, none⟩ = some (.bool false) := fun y => (HRr.out.below y.ok HRr.out.lt).cell 2
              haveI : Nonempty (Wd (Below w11.heap.size w11)) := ⟨⟨_, Below.refl _ _⟩⟩
              refine wpIn_region_class (Below w11.heap.size w11) .wide (by kernel_rfl) (by kernel_rfl) (by kernel_rfl) (below_drew _) ?_
              repeat (first | go_big_quiet_skip | (go_big_quiet_want; go_big_quiet_op; first | go_big_quiet_on | go_big_quiet_call (fail)))
              refine wpQuiet_nil ?_
              rintro _ ⟨y, rfl⟩
              have HIz := Lib.hid (HIr.out.fresh HJ.out y.ok)
              have HDz : Hid (y.val.heap[D]? = some (.deferred (some []))) := Lib.hid ((y.ok.block D (Array.getElem?_eq_some_iff.1 HDr.out).1).trans HDr.out)
              clear b2
              gi_wp2
              go_roundw
              case rel => exact ⟨k + 1, by omega, by go_num, by rw [HX.out, List.flatMap_append, List.flatMap_cons, List.flatMap_nil, List.append_nil, HNo.out, if_neg (by rw [hkd]; decide)]; simpa only [List.append_nil, List.append_assoc] using HIz.out, HDz.out⟩
              case measure => simp [RowKit.intOf]; omega
          | some x =>
            obtain ⟨tb, tofs, hta, hxm, hxl⟩ := twinP_some HS1.out htw
            have HNo : Hid (comesF lf m = (if m.kind = 1 then changesF x m else [])) := Lib.hid (by rw [comesF, htw]; rfl)
            rw [hta]
            have HXm := Lib.hid hxm
            have HXl := Lib.hid hxl
            clear htw hta hxm hxl
            gi_wp2
            have HIr := HI9
            have HDr := HD9
            have HRr := HR9
            have HTr := HT9
            clear HI9 HD9 HR9 HT9
            by_cases hkd : m.kind = 1
            · have bk0 : bk = true := by have := HBk2.out; simpa [hkd] using this
              subst bk0
              have b2 : ∀ y : Wd (Below wc.heap.size wc), y.val.cell? ⟨T9, 2, none⟩ = some (.bool true) := fun y => (HRr.out.below y.ok HRr.out.lt).cell 2
              have d0 : ∀ y : Wd (Below wc.heap.size wc), y.val.cell? ⟨T7, 0, none⟩ = some (.int .i64 kn) := fun y => (HTr.out.below y.ok HTr.out.lt).cell 0
              have d1 : ∀ y : Wd (Below wc.heap.size wc), y.val.cell? ⟨T7, 1, none⟩ = some (.string (bs m.path)) := fun y => (HTr.out.below y.ok HTr.out.lt).cell 1
              have d2 : ∀ y : Wd (Below wc.heap.size wc), y.val.cell? ⟨T7, 2, none⟩ = some (.string (bs m.link)) := fun y => (HTr.out.below y.ok HTr.out.lt).cell 2
              have d3 : ∀ y : Wd (Below wc.heap.size wc), y.val.cell? ⟨T7, 3, none⟩ = some (.int .i64 m.size) := fun y => (HTr.out.below y.ok HTr.out.lt).cell 3
              have d4 : ∀ y : Wd (Below wc.heap.size wc), y.val.cell? ⟨T7, 4, none⟩ = some (.slice ap np cp) := fun y => (HTr.out.below y.ok HTr.out.lt).cell 4
              have k3 : ∀ y : Wd (Below wc.heap.size wc), y.val.cell? ⟨W.heap.size, 0, none⟩ = some (.func (.yield l0) #[] #[]) := fun y => (HIr.out.y.below y.ok HIr.out.y.lt).cell 0
              obtain ⟨vx, s0, s1, s2, s3, s4, hxx⟩ := RMb.stays _ _ (keeps_below (HJ.out.base _ _ HIr.out.j)) _ _ _ HXm.out
              obtain ⟨vx', _, _, _, _, s4', hxx0⟩ := HXm.out
              obtain rfl : vx' = vx := by
                have := (keeps_below (HJ.out.base _ _ HIr.out.j)) _ _ _ s4'
                rw [this] at s4
                cases s4
                rfl
              clear s4'
              have e0 : ∀ y : Wd (Below wc.heap.size wc), y.val.cell? ⟨tb, tofs, none⟩ = some (.int .i64 x.kind) := fun y => keeps_below y.ok _ _ _ s0
              have e1 : ∀ y : Wd (Below wc.heap.size wc), y.val.cell? ⟨tb, tofs + 1, none⟩ = some (.string (bs x.path)) := fun y => keeps_below y.ok _ _ _ s1
              have e2 : ∀ y : Wd (Below wc.heap.size wc), y.val.cell? ⟨tb, tofs + 2, none⟩ = some (.string (bs x.link)) := fun y => keeps_below y.ok _ _ _ s2
              have e3 : ∀ y : Wd (Below wc.heap.size wc), y.val.cell? ⟨tb, tofs + 3, none⟩ = some (.int .i64 x.size) := fun y => keeps_below y.ok _ _ _ s3
              have e4 : ∀ y : Wd (Below wc.heap.size wc), y.val.cell? ⟨tb, tofs + 4, none⟩ = some (vx') := fun y => keeps_below y.ok _ _ _ s4
              clear s0 s1 s2 s3 s4
              have HCh : Hid (∀ y : Wd (Below wc.heap.size wc), CallsIn Fence.wide n Tryz.prog 39 #[.agg #[.int .i64 x.kind, .string (bs x.path), .string (bs x.link), .int .i64 x.size, vx'], .agg #[.int .i64 kn, .string (bs m.path), .string (bs m.link), .int .i64 m.size, .slice ap np cp], .func (.yield l0) #[] #[]] y.val fun e W' => e = .returned (.bool true) ∧ J (P2 ++ (lt.take k).flatMap (comesF lf) ++ changesF x m) W' ∧ KpS wb.heap.size y.val W') := Lib.hid (fun y => by
                have h := call_changesK HJ.out x m vx' (.slice ap np cp) _ y.val hxx0.pieces HXv.out.pieces (HK1.out.file x HXl.out) (HK2.out.file m HMem.out) (HJ.out.fresh _ _ _ HIr.out.j y.ok) (by have := HLn.out; (try rw [List.length_append _ [comesSp m]]); (try simp only [List.length_append, List.length_cons, List.length_nil] at this ⊢); omega)
                simp only [mbCells, HKk.out] at h
                exact h)
              haveI : Nonempty (Wd (Below wc.heap.size wc)) := ⟨⟨_, Below.refl _ _⟩⟩
              refine wpIn_region_tail 8 (Below wc.heap.size wc) .wide (by kernel_rfl) (by kernel_rfl) (by kernel_rfl) (below_drew _) ?_
              simp only [List.take_succ_cons, List.take_zero, List.drop_succ_cons, List.drop_zero]
              repeat (first | go_big_quiet_skip | (go_big_quiet_want; go_big_quiet_op; first | go_big_quiet_on | go_big_quiet_call (fail)))
              refine wpQuiet_nil ?_
              rintro _ ⟨y, rfl⟩
              have HIy := Lib.hid (HIr.out.fresh HJ.out y.ok)
              have HDy : Hid (y.val.heap[D]? = some (.deferred (some []))) := Lib.hid ((y.ok.block D (Array.getElem?_eq_some_iff.1 HDr.out).1).trans HDr.out)
              gi_wp2
              refine ⟨trivial, (callsIn_wide.2 (callsIn_wide.1 (HCh.out y))).mono ?_⟩
              rintro e w3 ⟨rfl, hj3, hk3⟩
              have HIz := Lib.hid (HIy.out.step hj3 hk3)
              have HDz : Hid (w3.heap[D]? = some (.deferred (some []))) := Lib.hid (hk3.keep _ _ HDy.out (fun c T fz e => by cases e))
              clear b2 d0 d1 d2 d3 d4 k3 hj3 hk3
              gi_wp2
              go_roundw
              case rel => exact ⟨k + 1, by omega, by go_num, by rw [HX.out, List.flatMap_append, List.flatMap_cons, List.flatMap_nil, List.append_nil, HNo.out, if_pos hkd]; simpa only [List.append_nil, List.append_assoc] using HIz.out, HDz.out⟩
              case measure => simp [RowKit.intOf]; omega
            · have bk0 : bk = false := by have := HBk2.out; simpa [hkd] using this
              subst bk0
              have b2 : ∀ y : Wd (Below wc.heap.size wc), y.val.cell? ⟨T9, 2, none⟩ = some (.bool false) := fun y => (HRr.out.below y.ok HRr.out.lt).cell 2
              haveI : Nonempty (Wd (Below wc.heap.size wc)) := ⟨⟨_, Below.refl _ _⟩⟩
              refine wpIn_region_class (Below wc.heap.size wc) .wide (by kernel_rfl) (by kernel_rfl) (by kernel_rfl) (below_drew _) ?_
              repeat (first | go_big_quiet_skip | (go_big_quiet_want; go_big_quiet_op; first | go_big_quiet_on | go_big_quiet_call (fail)))
              refine wpQuiet_nil ?_
              rintro _ ⟨y, rfl⟩
              have HIz := Lib.hid (HIr.out.fresh HJ.out y.ok)
              have HDz : Hid (y.val.heap[D]? = some (.deferred (some []))) := Lib.hid ((y.ok.block D (Array.getElem?_eq_some_iff.1 HDr.out).1).trans HDr.out)
              clear b2
              gi_wp2
              go_roundw
              case rel => exact ⟨k + 1, by omega, by go_num, by rw [HX.out, List.flatMap_append, List.flatMap_cons, List.flatMap_nil, List.append_nil, HNo.out, if_neg hkd]; simpa only [List.append_nil, List.append_assoc] using HIz.out, HDz.out⟩
              case measure => simp [RowKit.intOf]; omega
      · obtain rfl : k = tn := by omega
        have hpl : P2 ++ (lt.take k).flatMap (comesF lf) = pre ++ planF lf lt := by rw [← HTn.out, List.take_length, ← HPp.out, planF, List.append_assoc]
        have HPl := Lib.hid hpl
        clear hpl hm1 hm2
        gi_wp2
        refine ⟨by simp, .inl ⟨_, _, rfl, run_takeDeferred HDk.out, ?_⟩⟩
        refine ⟨_, results_none rfl _ _ _, ⟨_, rfl⟩, ?_⟩
        rw [← HPl.out]
        exact HO.out _ _ _ (some D) HIk.out.j (grownBy_putObj' wr D _) (fun r e => by cases e; exact ⟨by rw [HZ0.out] at hD; omega, _, HDk.out, rfl⟩)
  case stop =>
    rintro D c pre' W' _ _ h _
    exact h.elim
end Go.Proofs.YtlecpjfggoehdaaGreatDoor.Ar

/- Ship: the plan. -/
set_option linter.unusedVariables false
set_option linter.unusedSimpArgs false
set_option maxRecDepth 100000
namespace Go.Proofs.YtlecpjfggoehdaaGreatDoor.Ar
open Go.RowKit Go.Sort Go.Lib Go.Proofs.YtlecpjfggoehdaaGreatDoor.Rs

/-- what Make answers of a list: the bytes, none where it refuses -/
def MkBS (l : List Mb) (B : List UInt8) (c : Int) : Prop := (goodB l = true ∧ B = makeB l ∧ c = 0) ∨ (goodB l = false ∧ B = [] ∧ c = 211)
theorem mkB_exS (l : List Mb) : ∃ B c, MkBS l B c := by
  cases h : goodB l with
  | true => exact ⟨_, _, .inl ⟨h, rfl, rfl⟩⟩
  | false => exact ⟨_, _, .inr ⟨h, rfl, rfl⟩⟩
theorem call_make2S (l : List Mb) (v : Value) (B : List UInt8) (c : Int) (w : World) (hk : MkBS l B c) (hs : Sl RMb 5 w v l) (hl : LsSm l) (hp : Stp w) (hm : MaxL w) :
    Calls Tryz.prog 10 #[v] w fun e w' => ∃ va, e = .returned (.tuple #[va, .int .i64 c]) ∧ Own w.heap.size w' va B ∧ Below w.heap.size w w' := by
  refine (call_make l v w hs hl hp hm).mono ?_
  intro e w' h
  rcases hk with ⟨hg, rfl, rfl⟩ | ⟨hg, rfl, rfl⟩
  · rw [MakePost.good hg] at h
    obtain ⟨⟨v', rfl, ho⟩, hb⟩ := h
    exact ⟨v', rfl, ho, hb⟩
  · rw [MakePost.bad hg] at h
    obtain ⟨rfl, hb⟩ := h
    exact ⟨_, rfl, World.ownsRow_nil _ _ _ _, hb⟩
/-- what Open answers of those bytes -/
def OpB2S (l : List Mb) (B : List UInt8) (M : List Mb) (c : Int) : Prop := (goodB l = true ∧ B = makeB l ∧ M = l ∧ c = 0) ∨ ((pOpen B = none ∧ B.length ≤ 1048576) ∧ M = [] ∧ c = 210)
theorem opB_exS {l : List Mb} {B : List UInt8} {c : Int} (h : MkBS l B c) : ∃ M c', OpB2S l B M c' := by
  rcases h with ⟨hg, rfl, rfl⟩ | ⟨hg, rfl, rfl⟩
  · exact ⟨_, _, .inl ⟨hg, rfl, rfl, rfl⟩⟩
  · exact ⟨_, _, .inr ⟨⟨pOpen_short (by simp), by simp⟩, rfl, rfl⟩⟩
theorem call_open2S (l : List Mb) (vb : Value) (B : List UInt8) (M : List Mb) (c : Int) (w : World) (hk : OpB2S l B M c) (hl : LsSm l) (hs : Sl RByte 1 w vb B) (hc : ∀ a n c, vb = .slice a n c → n ≤ c) (hp : Stp w) (hm : MaxL w) :
    Calls Tryz.prog 15 #[vb] w fun e w' => ∃ v L, e = .returned (.tuple #[v, .int .i64 c]) ∧ MemS w.heap.size w' v M L ∧ Below w.heap.size w w' := by
  rcases hk with ⟨hg, rfl, rfl, rfl⟩ | ⟨⟨hpn, hbl⟩, rfl, rfl⟩
  · refine (call_open vb _ w hs (makeB_len13 hg hl) hc hp hm (make_hsm0 hg hl)).mono ?_
    intro e w' h
    rw [OpenPost.some_iff (back hg hl.mb)] at h
    obtain ⟨hb, v, L, rfl, hm⟩ := h
    exact ⟨v, L, rfl, hm, hb⟩
  · refine (call_open vb B w hs (by omega) hc hp hm (open_sm hbl)).mono ?_
    intro e w' h
    rw [OpenPost.none_iff hpn] at h
    obtain ⟨hb, rfl⟩ := h
    exact ⟨_, [], rfl, ⟨World.ownsRow_nil _ _ _ _, rfl, by simp, List.Pairwise.nil⟩, hb⟩
theorem opB_smS {l : List Mb} {B : List UInt8} {M : List Mb} {c : Int} (h : OpB2S l B M c) (hl : LsSm l) : LsSm M := by
  rcases h with ⟨_, _, rfl, _⟩ | ⟨_, rfl, _⟩
  · exact hl
  · exact ⟨by simp, by simp⟩
theorem opB_mbRS {l : List Mb} {B : List UInt8} {M : List Mb} {c : Int} {w : World} {v : Value} (h : OpB2S l B M c) (hv : Sl RMb 5 w v l) (hs : LsSm l) : ∀ m ∈ M, MbR m := by
  rcases h with ⟨_, _, rfl, _⟩ | ⟨_, rfl, _⟩
  · exact mbR_of hv hs
  · simp
/-- what a round that never stops leaves -/
def planQ (bx : Nat) (I : List Sp → World → Prop) (out : List Sp) (W : World) : Exit → Act → World → Prop
  | .normal, _, W' => I out W' ∧ KpS bx W W'
  | _, _, _ => False

set_option maxHeartbeats 2000000 in
theorem wpIn_range_steps {ps : Array Tmp} {assign body : Code} {Q : Exit → Act → World → Prop} {a : Act} {g : Operand} {wb W0 : World} {n B1 B2 m1 m2 : Nat} {v1 v2 : Value} {lf lt : List Mb} (h1n : 1 ≤ n) (h1n1 : 1 ≤ n - 1)
    (hg : a.eval g = .func (.func 35) #[] #[.pointer (some ⟨B1, 0, none⟩), .pointer (some ⟨B2, 0, none⟩)]) (hps : ps.size = 1)
    (hs1 : Sl RMb 5 wb v1 lf) (hs2 : Sl RMb 5 wb v2 lt) (ok1 : LsOk lf) (ok2 : LsOk lt) (hr : RulesTab wb) (ht1 : MapO W0 m1 lf.length (idxF lf lf.length)) (ht2 : MapO W0 m2 lt.length (idxF lt lt.length))
    (r1 : Row W0 B1 47 [v1, .map (some m1)]) (r2 : Row W0 B2 47 [v2, .map (some m2)])
    (I : List Sp → World → Prop) (hIb : ∀ pre W, I pre W → Below wb.heap.size wb W) (hIf : ∀ pre W W', I pre W → Below W.heap.size W W' → I pre W') (hIo : OwnFrom W0.heap.size I) (h0 : I [] W0)
    (a₁ : Value → Nat → Act)
    (hassign : ∀ (l : Nat) (s : Sp) (W : World) (K : Act → World → Prop), K (a₁ (.agg (spCells s (.slice none 0 0)).toArray) W.heap.size) (W.alloc (.cells (spCells s (.slice none 0 0)).toArray 38)) →
      assign.wpIn (Fence.wide.inRound l) (n - 1 - 1) Tryz.prog (Exit.then K (fun _ _ _ => False)) { tmps := (ps.zip #[.agg (spCells s (.slice none 0 0)).toArray]).foldl (fun t (p, v) => t.setIfInBounds p v) a.tmps, defers := [] } W)
    (hbody : ∀ (l : Nat) (pre : List Sp) (s : Sp) (S : Nat) (W : World), I pre W → pre.length < 1000000000 → Row W S 38 (spCells s (.slice none 0 0)) → wb.heap.size ≤ S →
      body.wpIn (Fence.wide.inRound l) (n - 1 - 1) Tryz.prog (planQ wb.heap.size I (pre ++ [s]) W) (a₁ (.agg (spCells s (.slice none 0 0)).toArray) S) W)
    (hdone : ∀ (D : Nat) (W : World), W0.heap.size ≤ D → I (planF lf lt) W → W.heap[D]? = some (.deferred (some [])) → Q .normal { a with defers := { target := .collected D, args := #[] } :: a.defers } W) :
    (Code.rangeFunc g ps assign body).wpIn Fence.wide n Tryz.prog Q a W0 := by
  refine wpIn_rangeFunc ?_
  intro fn hfn
  obtain ⟨rec, hrec⟩ : ∃ rec : LoopState → Option Code → Loop, rec = fun st pe => { state := st, pending := pe, fn, tmps := a.tmps, params := ps, assign, body, defers := W0.heap.size } := ⟨_, rfl⟩
  obtain ⟨W1, hW1⟩ : ∃ W1, (W0.alloc (.deferred (some []))).alloc (.loop (rec .ready none)) = W1 := ⟨_, rfl⟩
  have hL1 : W1.heap[W0.heap.size + 1]? = some (.loop (rec .ready none)) := by
    rw [← hW1]; have := World.alloc_heap_new (W0.alloc (.deferred (some []))) (.loop (rec .ready none)); rwa [World.size_alloc] at this
  have hK1 : W1.heap[W0.heap.size]? = some (.deferred (some [])) := by
    rw [← hW1]; exact (Below.heap_alloc _ _ _ (by simp)).trans (World.alloc_heap_new W0 _)
  have hb1 : Below W0.heap.size W0 W1 := by rw [← hW1]; exact below_alloc2 W0 _ _
  have hz1 : W1.heap.size = W0.heap.size + 2 := by rw [← hW1, alloc_size, alloc_size]
  have hI1 : I [] W1 := hIf _ _ _ h0 hb1
  refine ⟨W0.heap.size + 1, [{ target := .collected W0.heap.size, args := #[] }], W1, { target := .fn (.func 35) #[.pointer (some ⟨B1, 0, none⟩), .pointer (some ⟨B2, 0, none⟩)], args := #[.func (.yield (W0.heap.size + 1)) #[] #[]] }, W1, 35,
    #[.func (.yield (W0.heap.size + 1)) #[] #[]] ++ #[.pointer (some ⟨B1, 0, none⟩), .pointer (some ⟨B2, 0, none⟩)], W1, ?_, ?_, ?_, ?_, fun _ => h1n, ?_⟩
  · rw [← hW1, hrec]; exact run_enterLoop_outer _ _ _ _ _
  · simp only [resolve, hg]
    simp [go_sem]
  · intro f' hf'; trivial
  · simp [invoke, go_sem, enters_of Tryz.func35 (by kernel_rfl) rfl]
  · refine (call_stepsIn wb (W0.heap.size + 1) (n - 1) W1.heap.size
      (fun pre W => I pre W ∧ W.heap[W0.heap.size + 1]? = some (.loop (rec .ready none)) ∧ W.heap[W0.heap.size]? = some (.deferred (some [])))
      ⟨fun pre W h => hIb _ _ h.1, fun pre W W' h hb => ⟨hIf _ _ _ h.1 hb, (hb.block _ (Array.getElem?_eq_some_iff.1 h.2.1).1).trans h.2.1, (hb.block _ (Array.getElem?_eq_some_iff.1 h.2.2).1).trans h.2.2⟩, ?_⟩
      (fun pre A B row h hg' hr' => ⟨hIo _ _ _ _ h.1 hg' (fun r e => ⟨by have := (hr' r e).1; omega, (hr' r e).2⟩), (hg'.block _ (Array.getElem?_eq_some_iff.1 h.2.1).1 (fun e => by have := (hr' _ e.symm).1; omega)).trans h.2.1,
        (hg'.block _ (Array.getElem?_eq_some_iff.1 h.2.2).1 (fun e => by have := (hr' _ e.symm).1; omega)).trans h.2.2⟩)
      h1n1 v1 v2 lf lt m1 m2 B1 B2 [] W1 hs1 hs2 ok1 ok2 hr (ht1.below hb1) (ht2.below hb1) (r1.below hb1 r1.lt) (r2.below hb1 r2.lt) (Nat.le_refl _) ⟨hI1, hL1, hK1⟩ (by simp)).mono ?_
    · rintro pre s W ⟨h, hl, hd⟩ hlen
      have hy := run_yield (P := Tryz.prog) (args := #[.agg (spCells s (.slice none 0 0)).toArray]) hl (by rw [hrec]; simp [hps])
      rw [hrec] at hy
      refine ⟨fn, _, assign, body, hy, roundIn_of_wpIn hfn (hassign _ s W _ ?_)⟩
      have hfr := below_alloc1 W (.cells (spCells s (.slice none 0 0)).toArray 38)
      have hx0 := hIf _ _ _ h hfr
      have hl0 := (hfr.block _ (Array.getElem?_eq_some_iff.1 hl).1).trans hl
      have hd0 := (hfr.block _ (Array.getElem?_eq_some_iff.1 hd).1).trans hd
      have hM0 := Row.new W 38 (spCells s (.slice none 0 0))
      have hwb := (hIb _ _ h).size
      have hk0 : KpS wb.heap.size W (W.alloc (.cells (spCells s (.slice none 0 0)).toArray 38)) := KpS.fresh hwb hfr
      generalize (W.alloc (.cells (spCells s (.slice none 0 0)).toArray 38)) = Wc at hx0 hl0 hd0 hM0 hk0 ⊢
      refine ⟨_, run_beginRound hl0 (by rw [hrec]), ?_⟩
      have hlt := (Array.getElem?_eq_some_iff.1 hl0).1
      have hl2 : (Wc.putObj (W0.heap.size + 1) (.loop { rec .ready none with state := .busy })).heap[W0.heap.size + 1]? = some (.loop { rec .ready none with state := .busy }) := World.putObj_heap_same hlt
      have hd2 : (Wc.putObj (W0.heap.size + 1) (.loop { rec .ready none with state := .busy })).heap[W0.heap.size]? = some (.deferred (some [])) := (World.putObj_heap_other (by omega)).trans hd0
      have hx2 := hIo.putObj (.loop { rec .ready none with state := .busy }) hx0 (by omega) hl0 rfl
      have hM2 : Row (Wc.putObj (W0.heap.size + 1) (.loop { rec .ready none with state := .busy })) W.heap.size 38 (spCells s (.slice none 0 0)) := by
        have hne : W.heap.size ≠ W0.heap.size + 1 := by have := (Array.getElem?_eq_some_iff.1 hl).1; omega
        exact (World.putObj_heap_other hne).trans hM0
      have hwb0 : wb.heap.size ≤ W0.heap.size := (hIb _ _ h0).size
      have hbu := belowK_b (n₀ := wb.heap.size) (w := W0) hwb0 Wc (W0.heap.size + 1) (.loop (rec .ready none)) (.loop { rec .ready none with state := .busy }) (by omega) hl0 rfl rfl
      refine wpIn_mono (hbody _ pre s _ _ hx2 hlen hM2 hwb) ?_
      rintro e a3 W3 hq3
      cases e with
      | normal =>
        obtain ⟨hi3, hk3⟩ := hq3
        have hl3 := hk3.keep _ _ hl2 (fun c T fz e => by cases e)
        have hd3 := hk3.keep _ _ hd2 (fun c T fz e => by cases e)
        have he := run_endRound (P := Tryz.prog) none hl3
        rw [hrec] at he
        refine ⟨_, _, he, rfl, ⟨hIo.putObj _ hi3 (by omega) hl3 rfl, ?_, (World.putObj_heap_other (by omega)).trans hd3⟩, ?_⟩
        · rw [hrec]
          exact World.putObj_heap_same (Array.getElem?_eq_some_iff.1 hl3).1
        · refine ⟨hk0.below.trans (hbu.trans (hk3.below.trans ?_)), ?_, fun b o ho hn => ?_⟩
          · exact belowK_b (w := W0) hwb0 W3 (W0.heap.size + 1) _ _ (by omega) hl3 rfl rfl
          · refine Nat.le_trans hk0.size ?_
            have h5 := hk3.size
            simp only [World.putObj, Array.size_setIfInBounds] at h5 ⊢
            exact h5
          · by_cases e : b = W0.heap.size + 1
            · subst e
              rw [hl] at ho
              cases ho
              rw [hrec]
              exact World.putObj_heap_same (Array.getElem?_eq_some_iff.1 hl3).1
            · refine (World.putObj_heap_other e).trans (hk3.keep _ _ ((World.putObj_heap_other e).trans (hk0.keep _ _ ho hn)) hn)
      | panic ch => exact hq3.elim
      | exit id => exact hq3.elim
      | goto t => exact hq3.elim
      | ret => exact hq3.elim
      | outgrown => exact hq3.elim
    · rintro e W2 ⟨⟨v, rfl⟩, hi, hl, hk⟩
      exact ⟨none, _, by have := run_endLoop (P := Tryz.prog) hl (by rw [hrec]; simp); rw [hrec] at this; exact this, hdone _ _ (Nat.le_refl _) (hIo.putObj _ (by simpa using hi) (by omega) hl rfl) ((World.putObj_heap_other (by omega)).trans hk)⟩
theorem pieces_rise {size : Int} : ∀ (L : List Pc) (next : Int), piecesOk size next L = true → (∀ p ∈ L, next ≤ p.off ∧ p.off < size) ∧ ∀ (i j : Nat) (p q : Pc), i < j → L[i]? = some p → L[j]? = some q → p.off < q.off
  | [], _, _ => ⟨fun p hp => (by cases hp), fun i j p q _ hp => (by simp at hp)⟩
  | x :: L, next, h => by
    rw [piecesOk_cons, Bool.and_eq_true, pcOk] at h
    simp only [Bool.and_eq_true, decide_eq_true_eq] at h
    obtain ⟨⟨⟨⟨⟨h1, h2⟩, _⟩, _⟩, _⟩, h3⟩ := h
    obtain ⟨ih1, ih2⟩ := pieces_rise L (x.off + 512) h3
    refine ⟨fun p hp => ?_, fun i j p q hij hp hq => ?_⟩
    · rcases List.mem_cons.1 hp with rfl | hp
      · exact ⟨h1, h2⟩
      · have := ih1 p hp
        omega
    · cases j with
      | zero => omega
      | succ j =>
        rw [List.getElem?_cons_succ] at hq
        cases i with
        | zero =>
          rw [List.getElem?_cons_zero] at hp
          cases hp
          have := ih1 q (List.mem_of_getElem? hq)
          omega
        | succ i => exact ih2 i j p q (by omega) (by simpa using hp) hq
/-- what a good list's members are -/
theorem good_ok {l : List Mb} (hg : goodB l = true) (hl : LsSm l) : LsOk l := by
  have key : ∀ m ∈ l, (m.kind = 1 ∨ m.kind = 2 ∨ m.kind = 3) ∧ 0 ≤ m.size ∧ m.size ≤ 262144 ∧ piecesOk m.size 0 m.pieces = true := fun m hm => by
    have hp := hg
    rw [← pGood_eq] at hp
    obtain ⟨j, hj, rfl⟩ := List.mem_iff_getElem.1 hm
    have ha := (pGood_iff.1 hp).2 j _ (List.getElem?_eq_getElem hj)
    rw [addAt, addOk] at ha
    split at ha
    · cases ha
    · rw [Bool.and_eq_true, Bool.and_eq_true] at ha
      have hk := ha.2.2
      rw [kindOkP] at hk
      generalize l[j] = m at *
      have hb : bareB m = true → m.size = 0 ∧ m.pieces = [] := fun h => by
        rw [bareB, Bool.and_eq_true, decide_eq_true_eq] at h
        exact ⟨h.1, List.isEmpty_iff.1 h.2⟩
      split at hk
      · rename_i h
        rw [Bool.and_eq_true] at hk
        obtain ⟨b1, b2⟩ := hb hk.1
        exact ⟨.inr (.inl h), by omega, by omega, by rw [b2]; rfl⟩
      · split at hk
        · rename_i h
          rw [Bool.and_eq_true, piecesB, Bool.and_eq_true, Bool.and_eq_true, decide_eq_true_eq, decide_eq_true_eq] at hk
          obtain ⟨_, ⟨g1, g2⟩, g3⟩ := hk
          exact ⟨.inl h, g1, g2, g3⟩
        · split at hk
          · rename_i h
            rw [linkOkP, Bool.and_eq_true] at hk
            obtain ⟨b1, b2⟩ := hb hk.1
            exact ⟨.inr (.inr h), by omega, by omega, by rw [b2]; rfl⟩
          · cases hk
  refine ⟨hl, fun m hm => (key m hm).1, fun m hm => ?_⟩
  obtain ⟨-, h1, h2, h3⟩ := key m hm
  obtain ⟨h4, h5⟩ := pieces_rise _ _ h3
  have hs := hl.mb m hm
  exact ⟨h1, h2, hs.path, hs.link, hs.pieces, hs.data, fun p hp => by have := h4 p hp; omega, h5⟩
def planC (c1 c2 : Int) : Int := if c1 ≠ 0 then 230 else if c2 ≠ 0 then 231 else 0
def planL (c1 c2 : Int) (a b : List Mb) : List Sp := if c1 ≠ 0 then [] else if c2 ≠ 0 then [] else planF a b
/-- a list of steps that only its holder knows -/
def PlS (base : Nat) (w : World) (v : Value) (l : List Sp) : Prop := w.ownsRow base 38 7 v l.length (svCells (l.map fun s => (s, .slice none 0 0)))
theorem PlS.nil (base : Nat) (w : World) : PlS base w (.slice none 0 0) [] := World.ownsRow_nil _ _ _ _
theorem own_low {w : World} {base base' e size n : Nat} {v : Value} {xs : List Value} (h : w.ownsRow base e size v n xs) (hb : base' ≤ base) : w.ownsRow base' e size v n xs := by
  refine ⟨h.1, ?_⟩
  rcases h.2 with h3 | ⟨g3, c3, u3, e3, b3, r3⟩
  · exact .inl h3
  · exact .inr ⟨g3, c3, u3, e3, Nat.le_trans hb b3, r3⟩
def PlI (wb : World) (pre : List Sp) (W : World) : Prop := ∃ v, Row W wb.heap.size 24 [v] ∧ PlS wb.heap.size W v pre ∧ Below wb.heap.size wb W
theorem PlI.fresh {wb W W' : World} {pre : List Sp} (h : PlI wb pre W) (hb : Below W.heap.size W W') : PlI wb pre W' := by
  obtain ⟨v, h1, h2, h3⟩ := h
  exact ⟨v, h1.below hb h1.lt, own_below h2 hb, below_then h3 h3.size hb⟩
theorem PlI.own {wb : World} {n0 : Nat} (hn : wb.heap.size ≤ n0) : OwnFrom n0 (PlI wb) := fun pre A B row hs hg hr => by
  obtain ⟨v, h1, h2, h3⟩ := hs
  refine ⟨v, Row.turn h1 hg (fun r e => (hr r e).2), own_keep h2 (fun g e => hg.block g (h2.lt g e).2 (fun e' => ?_)), h3.grown hg (by have := h1.lt; omega) (fun r e => by have := (hr r e).1; omega)⟩
  obtain ⟨o, ho, hc⟩ := (hr g e'.symm).2
  obtain ⟨cur, hcur⟩ := row_of_own h2 e
  have hcur' : A.heap[g]? = some (.cells cur.toArray 38 (0, 0)) := hcur
  rw [hcur'] at ho
  cases ho
  cases hc
attribute [local go_sem] Oper.semAt_some
set_option maxHeartbeats 8000000 in
theorem call_plan (l1 l2 : List Mb) (va vb : Value) (D1 D2 : List UInt8) (M1 M2 : List Mb) (c1 c2 : Int) (w : World) (hk1 : OpB2S l1 D1 M1 c1) (hk2 : OpB2S l2 D2 M2 c2) (hl1 : LsSm l1) (hl2 : LsSm l2)
    (hs1 : Sl RByte 1 w va D1) (hs2 : Sl RByte 1 w vb D2) (hc1 : ∀ a n c, va = .slice a n c → n ≤ c) (hc2 : ∀ a n c, vb = .slice a n c → n ≤ c) (hp : Stp w) (hm : MaxL w) (hr : RulesTab w) (hR1 : ∀ m ∈ M1, MbR m) (hR2 : ∀ m ∈ M2, MbR m) :
    Calls Tryz.prog 7 #[va, vb] w fun e w' => ∃ v, e = .returned (.tuple #[v, .int .i64 (planC c1 c2)]) ∧ PlS w.heap.size w' v (planL c1 c2 M1 M2) ∧ Below w.heap.size w w' := by
  refine callsIn_wide (n := 9).1 ?_
  have hdep : ∀ m, Fence.wide.depth.isSome = true → 1 ≤ m := fun m h => by cases h
  have HK1 := Lib.hid hk1
  have HK2 := Lib.hid hk2
  have HL1 := Lib.hid hl1
  have HL2 := Lib.hid hl2
  have HS1 := Lib.hid hs1
  have HS2 := Lib.hid hs2
  have HC1 := Lib.hid hc1
  have HC2 := Lib.hid hc2
  have HP := Lib.hid hp
  have HM := Lib.hid hm
  have HR := Lib.hid hr
  have HR1 := Lib.hid hR1
  have HR2 := Lib.hid hR2
  have hcc : (c1 = 0 ∨ c1 = 210) ∧ (c2 = 0 ∨ c2 = 210) := by
    refine ⟨?_, ?_⟩
    · rcases hk1 with ⟨_, _, _, h⟩ | ⟨_, _, h⟩ <;> omega
    · rcases hk2 with ⟨_, _, _, h⟩ | ⟨_, _, h⟩ <;> omega
  obtain ⟨⟨aa, ba, oa, ca, rfl, -, -⟩, ⟨ab, bb, ob, cb, rfl, -, -⟩⟩ := And.intro hs1 hs2
  clear hk1 hk2 hl1 hl2 hs1 hs2 hc1 hc2 hp hm hr hR1 hR2
  refine callsIn_of_wp_marks Tryz.func7 rfl trivial ?_ rfl
  simp only [Tryz.ntmps7, List.size_toArray, List.length_cons, List.length_nil, Nat.reduceAdd, Nat.reduceSub, Array.replicate_succ, Array.replicate_zero, List.push_toArray, List.append_toArray, List.nil_append, List.cons_append]
  gi_wp2
  refine ⟨trivial, (callsIn_wide.2 (call_open2S l1 _ D1 M1 c1 _ HK1.out HL1.out HS1.out HC1.out HP.out HM.out)).mono ?_⟩
  rintro e w1 ⟨v1, L1, rfl, hm1, hb1⟩
  have HM1 := Lib.hid hm1
  have HB1 := Lib.hid hb1
  have hc1 := hcc.1
  have hc2 := hcc.2
  obtain ⟨a1, n1, k1, rfl⟩ := own_isSl hm1.own
  clear hm1 hb1 hcc
  rcases hc1 with rfl | rfl
  rotate_left
  · gi_wp2
    refine ⟨.tuple #[.slice none 0 0, .int .i64 230], by simp [results, Tryz.results7, go_sem], ⟨_, rfl, ?_, HB1.out⟩⟩
    exact PlS.nil _ _
  · gi_wp2
    refine ⟨trivial, (callsIn_wide.2 (call_open2S l2 _ D2 M2 c2 _ HK2.out HL2.out (HS2.out.keep RByte.stays (keeps_below HB1.out)) HC2.out (HP.out.below HB1.out) (HM.out.below HB1.out))).mono ?_⟩
    rintro e w2 ⟨v2, L2, rfl, hm2, hb2⟩
    have HM2 := Lib.hid hm2
    have HB2 := Lib.hid hb2
    obtain ⟨a2, n2, k2, rfl⟩ := own_isSl hm2.own
    clear hm2 hb2
    rcases hc2 with rfl | rfl
    rotate_left
    · gi_wp2
      refine ⟨.tuple #[.slice none 0 0, .int .i64 231], by simp [results, Tryz.results7, go_sem], ⟨_, rfl, ?_, HB1.out.trans (HB2.out.mono HB1.out.size)⟩⟩
      exact PlS.nil _ _
    · have hz1 : LsOk M1 := by
        rcases HK1.out with ⟨h, _, rfl, _⟩ | ⟨_, _, h⟩
        · exact good_ok h HL1.out
        · omega
      have hz2 : LsOk M2 := by
        rcases HK2.out with ⟨h, _, rfl, _⟩ | ⟨_, _, h⟩
        · exact good_ok h HL2.out
        · omega
      have HO1 := Lib.hid hz1
      have HO2 := Lib.hid hz2
      have hsl1 := (HM1.out.mb HR1.out).keep RMb.stays (keeps_below HB2.out)
      have hsl2 := HM2.out.mb HR2.out
      have HSa := Lib.hid hsl1
      have HSb := Lib.hid hsl2
      clear hz1 hz2 hsl1 hsl2
      gi_wp2
      have HBx := Lib.hid (below_alloc1 w2 (.cells #[.slice none 0 0] 24))
      refine ⟨trivial, (callsIn_wide.2 (call_newTree _ M1 _ (HSa.out.keep RMb.stays (keeps_below HBx.out)) HO1.out.sm)).mono ?_⟩
      rintro e w3 ⟨m1, rfl, ht1, hm1, hb3⟩
      have HT1 := Lib.hid ht1
      have HB3 := Lib.hid (hb3 : Below (w2.alloc (.cells #[.slice none 0 0] 24)).heap.size (w2.alloc (.cells #[.slice none 0 0] 24)) w3)
      clear ht1 hm1 hb3
      gi_wp2
      refine ⟨trivial, (callsIn_wide.2 (call_newTree _ M2 _ (HSb.out.keep RMb.stays (keeps_below (below_then HBx.out HBx.out.size HB3.out))) HO2.out.sm)).mono ?_⟩
      rintro e w4 ⟨m2, rfl, ht2, hm2, hb4⟩
      have HT2 := Lib.hid ht2
      have HB4 := Lib.hid hb4
      clear ht2 hm2 hb4
      gi_wp2
      refine ⟨trivial, (callsIn_wide.2 (call_steps _ _ m1 m2 ⟨_, _, _, rfl⟩ ⟨_, _, _, rfl⟩ w4)).mono ?_⟩
      rintro e w5 ⟨rfl, rfl⟩
      gi_wp2
      have hbx2 := below_then HBx.out HBx.out.size HB3.out
      have hb24 : Below w2.heap.size w2 w4 := below_then hbx2 hbx2.size HB4.out
      have HB5 := Lib.hid (below_alloc2 w4 (.cells #[.slice a1 n1 k1, .map (some m1)] 47) (.cells #[.slice a2 n2 k2, .map (some m2)] 47))
      have hb25 : Below w2.heap.size w2 ((w4.alloc (.cells #[.slice a1 n1 k1, .map (some m1)] 47)).alloc (.cells #[.slice a2 n2 k2, .map (some m2)] 47)) := below_then hb24 hb24.size HB5.out
      have hrx := ((((Row.new w2 24 [.slice none 0 0]).below HB3.out (Row.new _ _ _).lt).below HB4.out (by have := (Row.new w2 24 [.slice none 0 0]).lt; have h3 := HB3.out.size; omega)).alloc (.cells #[.slice a1 n1 k1, .map (some m1)] 47)).alloc (.cells #[.slice a2 n2 k2, .map (some m2)] 47)
      have h0 : PlI w2 [] ((w4.alloc (.cells #[.slice a1 n1 k1, .map (some m1)] 47)).alloc (.cells #[.slice a2 n2 k2, .map (some m2)] 47)) := ⟨_, hrx, PlS.nil _ _, hb25⟩
      have HI0 := Lib.hid h0
      obtain ⟨i0, hi0, hz0, hs0, hb0⟩ := info_parts info59
      have hB12 : Below w.heap.size w w2 := below_then HB1.out HB1.out.size HB2.out
      have HB12 := Lib.hid hB12
      have HT1a := Lib.hid ((HT1.out.map.below HB4.out).below HB5.out)
      have HT2a := Lib.hid (HT2.out.map.below HB5.out)
      have HSz : Hid (w2.heap.size ≤ ((w4.alloc (.cells #[.slice a1 n1 k1, .map (some m1)] 47)).alloc (.cells #[.slice a2 n2 k2, .map (some m2)] 47)).heap.size) := Lib.hid hb25.size
      clear h0 hrx hb25 hb24 hbx2 hB12
      refine wpIn_range_steps (wb := w2) (by decide) (by decide) rfl rfl HSa.out HSb.out HO1.out HO2.out (HR.out.keep (keeps_below HB12.out)) HT1a.out HT2a.out ((Row.new w4 47 [.slice a1 n1 k1, .map (some m1)]).alloc _) (row_new1 w4 _ 47 [.slice a2 n2 k2, .map (some m2)])
        (PlI w2) (fun pre W h => by obtain ⟨_, _, _, h⟩ := h; exact h) (fun pre W W' h hb => h.fresh hb) (PlI.own HSz.out) HI0.out
        (fun v S => { tmps := #[.slice aa D1.length ca, .slice ab D2.length cb, undef, undef, .slice none 0 0, .int .i64 0, .slice a1 n1 k1, .int .i64 0, .slice a2 n2 k2, .pointer (some ⟨w2.heap.size, 0, none⟩), .pointer (some ⟨S, 0, none⟩), .tuple #[.slice a1 n1 k1, .int .i64 0], .slice aa D1.length ca, .tuple #[.slice a1 n1 k1, .int .i64 0], .slice a1 n1 k1, .int .i64 0, .int .i64 0, .bool false, .tuple #[.slice a2 n2 k2, .int .i64 0], .slice ab D2.length cb, .tuple #[.slice a2 n2 k2, .int .i64 0], .slice a2 n2 k2, .int .i64 0, .int .i64 0, .bool false, .slice a1 n1 k1, .agg #[.slice a1 n1 k1, .map (some m1)], .slice a2 n2 k2, .agg #[.slice a2 n2 k2, .map (some m2)], .func (.func 35) #[] #[.pointer (some ⟨w4.heap.size, 0, none⟩), .pointer (some ⟨w4.heap.size + 1, 0, none⟩)], v, undef, undef, undef, undef, undef], defers := [] }) ?assign ?body ?done
      case assign =>
        intro l s W K hK
        simp only [spCells] at hK ⊢
        gi_wp2
        exact hK
      case body =>
        intro l pre s S W hI hlen hS hSl
        obtain ⟨v, hv, hpl, hbw⟩ := hI
        obtain ⟨sa, sn, sc, rfl⟩ := own_isSl hpl
        have hsn : sn = pre.length := own_lenS hpl
        have HSn := Lib.hid hsn
        have HV := Lib.hid hv
        have HBw := Lib.hid hbw
        have HS := Lib.hid hS
        have y0 : W.cell? ⟨w2.heap.size, 0, none⟩ = some (.slice sa sn sc) := hv.cell 0
        have d0 : W.cell? ⟨S, 0, none⟩ = some (.int .i64 s.kind) := hS.cell 0
        have d1 : W.cell? ⟨S, 1, none⟩ = some (.string (bs s.a)) := hS.cell 1
        have d2 : W.cell? ⟨S, 2, none⟩ = some (.string (bs s.b)) := hS.cell 2
        have d3 : W.cell? ⟨S, 3, none⟩ = some (.int .i64 s.n) := hS.cell 3
        have d4 : W.cell? ⟨S, 4, none⟩ = some (.int .i64 s.m) := hS.cell 4
        have d5 : W.cell? ⟨S, 5, none⟩ = some (.int .i64 s.k) := hS.cell 5
        have d6 : W.cell? ⟨S, 6, none⟩ = some (.slice none 0 0) := hS.cell 6
        have HO8 : Hid ((W.alloc (.cells #[.int .i64 s.kind, .string (bs s.a), .string (bs s.b), .int .i64 s.n, .int .i64 s.m, .int .i64 s.k, .slice none 0 0] 38)).ownsRow w2.heap.size 38 7 (.slice sa sn sc) sn (svCells (pre.map fun s => (s, .slice none 0 0)))) := Lib.hid (by
          have h9 : W.ownsRow w2.heap.size 38 7 (.slice sa sn sc) pre.length (svCells (pre.map fun s => (s, .slice none 0 0))) := hpl
          rw [← hsn] at h9
          exact own_below h9 (below_alloc1 W _))
        have HRm : Hid (Row (W.alloc (.cells #[.int .i64 s.kind, .string (bs s.a), .string (bs s.b), .int .i64 s.n, .int .i64 s.m, .int .i64 s.k, .slice none 0 0] 38)) W.heap.size 38 (spCells s (.slice none 0 0))) := Lib.hid (Row.new W 38 (spCells s (.slice none 0 0)))
        have HSrc : Hid (∀ j u, (spCells s (.slice none 0 0))[j]? = some u → (W.alloc (.cells #[.int .i64 s.kind, .string (bs s.a), .string (bs s.b), .int .i64 s.n, .int .i64 s.m, .int .i64 s.k, .slice none 0 0] 38)).cell? ((⟨W.heap.size, 0, none⟩ : Addr).add j) = some u) := Lib.hid HRm.out.cells
        have HOne : Hid (∀ u ∈ spCells s (.slice none 0 0), u.oneCell' = true) := Lib.hid (by intro u hu; simp only [spCells, List.mem_cons, List.not_mem_nil, or_false] at hu; rcases hu with rfl | rfl | rfl | rfl | rfl | rfl | rfl <;> rfl)
        have HBs : Hid (w2.heap.size ≤ (W.alloc (.cells #[.int .i64 s.kind, .string (bs s.a), .string (bs s.b), .int .i64 s.n, .int .i64 s.m, .int .i64 s.k, .slice none 0 0] 38)).heap.size) := Lib.hid (by rw [alloc_size]; have := hbw.size; omega)
        have HB8 : Hid (Below W.heap.size W (W.alloc (.cells #[.int .i64 s.kind, .string (bs s.a), .string (bs s.b), .int .i64 s.n, .int .i64 s.m, .int .i64 s.k, .slice none 0 0] 38))) := Lib.hid (below_alloc1 W _)
        have HV8 := Lib.hid (hv.alloc (.cells #[.int .i64 s.kind, .string (bs s.a), .string (bs s.b), .int .i64 s.n, .int .i64 s.m, .int .i64 s.k, .slice none 0 0] 38))
        have hle1 : sn + 1 ≤ maxLen := by rw [hsn]; simp only [maxLen]; omega
        have hle2 : (sn + 1) * 88 ≤ 140737488355328 := by rw [hsn]; omega
        have HPl := Lib.hid hpl
        clear hv hpl hbw hS hsn
        gi_wp2_with (refine wpListIn_append_own _ rfl _ _ 24 rfl w2.heap.size 38 i0 _ 7 88 Tryz.underlying24 hi0 hz0 hs0 hb0 rfl (by decide) (.slice sa sn sc) sn (svCells (pre.map fun s => (s, .slice none 0 0))) (by rfl) HO8.out ⟨W.heap.size, 0, none⟩ 1 1 (spCells s (.slice none 0 0)) (by rfl) rfl HSrc.out HOne.out hle1 hle2 HBs.out ?_; intro v9 w9 h1 h2 h3; obtain ⟨a9, n9, c9, rfl⟩ := own_isSl h1; have H1 := Lib.hid h1; have H2 := Lib.hid h2; have HA9 := Lib.hid (HV8.out.grown h2 (own_row_ne HO8.out HV8.out (by decide))); have z0 := (show _ = some (Value.slice sa sn sc) from HA9.out.cell 0); have z1 := HA9.out.free 0; clear h1 h2 h3 y0 d0 d1 d2 d3 d4 d5 d6)
        have HBz := Lib.hid ((HB8.out.mono (Nat.le_trans HBw.out.size (Nat.le_refl _))).grown H2.out HBs.out (fun r e => (HO8.out.lt r e).1))
        have hne : some w2.heap.size ≠ (Value.slice a9 n9 c9).ownBlock := own_row_ne H1.out HA9.out (by decide)
        refine ⟨⟨_, HA9.out.set 0 _, ?_, ?_⟩, ⟨HBz.out.setCell (p := ⟨w2.heap.size, 0, none⟩) (Nat.le_refl _) _, ?_, ?_⟩⟩
        · have h5 := ownsRow_setCell_other H1.out (a := ⟨w2.heap.size, 0, none⟩) (fun e => hne e.symm) (Value.slice a9 n9 c9)
          unfold PlS
          rw [List.map_append, List.length_append, List.length_singleton, ← HSn.out]
          rw [show ([s].map fun s => (s, Value.slice none 0 0)) = [(s, Value.slice none 0 0)] from rfl, svCells_app]
          exact h5
        · exact HBw.out.trans (HBz.out.setCell (p := ⟨w2.heap.size, 0, none⟩) (Nat.le_refl _) _)
        · exact (HBz.out.setCell (p := ⟨w2.heap.size, 0, none⟩) (Nat.le_refl _) _).size
        · intro b o ho hn
          have hlt := (Array.getElem?_eq_some_iff.1 ho).1
          have h6 := (HB8.out.block b hlt).trans ho
          have h7 : some b ≠ (Value.slice sa sn sc).ownBlock := fun e => by
            obtain ⟨cur, hcur⟩ := row_of_own HPl.out e.symm
            have hcur' : W.heap[b]? = some (.cells cur.toArray 38 (0, 0)) := hcur
            rw [hcur'] at ho
            cases ho
            exact (hn _ _ _ rfl).2 rfl
          have h8 := (H2.out.block b (Nat.lt_of_lt_of_le hlt HB8.out.size) h7).trans h6
          refine (Below.heap_setCell _ _ _ _ (fun e => ?_)).trans h8
          have e' : b = w2.heap.size := e
          subst e'
          have hv' : W.heap[w2.heap.size]? = some (.cells #[.slice sa sn sc] 24 (0, 0)) := HV.out
          rw [hv'] at ho
          cases ho
          exact (hn _ _ _ rfl).1 rfl
      case done =>
        intro D W hD hI hK
        obtain ⟨v, hv, hpl, hbw⟩ := hI
        obtain ⟨sa, sn, sc, rfl⟩ := own_isSl hpl
        have y0 : W.cell? ⟨w2.heap.size, 0, none⟩ = some (.slice sa sn sc) := hv.cell 0
        have HPl := Lib.hid hpl
        have HBw := Lib.hid hbw
        have HKd := Lib.hid hK
        clear hv hpl hbw hK
        gi_wp2
        refine ⟨by simp, .inl ⟨_, _, rfl, run_takeDeferred HKd.out, ?_⟩⟩
        refine ⟨.tuple #[.slice sa sn sc, .int .i64 0], by simp [results, Tryz.results7, go_sem], ⟨_, rfl, ?_, ?_⟩⟩
        · exact own_low (ownsRow_putObj HPl.out _ HKd.out rfl) HB12.out.size
        · exact HB12.out.trans ((HBw.out.trans (belowK_b HSz.out W D _ _ hD HKd.out rfl rfl)).mono HB12.out.size)
end Go.Proofs.YtlecpjfggoehdaaGreatDoor.Ar

/- Ship: the law's first example. -/
set_option linter.unusedVariables false
set_option linter.unusedSimpArgs false
set_option maxRecDepth 100000
namespace Go.Proofs.YtlecpjfggoehdaaGreatDoor.Ar
open Go.RowKit Go.Sort Go.Lib Go.Proofs.YtlecpjfggoehdaaGreatDoor.Rs

/-- the plan from nothing to the example -/
def shipP : List Sp := [⟨5, [47, 100], [], 0, 0, 0, []⟩, ⟨4, [47, 100, 47, 102], [], 0, 0, 0, []⟩, ⟨11, [47, 100, 47, 102], helloB, 0, 0, 0, []⟩, ⟨9, [47, 100, 47, 102], [47, 103], 0, 0, 0, []⟩]
theorem ship_plan : planF [] shipL = shipP := by kernel_rfl
theorem ship_room : roomF shipP = 6 := by decide +kernel
theorem ship_spsm : SpsSm shipP := ⟨by decide, fun s hs => by
  simp only [shipP, List.mem_cons, List.not_mem_nil, or_false] at hs
  rcases hs with rfl | rfl | rfl | rfl <;> exact ⟨by decide, by decide, by decide⟩⟩
theorem PlS.cps {base : Nat} {w : World} {v : Value} {l : List Sp} (h : PlS base w v l) (hl : ∀ s ∈ l, s.list = []) : CpS base w v l l.length (l.map fun s => (s, .slice none 0 0)) := by
  refine ⟨by rw [List.map_map, List.take_length]; exact List.map_id'' (fun _ => rfl) l, by rw [List.length_map], h, fun x hx => ?_⟩
  obtain ⟨s, hs, rfl⟩ := List.mem_map.1 hx
  rw [hl s hs]
  exact World.ownsRow_nil _ _ _ _
theorem nil_byte (w : World) : Sl RByte 1 w (.slice none 0 0) [] := ⟨none, 0, 0, 0, rfl, fun h => (by simp at h), fun j x hj => (by simp at hj)⟩

set_option maxHeartbeats 8000000 in
theorem call_ship1 (w : World) (hp : Stp w) (hm : MaxL w) (hr : RulesTab w) : Calls Tryz.prog 4 #[] w fun e w' => e = .returned (.bool true) ∧ Below w.heap.size w w' := by
  have HP := Lib.hid hp
  have HM := Lib.hid hm
  have HR := Lib.hid hr
  clear hp hm hr
  go_enter Tryz.func4, Tryz.ntmps4
  go_wp2_with (go_at_call 10; refine (call_make2S [] _ (makeB []) 0 _ (.inl ⟨none_good, rfl, rfl⟩) (nil_mb _) none_sm HP.out HM.out).mono ?_; rintro e w1 ⟨v1, rfl, ho1, hb1⟩; obtain ⟨a1, n1, k1, rfl⟩ := own_isSl ho1; have HO1 := Lib.hid ho1; have HB1 := Lib.hid hb1; clear ho1 hb1)
  go_wp2_with (go_at_call 11; refine (call_shipExample _).mono ?_; rintro e w2 ⟨v2, rfl, hs2, hb2⟩; obtain ⟨a2, n2, k2, rfl⟩ : ∃ a n c, v2 = .slice a n c := (by obtain ⟨a, _, _, c, h, _⟩ := hs2; exact ⟨_, _, _, h⟩); have HS2 := Lib.hid hs2; have HB2 := Lib.hid (below_after HB1.out hb2); have HO2 := Lib.hid (own_below HO1.out hb2); clear hs2 hb2)
  go_wp2_with (go_at_call 10; refine (call_make2S shipL _ (makeB shipL) 0 _ (.inl ⟨ship_good, rfl, rfl⟩) HS2.out ship_sm (HP.out.below HB2.out) (HM.out.below HB2.out)).mono ?_; rintro e w3 ⟨v3, rfl, ho3, hb3⟩; obtain ⟨a3, n3, k3, rfl⟩ := own_isSl ho3; have HO3 := Lib.hid ho3; have HB3 := Lib.hid (below_after HB2.out hb3); have HO4 := Lib.hid (own_below HO2.out hb3); clear ho3 hb3)
  have HMb := Lib.hid (mbR_of HS2.out ship_sm)
  go_wp2_with (go_at_call 7; refine (call_plan [] shipL _ _ (makeB []) (makeB shipL) [] shipL 0 0 _ (.inl ⟨none_good, rfl, rfl, rfl⟩) (.inl ⟨ship_good, rfl, rfl, rfl⟩) none_sm ship_sm (own_bytes HO4.out) (own_bytes HO3.out) (own_cap HO4.out) (own_cap HO3.out) (HP.out.below HB3.out) (HM.out.below HB3.out) (HR.out.keep (keeps_below HB3.out)) (by simp) HMb.out).mono ?_; rintro e w5 ⟨v5, rfl, ho5, hb5⟩; have HB5 := Lib.hid (below_after HB3.out hb5); have hq : PlS w3.heap.size w5 v5 shipP := (by rw [← ship_plan]; exact ho5); have hsl := (PlS.cps hq (by decide)).sl rfl; have hsm : SpsSm shipP := ship_spsm; have hq2 : w5.ownsRow w3.heap.size 38 7 v5 4 (svCells (shipP.map fun s => (s, .slice none 0 0))) := hq; obtain ⟨g, c5, rfl, _, _, _, hc5, _⟩ := own_form hq2 (by decide); have HS5 : Hid (Sl RSp 7 w5 (.slice (some ⟨g, 0, none⟩) 4 c5) shipP) := Lib.hid hsl; have c0 := (show w5.cell? ⟨g, 0, none⟩ = some (.int .i64 5) from hc5 0 _ rfl); have c1 := (show w5.cell? ⟨g, 1, none⟩ = some (.string ⟨#[47, 100]⟩) from hc5 1 _ rfl); have c14 := (show w5.cell? ⟨g, 14, none⟩ = some (.int .i64 11) from hc5 14 _ rfl); have c16 := (show w5.cell? ⟨g, 16, none⟩ = some (.string ⟨#[104, 101, 108, 108, 111]⟩) from hc5 16 _ rfl); have c23 := (show w5.cell? ⟨g, 23, none⟩ = some (.string ⟨#[47, 103]⟩) from hc5 23 _ rfl); clear hc5 hq hq2 hsl hsm ho5 hb5)
  go_wp2_with (go_at_call 12; refine (call_shipRoom _ shipP _ HS5.out ship_spsm).mono ?_; rintro e w6 ⟨rfl, hb6⟩; rw [ship_room]; have HB6 := Lib.hid (below_after HB5.out hb6); replace c0 := (keeps_below hb6) _ _ _ c0; replace c1 := (keeps_below hb6) _ _ _ c1; replace c14 := (keeps_below hb6) _ _ _ c14; replace c16 := (keeps_below hb6) _ _ _ c16; replace c23 := (keeps_below hb6) _ _ _ c23; clear hb6)
  go_ret
  exact ⟨rfl, HB6.out⟩
end Go.Proofs.YtlecpjfggoehdaaGreatDoor.Ar

/- What the cards of Ship's laws lean on besides: the table of kinds, out of the row's condition; the witness' world. -/
set_option linter.unusedVariables false
set_option linter.unusedSimpArgs false
namespace Go.Proofs.YtlecpjfggoehdaaGreatDoor.Kit
open Go.ChangeShapes Go.WideShapes Go.ChangeAt Go.RowKit Go.Proofs.YtlecpjfggoehdaaGreatDoor.Ar
set_option maxRecDepth 100000

theorem gr1 : Tryz.prog.globalNamed "furrow/ship.rules" = some 0 := by kernel_rfl
theorem gr1t : (Tryz.prog.globals[0]?).map (·.type) = some 89 := by kernel_rfl
theorem cr164 : Tryz.prog.cellsOf 88 = 3 := by kernel_rfl
theorem cr165 : Tryz.prog.cellsOf 89 = 12 := by kernel_rfl
theorem cr162 : Tryz.prog.cellsOf 86 = 1 := by kernel_rfl
theorem cr3 : Tryz.prog.cellsOf 3 = 1 := by kernel_rfl
theorem cr4 : Tryz.prog.cellsOf 4 = 1 := by kernel_rfl

theorem rule_row {w : World} {sp : Nat → Bool} {fuel : Nat} {k0 k1 k2 : Value} {g : Int} {c : UInt8} {r : List UInt8} {b : Bool} {q : List MemPlace} (f0 : Nat)
    (hone : ((List.range Tryz.prog.funcs.size).filter fun f => (Tryz.prog.funcs[f]?).any (·.name.toUTF8.data.toList == c :: r)) = [f0])
    (h : DataW.trod (funcToken Tryz.prog) Tryz.prog w 0 sp true fuel 88 [k0, k1, k2] = some (.agg [.lit (.int .i64 g), .held (c :: r), .lit (.bool b)], q)) :
    k0 = .int .i64 g ∧ k1 = .func (.func f0) #[] #[] ∧ k2 = .bool b := by
  obtain ⟨ys, n, _, hy, _, hys, hf⟩ := DataW.trod_struct Tryz.underlying88 h
  match ys, hys with
  | [y0, y1, y2], _ =>
    simp only [List.map_cons, List.map_nil, Prod.mk.injEq, DataW.agg.injEq, List.cons.injEq, and_true] at hy
    obtain ⟨⟨e0, e1, e2⟩, -⟩ := hy
    have h0 : DataW.trod (funcToken Tryz.prog) Tryz.prog w 0 sp true n 3 [k0] = some y0 := by simpa [cr3] using hf 0 _ rfl
    have h1 : DataW.trod (funcToken Tryz.prog) Tryz.prog w 0 sp true n 86 [k1] = some y1 := by simpa [cr162] using hf 1 _ rfl
    have h2 : DataW.trod (funcToken Tryz.prog) Tryz.prog w 0 sp true n 4 [k2] = some y2 := by simpa [cr4] using hf 2 _ rfl
    obtain ⟨z, hc, rfl, _⟩ := DataW.trod_int Tryz.underlying3 h0
    obtain ⟨z2, hc2, rfl⟩ := DataW.trod_bool Tryz.underlying4 h2
    obtain ⟨y1a, y1b⟩ := y1
    simp only at e0 e1 e2
    cases e0
    cases e2
    subst e1
    cases hc
    cases hc2
    exact ⟨rfl, func_of_trod (f0 := f0) Tryz.underlying86 hone h1, rfl⟩
theorem rules_of {w : World} {L : List (String × DataW Unit)} (h : laidMetH Tryz.prog L w) (hm : ("furrow/ship.rules", Rows.laid_furrow_ship_rules) ∈ L) : Ar.RulesTab w := by
  obtain ⟨g, t, cs, fuel, p, hg, ht, hv, hd⟩ := h.funcs hm
  obtain rfl := Option.some.inj (gr1.symm.trans hg)
  obtain rfl := Option.some.inj (gr1t.symm.trans ht)
  have hd' : DataW.trod (funcToken Tryz.prog) Tryz.prog w 0 (fun _ => true) true fuel 89 cs.toList = some (.agg [.agg [.lit (.int .i64 0), .nil, .lit (.bool false)], .agg [.lit (.int .i64 6), .held [102, 117, 114, 114, 111, 119, 47, 115, 104, 105, 112, 46, 114, 117, 108, 101, 115, 36, 50], .lit (.bool true)], .agg [.lit (.int .i64 7), .held [102, 117, 114, 114, 111, 119, 47, 115, 104, 105, 112, 46, 114, 117, 108, 101, 115, 36, 49], .lit (.bool false)], .agg [.lit (.int .i64 6), .held [102, 117, 114, 114, 111, 119, 47, 115, 104, 105, 112, 46, 114, 117, 108, 101, 115, 36, 51], .lit (.bool false)]], p) := hd
  have hcell := fun j => World.var?_cell hg hv j
  obtain ⟨xs, m, _, hy, hl, hxs, hel⟩ := DataW.trod_array Tryz.underlying89 hd'
  rw [cr165] at hl
  rw [cr164] at hel
  obtain ⟨l, hll⟩ : ∃ l, cs.toList = l := ⟨_, rfl⟩
  have hc2 : ∀ j, w.cell? ⟨0, j, none⟩ = l[j]? := fun j => by rw [hcell j, ← hll]; simp
  rw [hll] at hl hel
  match xs, hxs, l, hl with
  | [x0, x1, x2, x3], _, [k0, k1, k2, k3, k4, k5, k6, k7, k8, k9, k10, k11], _ =>
    simp only [List.map_cons, List.map_nil, Prod.mk.injEq, DataW.agg.injEq, List.cons.injEq, and_true] at hy
    obtain ⟨⟨e0, e1, e2, e3⟩, -⟩ := hy
    obtain ⟨x1a, x1b⟩ := x1
    obtain ⟨x2a, x2b⟩ := x2
    obtain ⟨x3a, x3b⟩ := x3
    simp only at e1 e2 e3
    subst e1 e2 e3
    obtain ⟨r3, r4, r5⟩ := rule_row 140 (by kernel_rfl) (show DataW.trod (funcToken Tryz.prog) Tryz.prog w 0 (fun _ => true) true m 88 [k3, k4, k5] = _ from hel 1 (by omega))
    obtain ⟨r6, r7, r8⟩ := rule_row 139 (by kernel_rfl) (show DataW.trod (funcToken Tryz.prog) Tryz.prog w 0 (fun _ => true) true m 88 [k6, k7, k8] = _ from hel 2 (by omega))
    obtain ⟨r9, r10, r11⟩ := rule_row 141 (by kernel_rfl) (show DataW.trod (funcToken Tryz.prog) Tryz.prog w 0 (fun _ => true) true m 88 [k9, k10, k11] = _ from hel 3 (by omega))
    exact ⟨by rw [hc2, ← r3]; rfl, by rw [hc2, ← r4]; rfl, by rw [hc2, ← r5]; rfl, by rw [hc2, ← r6]; rfl, by rw [hc2, ← r7]; rfl, by rw [hc2, ← r8]; rfl, by rw [hc2, ← r9]; rfl, by rw [hc2, ← r10]; rfl, by rw [hc2, ← r11]; rfl⟩
/-- the plain part of the condition -/
theorem plain_of {w : World} {L : List (String × DataW Unit)} (h : laidMetH Tryz.prog L w) : laidMet Tryz.prog (L.filter fun x => x.2.handleName?.isNone) w := by
  unfold laidMetH at h
  generalize hfl : (L.filter fun x => x.2.handleName?.isSome) = fl at h
  cases fl with
  | nil =>
    have e : (L.filter fun x => x.2.handleName?.isNone) = L := by
      rw [List.filter_eq_self]
      intro x hx
      have := (List.filter_eq_nil_iff.1 hfl) x hx
      cases hn : x.2.handleName? with
      | none => rfl
      | some s => rw [hn] at this; exact absurd rfl this
    rw [e]
    exact h
  | cons a rest => exact h.1
/-- the witness' world, the table of kinds laid -/
noncomputable def laidWorldS (os : Os) : World :=
  { laidWorld os with heap := (laidWorld os).heap.modify 0 (setCells #[.int .i64 0, .nilFunc, .bool false, .int .i64 6, .func (.func 140) #[] #[], .bool true, .int .i64 7, .func (.func 139) #[] #[], .bool false, .int .i64 6, .func (.func 141) #[] #[], .bool false]) }
noncomputable def argsS : Array Value := #[.slice none 0 0, .slice none 0 0]
theorem laid_metS (os : Os) : laidMetH Tryz.prog Rows.shipPlansRow.laid ((laidWorldS os).forCall (fun _ _ => 0) ⟨#[], argsS, []⟩).memory :=
  laidMetH_of_parts3 (fuel := 8) (laidMet_of_run' 8 (by kernel_rfl) (by kernel_rfl)) (by kernel_rfl) (by kernel_rfl)
end Go.Proofs.YtlecpjfggoehdaaGreatDoor.Kit
