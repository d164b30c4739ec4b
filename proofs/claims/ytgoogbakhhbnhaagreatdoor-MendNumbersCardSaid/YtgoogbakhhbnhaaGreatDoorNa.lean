/-
  Mend: miscounted.
-/
import Derived.Test.YtgoogbakhhbnhaaGreatDoorMz
import Derived.Maps.OwnIn
set_option linter.unusedVariables false
set_option linter.unusedSimpArgs false
set_option maxRecDepth 100000
namespace Go.Proofs.YtgoogbakhhbnhaaGreatDoor.Ar
open Go.RowKit Go.Sort Go.Lib Go.Proofs.YtgoogbakhhbnhaaGreatDoor.Rs
attribute [local go_sem] Oper.semAt_some
theorem info3 : (Tryz.prog.info? 3).map (fun i => (i.zero, i.size, i.bytes)) = some (some (.int .i64 0), 1, 8) := by kernel_rfl
/-- a turn of a block that is no cells and lies from 'base' on -/
structure TurnOk (base : Nat) (A B : World) (row : Option Nat) : Prop where
  g : A.grownBy B row
  r : ∀ r, row = some r → base ≤ r ∧ ∃ o : Obj, A.heap[r]? = some o ∧ o.isCells = false
theorem TurnOk.row {base S T : Nat} {A B : World} {row : Option Nat} {cur : List Value} (h : TurnOk base A B row) (hr : Row A S T cur) : Row B S T cur := by
  refine (h.g.block S hr.lt (fun e => ?_)).trans hr
  obtain ⟨o, ho, hc⟩ := (h.r S e.symm).2
  have h2 : A.heap[S]? = _ := hr
  rw [h2] at ho
  cases ho
  cases hc
theorem TurnOk.map {base m : Nat} {A B : World} {row : Option Nat} {l : List (Int × Value)} (h : TurnOk base A B row) (hr : MapI A m l) (hm : m < base) : MapI B m l :=
  (h.g.block m hr.lt (fun e => by have := (h.r m e.symm).1; omega)).trans hr
theorem TurnOk.scan {base R m mo : Nat} {A B : World} {row : Option Nat} (h : TurnOk base A B row) (hs : ScanOk A R m mo) (hm : m < base ∧ mo < base) : ScanOk B R m mo := by
  obtain ⟨vo, hr⟩ := hs.row
  exact ⟨⟨vo, h.row hr⟩, h.map hs.map hm.1, h.map hs.own hm.2⟩
theorem TurnOk.below {base N : Nat} {w A B : World} {row : Option Nat} (h : TurnOk base A B row) (hb : Below N w A) (hs : N ≤ base) (hz : N ≤ A.heap.size) : Below N w B :=
  hb.grown h.g hz (fun r e => by have := (h.r r e).1; omega)
def misL (L : Nat) (k : Nat) (W : World) : Prop := if k < 2 then Row W L 55 [.slice none 0 0] else ∃ g c cur, Row W L 55 [.slice (some ⟨g, 0, none⟩) 1 c] ∧ Row W g 3 (.int .i64 5 :: cur)
/-- the walk of miscounted -/
structure MisI (base : Nat) (w W : World) (R m mo C : Nat) (k : Nat) : Prop where
  scan : ScanOk W R m mo
  cnt : MapI W (w.heap.size + 1) []
  cbox : Row W C 60 [.map (some (w.heap.size + 1))]
  box2 : Row W (C + 1) 53 [.pointer (some ⟨R, 0, none⟩)]
  lst : misL w.heap.size k W
  below : Below w.heap.size w W
  size : base ≤ W.heap.size
theorem MisI.turn {base : Nat} {w A B : World} {R m mo C k : Nat} {row : Option Nat} (h : MisI base w A R m mo C k) (t : TurnOk base A B row) (hm : m < base ∧ mo < base) (hw : w.heap.size + 1 < base) : MisI base w B R m mo C k := by
  refine ⟨t.scan h.scan hm, t.map h.cnt hw, t.row h.cbox, t.row h.box2, ?_, t.below h.below (by omega) h.below.size, Nat.le_trans h.size t.g.size⟩
  have hl := h.lst
  unfold misL at hl ⊢
  split at hl
  · rename_i hk; rw [if_pos hk]; exact t.row hl
  · rename_i hk; rw [if_neg hk]
    obtain ⟨g, c, cur, h1, h2⟩ := hl
    exact ⟨g, c, cur, t.row h1, t.row h2⟩
theorem MisI.under {base : Nat} {w W W' : World} {R m mo C k : Nat} (h : MisI base w W R m mo C k) (hb : Below W.heap.size W W') : MisI base w W' R m mo C k := by
  refine ⟨h.scan.below hb, h.cnt.below hb h.cnt.lt, h.cbox.below hb h.cbox.lt, h.box2.below hb h.box2.lt, ?_, below_after h.below hb, Nat.le_trans h.size hb.size⟩
  have hl := h.lst
  unfold misL at hl ⊢
  split at hl
  · rename_i hk; rw [if_pos hk]; exact hl.below hb hl.lt
  · rename_i hk; rw [if_neg hk]
    obtain ⟨g, c, cur, h1, h2⟩ := hl
    exact ⟨g, c, cur, h1.below hb h1.lt, h2.below hb h2.lt⟩
set_option maxHeartbeats 8000000 in
theorem call_miscounted (R m mo : Nat) (w : World) (hs : ScanOk w R m mo) :
    Calls Tryz.prog 14 #[.pointer (some ⟨R, 0, none⟩)] w fun e w' => ∃ g c, e = .returned (.slice (some ⟨g, 0, none⟩) 1 c) ∧ w'.cell? ⟨g, 0, none⟩ = some (.int .i64 5) ∧ Below w.heap.size w w' := by
  have hb1 := below_alloc1 w (.cells #[.slice none 0 0] 55)
  have H1 := Lib.hid (Row.new w 55 [.slice none 0 0])
  have HB1 := Lib.hid hb1
  have HS1 := Lib.hid (hs.below hb1)
  have hz : (w.alloc (.cells #[.slice none 0 0] 55)).heap.size = w.heap.size + 1 := by rw [alloc_size]
  have HM : Hid (m < w.heap.size ∧ mo < w.heap.size) := Lib.hid ⟨hs.map.lt, hs.own.lt⟩
  clear hb1 hs
  refine (callsIn_wide (n := 9)).1 ?_
  refine callsIn_of_wp_marks Tryz.func14 rfl trivial ?_ rfl
  simp only [Tryz.ntmps14, List.size_toArray, List.length_cons, List.length_nil, Nat.reduceAdd, Nat.reduceSub, Array.replicate_succ, Array.replicate_zero, List.push_toArray, List.append_toArray, List.nil_append, List.cons_append]
  refine wpIn_wide.2 ?_
  go_wp2_with (first
    | (go_at_call 38; refine (call_names R m mo _ HS1.out).mono ?_; rw [hz]; rintro e w1 ⟨rfl, hm, hb⟩; have HB2 := Lib.hid (below_after HB1.out (by rw [hz]; exact hb)); have hlt := H1.out.lt; have H2 := Lib.hid (H1.out.below hb (by omega)); have HS2 := Lib.hid (HS1.out.below (by rw [hz]; exact hb)); have HC := Lib.hid hm; clear hb hm H1 HB1 HS1 hlt)
    | (go_at_call 16; refine (call_each0 _ _).mono ?_; rintro e w3 ⟨rfl, rfl⟩))
  have hb3 := below_alloc2 w1 (.cells #[.map (some (w.heap.size + 1))] 60) (.cells #[.pointer (some ⟨R, 0, none⟩)] 53)
  have hw1 : w.heap.size + 1 < w1.heap.size := HC.out.lt
  have hsz : ((w1.alloc (.cells #[.map (some (w.heap.size + 1))] 60)).alloc (.cells #[.pointer (some ⟨R, 0, none⟩)] 53)).heap.size = w1.heap.size + 2 := by rw [alloc_size, alloc_size]
  have hI0 : MisI (w1.heap.size + 2) w ((w1.alloc (.cells #[.map (some (w.heap.size + 1))] 60)).alloc (.cells #[.pointer (some ⟨R, 0, none⟩)] 53)) R m mo w1.heap.size 0 :=
    ⟨HS2.out.below hb3, HC.out.below hb3 HC.out.lt, (Row.new w1 60 [.map (some (w.heap.size + 1))]).below (below_alloc1 _ _) (by simp), row_new1 w1 _ 53 [.pointer (some ⟨R, 0, none⟩)], by unfold misL; rw [if_pos (by decide)]; exact H2.out.below hb3 H2.out.lt, below_after HB2.out hb3, by rw [hsz]; exact Nat.le_refl _⟩
  have HI := Lib.hid hI0
  have HM2 : Hid (m < w1.heap.size + 2 ∧ mo < w1.heap.size + 2) := Lib.hid (by have := HM.out; omega)
  clear hb3 hI0 HS2 HC H2 HB2 HM
  generalize ((w1.alloc (.cells #[.map (some (w.heap.size + 1))] 60)).alloc (.cells #[.pointer (some ⟨R, 0, none⟩)] 53)) = w3 at *
  refine wp_range_each (B := w1.heap.size + 1) (R := R) (m := m) rfl rfl (fun k W => MisI w3.heap.size w W R m mo w1.heap.size k) (fun k s A B row h hg hr => h.turn ⟨hg, hr⟩ (by rw [hsz]; exact HM2.out) (by omega)) (fun k W h => h.scan.each h.box2) (by rw [hsz]; exact HI.out)
    (fun k a' W => (a'.defers = [] ∧ a'.tmps.size = 41 ∧ a'.tmps.getD 3 undef = .pointer (some ⟨w.heap.size, 0, none⟩) ∧ a'.tmps.getD 4 undef = .pointer (some ⟨w1.heap.size, 0, none⟩) ∧ a'.tmps.getD 5 undef = .int .i64 (ndI k)) ∧ ∃ S, a'.tmps.getD 6 undef = .pointer (some ⟨S, 0, none⟩) ∧ Row W S 66 [.int .i64 (ndI k), .int .i64 2, .int .i64 1, .int .i64 0, .slice none 0 0, .slice none 0 0, .int .i64 0, .int .i64 0, .slice none 0 0, .int .i64 0]) (fun k a' s A B row h hg hr => ⟨h.1, ownFrom_row () A B row h.2 hg hr⟩) ?assign ?body ?done
  case assign =>
    intro l k W K hk2 hI hK
    rw [encE_eq]
    simp
    gi_wp2
    have hb := below_alloc1 W (.cells #[.int .i64 (ndI k), .int .i64 2, .int .i64 1, .int .i64 0, .slice none 0 0, .slice none 0 0, .int .i64 0, .int .i64 0, .slice none 0 0, .int .i64 0] 66)
    exact hK _ _ (KeepsFrom.of_below hb) (hI.under hb) ⟨⟨rfl, rfl, rfl, rfl, rfl⟩, W.heap.size, rfl, Row.new W 66 [.int .i64 (ndI k), .int .i64 2, .int .i64 1, .int .i64 0, .slice none 0 0, .slice none 0 0, .int .i64 0, .int .i64 0, .slice none 0 0, .int .i64 0]⟩
  case body =>
    rintro l k ⟨t, ds⟩ W hk2 hl hlp hI ⟨⟨hds, hts, h3, h4, h5⟩, S, h6, hS⟩
    have hds : ds = [] := hds
    subst hds
    have htl := arr_eta 41 t hts
    simp only at h3 h4 h5 h6
    generalize hv : (fun i => t.getD i undef) = v at htl
    have hv3 : v 3 = .pointer (some ⟨w.heap.size, 0, none⟩) := by rw [← hv]; exact h3
    have hv4 : v 4 = .pointer (some ⟨w1.heap.size, 0, none⟩) := by rw [← hv]; exact h4
    have hv5 : v 5 = .int .i64 (ndI k) := by rw [← hv]; exact h5
    have hv6 : v 6 = .pointer (some ⟨S, 0, none⟩) := by rw [← hv]; exact h6
    have htl2 : t = #[v 0, v 1, v 2, v 3, v 4, v 5, v 6, v 7, v 8, v 9, v 10, v 11, v 12, v 13, v 14, v 15, v 16, v 17, v 18, v 19, v 20, v 21, v 22, v 23, v 24, v 25, v 26, v 27, v 28, v 29, v 30, v 31, v 32, v 33, v 34, v 35, v 36, v 37, v 38, v 39, v 40] := htl
    clear hv htl h3 h4 h5 h6 hts
    subst htl2
    rw [hv3, hv4, hv5, hv6]
    clear hv3 hv4 hv5 hv6
    have q1 := (show W.cell? ⟨S, 1, none⟩ = some (.int .i64 2) from hS.cell 1)
    have q2 := (show W.cell? ⟨S, 2, none⟩ = some (.int .i64 1) from hS.cell 2)
    have q0 := (show W.cell? ⟨w1.heap.size, 0, none⟩ = some (.map (some (w.heap.size + 1))) from hI.cbox.cell 0)
    have hlk := hI.cnt.look Tryz.underlying60 Tryz.underlying3 (zero3 W) (ndI k)
    simp only [atI, Option.getD] at hlk
    have hll := hI.lst
    unfold misL at hll
    rw [if_pos hk2] at hll
    have l0 := (show W.cell? ⟨w.heap.size, 0, none⟩ = some (.slice none 0 0) from hll.cell 0)
    have l1 := hll.free 0
    have HIw := Lib.hid hI
    have HLl := Lib.hid hll
    clear hI hS hll
    rcases (show k = 0 ∨ k = 1 by omega) with rfl | rfl
    · have e : ndI 0 = 1 := rfl
      rw [e] at hlk ⊢
      gi_wp2
      refine ⟨KeepsFrom.refl _ _, ?_⟩
      have h := HIw.out
      exact ⟨h.scan, h.cnt, h.cbox, h.box2, by have := h.lst; unfold misL at this ⊢; exact this, h.below, by have := h.size; omega⟩
    · have e : ndI 1 = 5 := rfl
      rw [e] at hlk ⊢
      have HNa := Lib.hid (Row.new W 3 [.int .i64 5])
      have HBa := Lib.hid (below_alloc1 W (.cells #[.int .i64 5] 3))
      have HLa := Lib.hid (HLl.out.alloc (.cells #[.int .i64 5] 3))
      obtain ⟨i0, hi, hz0, hz1, hz2⟩ := info_parts info3
      gi_wp2_with (refine wpListIn_append_own _ rfl _ _ 55 rfl W.heap.size 3 i0 (.int .i64 0) 1 8 Tryz.underlying55 hi hz0 hz1 hz2 rfl (by decide) (.slice none 0 0) 0 [] (by rfl) (World.ownsRow_nil _ _ _ _) ⟨W.heap.size, 0, none⟩ 1 1 [.int .i64 5] (by rfl) rfl HNa.out.cells (by decide) (by decide) (by decide) (by rw [alloc_size]; omega) ?_; intro v9 w9 h1 h2 h3; obtain ⟨a9, n9, c9, rfl⟩ := own_isS h1; have H9 := Lib.hid h1; have HB9 := Lib.hid (below_after HBa.out ⟨h2.os, h2.tape, h2.output, h2.size, fun k hk => h2.block k hk (by intro e; cases e)⟩); have hl9 := (h2.block _ HLa.out.lt (by intro e; cases e)).trans HLa.out; have HL9 := Lib.hid (show Row w9 w.heap.size 55 [.slice none 0 0] from hl9); clear h1 h2 h3 l0 l1; have l0 := (show w9.cell? ⟨w.heap.size, 0, none⟩ = some (.slice none 0 0) from HL9.out.cell 0); have l1 := HL9.out.free 0)
      have hM9 := HIw.out.under HB9.out
      rcases H9.out.2 with ⟨_, h1⟩ | ⟨g, cap, cur, hve, _, hg, hn, _, _, ht⟩
      · cases h1
      · injection hve with e1 e2 e3
        subst e1
        subst e2
        have hcur : ∃ rest, cur.toList = .int .i64 5 :: rest := by
          match hcl : cur.toList with
          | [] => rw [hcl] at ht; cases ht
          | x :: rest => rw [hcl] at ht; injection ht with hx _; exact ⟨rest, by rw [hx]⟩
        obtain ⟨rest, hcur⟩ := hcur
        have hG : Row w9 g 3 (.int .i64 5 :: rest) := by
          show w9.heap[g]? = _
          rw [← hcur]
          exact hg
        have ho : ∀ {b T : Nat} {cs : List Value}, Row w9 b T cs → T ≠ 55 → Row (w9.setCell ⟨w.heap.size, 0, none⟩ (.slice (some ⟨g, 0, none⟩) (0 + 1) c9)) b T cs := fun hr hT => (Below.heap_setCell w9 ⟨w.heap.size, 0, none⟩ _ _ (row_ne hr HL9.out hT)).trans hr
        have hom : ∀ {b : Nat} {L : List (Int × Value)}, MapI w9 b L → MapI (w9.setCell ⟨w.heap.size, 0, none⟩ (.slice (some ⟨g, 0, none⟩) (0 + 1) c9)) b L := fun hm => hm.set _ _ (cells_ne_map HL9.out hm).symm
        obtain ⟨vo, hsr⟩ := hM9.scan.row
        refine ⟨(KeepsFrom.of_below HB9.out).trans ((KeepsOthers.setCell _ _ _).from _), ⟨⟨vo, ho hsr (by decide)⟩, hom hM9.scan.map, hom hM9.scan.own⟩, hom hM9.cnt, ho hM9.cbox (by decide), ho hM9.box2 (by decide), ?_, hM9.below.setCell (p := ⟨w.heap.size, 0, none⟩) (Nat.le_refl _) _, by have := hM9.size; simp only [World.setCell, Array.size_modify]; omega⟩
        unfold misL
        rw [if_neg (by decide)]
        exact ⟨g, c9, rest, HL9.out.set 0 _, ho hG (by decide)⟩
  case done =>
    intro D W hD hI hk
    have hll := hI.lst
    unfold misL at hll
    rw [if_neg (by decide)] at hll
    obtain ⟨g, c, cur, hl1, hl2⟩ := hll
    have q0 := (show W.cell? ⟨w.heap.size, 0, none⟩ = some (.slice (some ⟨g, 0, none⟩) 1 c) from hl1.cell 0)
    have HIw := Lib.hid hI
    have HL2 := Lib.hid hl2
    clear hI hl1 hl2
    go_wp2
    refine leaves_mark hk ⟨.slice (some ⟨g, 0, none⟩) 1 c, by simp [results, Tryz.results14, go_sem], g, c, rfl, ?_, below_put HIw.out.below (by omega)⟩
    have hne : g ≠ D := fun e => by
      have h : W.heap[g]? = _ := HL2.out
      rw [e, hk] at h
      cases h
    have hr : Row (W.putObj D (.deferred none)) g 3 (.int .i64 5 :: cur) := (World.putObj_heap_other hne).trans HL2.out
    exact hr.cell 0
end Go.Proofs.YtgoogbakhhbnhaaGreatDoor.Ar
