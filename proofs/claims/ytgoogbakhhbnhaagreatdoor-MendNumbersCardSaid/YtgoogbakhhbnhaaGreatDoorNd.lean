/-
  Mend: a rescue under way: keep, out, next.
-/
import Derived.Test.YtgoogbakhhbnhaaGreatDoorNc
set_option linter.unusedVariables false
set_option linter.unusedSimpArgs false
set_option maxRecDepth 100000
namespace Go.Proofs.YtgoogbakhhbnhaaGreatDoor.Ar
open Go.RowKit Go.Sort Go.Lib Go.Proofs.YtgoogbakhhbnhaaGreatDoor.Rs
attribute [local go_sem] Oper.semAt_some
section
variable {base P R m mo mm mt nl np : Nat} {Mm : List (Int × Value)} {xl xp : List Value} {w : World}
/-- the walk of a range over 'each' in a rescue -/
structure EI (bs : Nat) (w : World) (Wk : World → Prop) (P R b1 b2 : Nat) (lst : World → Prop) (W : World) : Prop where
  wk : Wk W
  box1 : Row W b1 72 [.pointer (some ⟨P, 0, none⟩)]
  box2 : Row W b2 53 [.pointer (some ⟨R, 0, none⟩)]
  l : lst W
  below : Below w.heap.size w W
  size : bs ≤ W.heap.size
theorem EI.under {bs b1 b2 : Nat} {W W' : World} {lst : World → Prop} (h : EI bs w (fun W => WkI base W P R m mo mm mt Mm nl np xl xp) P R b1 b2 lst W) (hl : ∀ A B, lst A → Below A.heap.size A B → lst B) (hb : Below W.heap.size W W') : EI bs w (fun W => WkI base W P R m mo mm mt Mm nl np xl xp) P R b1 b2 lst W' :=
  ⟨h.wk.under hb, h.box1.below hb h.box1.lt, h.box2.below hb h.box2.lt, hl _ _ h.l hb, below_after h.below hb, Nat.le_trans h.size hb.size⟩
theorem EI.turn {bs b1 b2 : Nat} {A B : World} {row : Option Nat} {lst : World → Prop} (h : EI bs w (fun W => WkI base W P R m mo mm mt Mm nl np xl xp) P R b1 b2 lst A) (hl : ∀ A B row, lst A → TurnOk bs A B row → lst B) (t : TurnOk bs A B row) (hm : m < bs ∧ mo < bs ∧ mm < bs) (hw : w.heap.size ≤ bs) : EI bs w (fun W => WkI base W P R m mo mm mt Mm nl np xl xp) P R b1 b2 lst B :=
  ⟨h.wk.turn t hm, t.row h.box1, t.row h.box2, hl _ _ _ h.l t, t.below h.below hw h.below.size, Nat.le_trans h.size t.g.size⟩
set_option maxHeartbeats 8000000 in
theorem call_keep (h : WkI base w P R m mo mm mt Mm nl np xl xp) : Calls Tryz.prog 18 #[.pointer (some ⟨P, 0, none⟩)] w fun e w' => (∃ v, e = .returned v) ∧ Below w.heap.size w w' := by
  obtain ⟨A1, e1⟩ : ∃ A, w.alloc (.cells #[.pointer (some ⟨P, 0, none⟩)] 72) = A := ⟨_, rfl⟩
  have z1 : A1.heap.size = w.heap.size + 1 := by rw [← e1, alloc_size]
  have r1 : Row A1 w.heap.size 72 [.pointer (some ⟨P, 0, none⟩)] := by rw [← e1]; exact Row.new w 72 _
  have b1 : Below w.heap.size w A1 := by rw [← e1]; exact below_alloc1 _ _
  have h1 := h.under b1
  have s0 := (show A1.cell? ⟨w.heap.size, 0, none⟩ = some (.pointer (some ⟨P, 0, none⟩)) from r1.cell 0)
  have s1 := h1.c0
  obtain ⟨A2, e2⟩ : ∃ A, A1.alloc (.cells #[.pointer (some ⟨R, 0, none⟩)] 53) = A := ⟨_, rfl⟩
  have z2 : A2.heap.size = w.heap.size + 2 := by rw [← e2, alloc_size, z1]
  have r2 : Row A2 (w.heap.size + 1) 53 [.pointer (some ⟨R, 0, none⟩)] := by rw [← e2, ← z1]; exact Row.new A1 53 _
  have b2 : Below A1.heap.size A1 A2 := by rw [← e2]; exact below_alloc1 _ _
  have HI : Hid (EI (w.heap.size + 2) w (fun W => WkI base W P R m mo mm mt Mm nl np xl xp) P R w.heap.size (w.heap.size + 1) (fun _ => True) A2) := Lib.hid ⟨h1.under b2, r1.below b2 r1.lt, r2, trivial, below_after b1 b2, by rw [z2]; exact Nat.le_refl _⟩
  have HM : Hid (m < w.heap.size + 2 ∧ mo < w.heap.size + 2 ∧ mm < w.heap.size + 2) := Lib.hid (by have := h.scan.map.lt; have := h.scan.own.lt; have := h.many.lt; omega)
  clear h h1 r1 r2 b1 b2
  refine (callsIn_wide (n := 9)).1 ?_
  refine callsIn_of_wp_marks Tryz.func18 rfl trivial ?_ rfl
  simp only [Tryz.ntmps18, List.size_toArray, List.length_cons, List.length_nil, Nat.reduceAdd, Nat.reduceSub, Array.replicate_succ, Array.replicate_zero, List.push_toArray, List.append_toArray, List.nil_append, List.cons_append]
  refine wpIn_wide.2 ?_
  go_wp2_with (go_at_call 16; refine (call_each0 _ _).mono ?_; rintro e w3 ⟨rfl, rfl⟩)
  refine wp_range_each (B := w.heap.size + 1) (R := R) (m := m) rfl rfl (fun k W => EI A2.heap.size w (fun W => WkI base W P R m mo mm mt Mm nl np xl xp) P R w.heap.size (w.heap.size + 1) (fun _ => True) W) (fun k s A B row h hg hr => h.turn (fun _ _ _ _ _ => trivial) ⟨hg, hr⟩ (by rw [z2]; exact HM.out) (by omega)) (fun k W h => h.wk.scan.each h.box2) (by rw [z2]; exact HI.out)
    (fun k a' W => (a'.defers = [] ∧ a'.tmps.size = 56) ∧ ∃ S, a'.tmps.getD 3 undef = .pointer (some ⟨S, 0, none⟩) ∧ Row W S 66 [.int .i64 (ndI k), .int .i64 2, .int .i64 1, .int .i64 0, .slice none 0 0, .slice none 0 0, .int .i64 0, .int .i64 0, .slice none 0 0, .int .i64 0]) (fun k a' s A B row h hg hr => ⟨h.1, ownFrom_row () A B row h.2 hg hr⟩) ?assign ?body ?done
  case assign =>
    intro l k W K hk2 hI hK
    rw [encE_eq]
    simp
    gi_wp2
    have hb := below_alloc2 W (.cells #[.int .i64 (ndI k)] 3) (.cells #[.int .i64 (ndI k), .int .i64 2, .int .i64 1, .int .i64 0, .slice none 0 0, .slice none 0 0, .int .i64 0, .int .i64 0, .slice none 0 0, .int .i64 0] 66)
    exact hK _ _ (KeepsFrom.of_below hb) (hI.under (fun _ _ _ _ => trivial) hb) ⟨⟨rfl, rfl⟩, W.heap.size + 1, rfl, row_new1 W (.cells #[.int .i64 (ndI k)] 3) 66 [.int .i64 (ndI k), .int .i64 2, .int .i64 1, .int .i64 0, .slice none 0 0, .slice none 0 0, .int .i64 0, .int .i64 0, .slice none 0 0, .int .i64 0]⟩
  case body =>
    rintro l k ⟨t, ds⟩ W hk2 hl hlp hI ⟨⟨hds, hts⟩, S, h3, hS⟩
    have hds : ds = [] := hds
    subst hds
    have htl := arr_eta 56 t hts
    simp only at h3
    generalize hv : (fun i => t.getD i undef) = v at htl
    have hv3 : v 3 = .pointer (some ⟨S, 0, none⟩) := by rw [← hv]; exact h3
    have htl2 : t = #[v 0, v 1, v 2, v 3, v 4, v 5, v 6, v 7, v 8, v 9, v 10, v 11, v 12, v 13, v 14, v 15, v 16, v 17, v 18, v 19, v 20, v 21, v 22, v 23, v 24, v 25, v 26, v 27, v 28, v 29, v 30, v 31, v 32, v 33, v 34, v 35, v 36, v 37, v 38, v 39, v 40, v 41, v 42, v 43, v 44, v 45, v 46, v 47, v 48, v 49, v 50, v 51, v 52, v 53, v 54, v 55] := htl
    clear hv htl h3 hts
    subst htl2
    rw [hv3]
    clear hv3
    have q1 := (show W.cell? ⟨S, 1, none⟩ = some (.int .i64 2) from hS.cell 1)
    have HIw := Lib.hid hI
    clear hI hS
    gi_wp2
    exact ⟨KeepsFrom.refl _ _, by have h := HIw.out; first | exact h | (rw [z2] at h; exact h)⟩
  case done =>
    intro D W hD hI hk
    have q0 := (show W.cell? ⟨w.heap.size, 0, none⟩ = some (.pointer (some ⟨P, 0, none⟩)) from hI.box1.cell 0)
    have c0 := hI.wk.c0
    have c6 := hI.wk.scan.c6
    have hlk := look59 hI.wk.scan 1 (.inl rfl)
    have hfd := field66
    have HIw := Lib.hid hI
    clear hI
    go_wp2
    exact leaves_mark hk ⟨.tuple #[], by simp [results, Tryz.results18, go_sem], ⟨_, rfl⟩, below_put HIw.out.below (by omega)⟩

def outG (A : Bool) (L : Nat) (k : Nat) (W : World) : Prop := if A = true then misL L k W else Row W L 55 [.slice none 0 0]
theorem outG.under {A : Bool} {L k : Nat} {W W' : World} (h : outG A L k W) (hb : Below W.heap.size W W') : outG A L k W' := by
  unfold outG at h ⊢
  split at h
  · rename_i hA; rw [if_pos hA]
    unfold misL at h ⊢
    split at h
    · rename_i hk; rw [if_pos hk]; exact h.below hb h.lt
    · rename_i hk; rw [if_neg hk]
      obtain ⟨g, c, cur, h1, h2⟩ := h
      exact ⟨g, c, cur, h1.below hb h1.lt, h2.below hb h2.lt⟩
  · rename_i hA; rw [if_neg hA]; exact h.below hb h.lt
theorem outG.turn {A : Bool} {L k bs : Nat} {W W' : World} {row : Option Nat} (h : outG A L k W) (t : TurnOk bs W W' row) : outG A L k W' := by
  unfold outG at h ⊢
  split at h
  · rename_i hA; rw [if_pos hA]
    unfold misL at h ⊢
    split at h
    · rename_i hk; rw [if_pos hk]; exact t.row h
    · rename_i hk; rw [if_neg hk]
      obtain ⟨g, c, cur, h1, h2⟩ := h
      exact ⟨g, c, cur, t.row h1, t.row h2⟩
  · rename_i hA; rw [if_neg hA]; exact t.row h
def manyOf (A : Bool) : List (Int × Value) := if A = true then [] else [(5, .int .i64 1)]
/-- what out answers: 5 while it has no place, nothing behind that -/
def OutPost (A : Bool) (w : World) (e : Ending) (w' : World) : Prop := (if A = true then ∃ g c, e = .returned (.slice (some ⟨g, 0, none⟩) 1 c) ∧ ∃ cur, Row w' g 3 (.int .i64 5 :: cur) else e = .returned (.slice none 0 0)) ∧ Below w.heap.size w w'
set_option maxHeartbeats 8000000 in
theorem call_out (A : Bool) (h : WkI base w P R m mo mm mt (manyOf A) nl np xl xp) : Calls Tryz.prog 44 #[.pointer (some ⟨P, 0, none⟩)] w (OutPost A w) := by
  obtain ⟨A1, e1⟩ : ∃ A, w.alloc (.cells #[.pointer (some ⟨P, 0, none⟩)] 72) = A := ⟨_, rfl⟩
  have z1 : A1.heap.size = w.heap.size + 1 := by rw [← e1, alloc_size]
  have r1 : Row A1 w.heap.size 72 [.pointer (some ⟨P, 0, none⟩)] := by rw [← e1]; exact Row.new w 72 _
  have b1 : Below w.heap.size w A1 := by rw [← e1]; exact below_alloc1 _ _
  obtain ⟨A2, e2⟩ : ∃ A, A1.alloc (.cells #[.slice none 0 0] 55) = A := ⟨_, rfl⟩
  have z2 : A2.heap.size = w.heap.size + 2 := by rw [← e2, alloc_size, z1]
  have r2 : Row A2 (w.heap.size + 1) 55 [.slice none 0 0] := by rw [← e2, ← z1]; exact Row.new A1 55 _
  have b2 : Below A1.heap.size A1 A2 := by rw [← e2]; exact below_alloc1 _ _
  have h2 := h.under (below_after b1 b2)
  have s0 := (show A2.cell? ⟨w.heap.size, 0, none⟩ = some (.pointer (some ⟨P, 0, none⟩)) from (r1.below b2 r1.lt).cell 0)
  have s1 := h2.c0
  obtain ⟨A3, e3⟩ : ∃ A, A2.alloc (.cells #[.pointer (some ⟨R, 0, none⟩)] 53) = A := ⟨_, rfl⟩
  have z3 : A3.heap.size = w.heap.size + 3 := by rw [← e3, alloc_size, z2]
  have r3 : Row A3 (w.heap.size + 2) 53 [.pointer (some ⟨R, 0, none⟩)] := by rw [← e3, ← z2]; exact Row.new A2 53 _
  have b3 : Below A2.heap.size A2 A3 := by rw [← e3]; exact below_alloc1 _ _
  have HI : Hid (EI (w.heap.size + 3) w (fun W => WkI base W P R m mo mm mt (manyOf A) nl np xl xp) P R w.heap.size (w.heap.size + 2) (outG A (w.heap.size + 1) 0) A3) := Lib.hid ⟨h2.under b3, (r1.below b2 r1.lt).below b3 (r1.below b2 r1.lt).lt, r3, by
    unfold outG
    split
    · unfold misL; rw [if_pos (by decide)]; exact r2.below b3 r2.lt
    · exact r2.below b3 r2.lt, below_after (below_after b1 b2) b3, by rw [z3]; exact Nat.le_refl _⟩
  have HM : Hid (m < w.heap.size + 3 ∧ mo < w.heap.size + 3 ∧ mm < w.heap.size + 3) := Lib.hid (by have := h.scan.map.lt; have := h.scan.own.lt; have := h.many.lt; omega)
  clear h h2 r1 r2 r3 b1 b2 b3
  refine (callsIn_wide (n := 9)).1 ?_
  refine callsIn_of_wp_marks Tryz.func44 rfl trivial ?_ rfl
  simp only [Tryz.ntmps44, List.size_toArray, List.length_cons, List.length_nil, Nat.reduceAdd, Nat.reduceSub, Array.replicate_succ, Array.replicate_zero, List.push_toArray, List.append_toArray, List.nil_append, List.cons_append]
  refine wpIn_wide.2 ?_
  go_wp2_with (go_at_call 16; refine (call_each0 _ _).mono ?_; rintro e w3 ⟨rfl, rfl⟩)
  refine wp_range_each (B := w.heap.size + 2) (R := R) (m := m) rfl rfl (fun k W => EI A3.heap.size w (fun W => WkI base W P R m mo mm mt (manyOf A) nl np xl xp) P R w.heap.size (w.heap.size + 2) (outG A (w.heap.size + 1) k) W) (fun k s A B row h hg hr => h.turn (fun _ _ _ h t => h.turn t) ⟨hg, hr⟩ (by rw [z3]; exact HM.out) (by omega)) (fun k W h => h.wk.scan.each h.box2) (by rw [z3]; exact HI.out)
    (fun k a' W => a'.defers = [] ∧ a'.tmps.size = 30 ∧ a'.tmps.getD 1 undef = .pointer (some ⟨w.heap.size, 0, none⟩) ∧ a'.tmps.getD 3 undef = .pointer (some ⟨w.heap.size + 1, 0, none⟩) ∧ a'.tmps.getD 4 undef = .int .i64 (ndI k)) (fun k a' s A B row h hg hr => h) ?assign ?body ?done
  case assign =>
    intro l k W K hk2 hI hK
    rw [encE_eq]
    simp
    gi_wp2
    exact hK _ _ (KeepsFrom.refl _ _) hI ⟨rfl, rfl, rfl, rfl, rfl⟩
  case body =>
    rintro l k ⟨t, ds⟩ W hk2 hl hlp hI ⟨hds, hts, h1, h3, h4⟩
    have hds : ds = [] := hds
    subst hds
    have htl := arr_eta 30 t hts
    simp only at h1 h3 h4
    generalize hv : (fun i => t.getD i undef) = v at htl
    have hv1 : v 1 = .pointer (some ⟨w.heap.size, 0, none⟩) := by rw [← hv]; exact h1
    have hv3 : v 3 = .pointer (some ⟨w.heap.size + 1, 0, none⟩) := by rw [← hv]; exact h3
    have hv4 : v 4 = .int .i64 (ndI k) := by rw [← hv]; exact h4
    have htl2 : t = #[v 0, v 1, v 2, v 3, v 4, v 5, v 6, v 7, v 8, v 9, v 10, v 11, v 12, v 13, v 14, v 15, v 16, v 17, v 18, v 19, v 20, v 21, v 22, v 23, v 24, v 25, v 26, v 27, v 28, v 29] := htl
    clear hv htl h1 h3 h4 hts
    subst htl2
    rw [hv1, hv3, hv4]
    clear hv1 hv3 hv4
    have q0 := (show W.cell? ⟨w.heap.size, 0, none⟩ = some (.pointer (some ⟨P, 0, none⟩)) from hI.box1.cell 0)
    have c1 := hI.wk.c1
    have hlk := hI.wk.many.look Tryz.underlying60 Tryz.underlying3 (zero3 W) (ndI k)
    have HIw := Lib.hid hI
    rcases (show k = 0 ∨ k = 1 by omega) with rfl | rfl
    · have e : ndI 0 = 1 := rfl
      rw [e] at hlk ⊢
      have e2 : (atI (manyOf A) 1).getD (.int .i64 0) = .int .i64 0 := by cases A <;> rfl
      rw [e2] at hlk
      clear hI e2
      gi_wp2_with (refine ⟨trivial, ?_⟩; gi_at_call 19; refine (CallsIn.inRound l (callsIn_wide.2 (call_isRoot1 HIw.out.wk))).mono ?_; rintro e w9 ⟨rfl, rfl⟩)
      exact ⟨KeepsFrom.refl _ _, HIw.out.wk, HIw.out.box1, HIw.out.box2, by have h := HIw.out.l; unfold outG misL at h ⊢; exact h, HIw.out.below, by have := HIw.out.size; omega⟩
    · have e : ndI 1 = 5 := rfl
      rw [e] at hlk ⊢
      cases A with
      | false =>
        have e2 : (atI (manyOf false) 5).getD (.int .i64 0) = .int .i64 1 := rfl
        rw [e2] at hlk
        clear hI e2
        gi_wp2
        refine ⟨trivial, ?_⟩
        gi_wp2
        exact ⟨KeepsFrom.refl _ _, HIw.out.wk, HIw.out.box1, HIw.out.box2, by have h := HIw.out.l; unfold outG at h ⊢; exact h, HIw.out.below, by have := HIw.out.size; omega⟩
      | true =>
        have e2 : (atI (manyOf true) 5).getD (.int .i64 0) = .int .i64 0 := rfl
        rw [e2] at hlk
        have hll : Row W (w.heap.size + 1) 55 [.slice none 0 0] := by
          have h := hI.l
          unfold outG misL at h
          exact h
        have l0 := (show W.cell? ⟨w.heap.size + 1, 0, none⟩ = some (.slice none 0 0) from hll.cell 0)
        have l1 := hll.free 0
        have HLl := Lib.hid hll
        have HNa := Lib.hid (Row.new W 3 [.int .i64 5])
        have HBa := Lib.hid (below_alloc1 W (.cells #[.int .i64 5] 3))
        have HLa := Lib.hid (HLl.out.alloc (.cells #[.int .i64 5] 3))
        obtain ⟨i0, hi, hz0, hz1, hz2⟩ := info_parts info3
        clear hI hll e2
        gi_wp2_with (first
          | (refine ⟨trivial, ?_⟩; gi_at_call 19; refine (CallsIn.inRound l (callsIn_wide.2 (call_isRoot5 HIw.out.wk))).mono ?_; rintro e w8 ⟨rfl, rfl⟩)
          | (refine wpListIn_append_own _ rfl _ _ 55 rfl _ 3 i0 (.int .i64 0) 1 8 Tryz.underlying55 hi hz0 hz1 hz2 rfl (by decide) (.slice none 0 0) 0 [] (by rfl) (World.ownsRow_nil _ _ _ _) ⟨_, 0, none⟩ 1 1 [.int .i64 5] (by rfl) rfl HNa.out.cells (by decide) (by decide) (by decide) (Nat.le_refl _) ?_; intro v9 w9 h1 h2 h3; obtain ⟨a9, n9, c9, rfl⟩ := own_isS h1; have H9 := Lib.hid h1; have HB9 := Lib.hid (below_after HBa.out ⟨h2.os, h2.tape, h2.output, h2.size, fun k hk => h2.block k hk (by intro e; cases e)⟩); have hl9 := (h2.block _ HLa.out.lt (by intro e; cases e)).trans HLa.out; have HL9 := Lib.hid (show Row w9 (w.heap.size + 1) 55 [.slice none 0 0] from hl9); clear h1 h2 h3 l0 l1; have l0 := (show w9.cell? ⟨w.heap.size + 1, 0, none⟩ = some (.slice none 0 0) from HL9.out.cell 0); have l1 := HL9.out.free 0))
        have hM9 := HIw.out.under (fun _ _ h hb => h.under hb) HB9.out
        rcases H9.out.2 with ⟨_, h1⟩ | ⟨g, cap, cur, hve, hgb, hg, hn, _, _, ht⟩
        · cases h1
        · injection hve with e1 e2 e3
          subst e1
          subst e2
          have hcur : ∃ rest, cur.toList = .int .i64 5 :: rest := by
            match hcl : cur.toList with
            | [] => rw [hcl] at ht; cases ht
            | x :: rest => rw [hcl] at ht; injection ht with hx _; exact ⟨rest, by rw [hx]⟩
          obtain ⟨rest, hcur⟩ := hcur
          have hG : Row w9 g 3 (.int .i64 5 :: rest) := by
            show w9.heap[g]? = _
            rw [← hcur]
            exact hg
          have ho : ∀ {b T : Nat} {cs : List Value}, Row w9 b T cs → T ≠ 55 → Row (w9.setCell ⟨w.heap.size + 1, 0, none⟩ (.slice (some ⟨g, 0, none⟩) (0 + 1) c9)) b T cs := fun hr hT => (Below.heap_setCell w9 ⟨w.heap.size + 1, 0, none⟩ _ _ (row_ne hr HL9.out hT)).trans hr
          have hom : ∀ {b : Nat} {L : List (Int × Value)}, MapI w9 b L → MapI (w9.setCell ⟨w.heap.size + 1, 0, none⟩ (.slice (some ⟨g, 0, none⟩) (0 + 1) c9)) b L := fun hm => hm.set _ _ (cells_ne_map HL9.out hm).symm
          obtain ⟨vo, hsr⟩ := hM9.wk.scan.row
          obtain ⟨vl, vp, hp1, hp2, hp3⟩ := hM9.wk.ex
          have hw : WkI base (w9.setCell ⟨w.heap.size + 1, 0, none⟩ (.slice (some ⟨g, 0, none⟩) (0 + 1) c9)) P R m mo mm mt (manyOf true) nl np xl xp :=
            ⟨⟨⟨vo, ho hsr (by decide)⟩, hom hM9.wk.scan.map, hom hM9.wk.scan.own⟩, ⟨vl, vp, ho hp1 (by decide), ownsRow_setCell_other hp2 (a := ⟨w.heap.size + 1, 0, none⟩) (fun e => own_ne_block HL9.out hp2 (by decide) e) _, ownsRow_setCell_other hp3 (a := ⟨w.heap.size + 1, 0, none⟩) (fun e => own_ne_block HL9.out hp3 (by decide) e) _⟩, hom hM9.wk.many, hM9.wk.lowP⟩
          refine ⟨(KeepsFrom.of_below HB9.out).trans ((KeepsOthers.setCell _ _ _).from _), hw, ho hM9.box1 (by decide), ho hM9.box2 (by decide), ?_, hM9.below.setCell (p := ⟨w.heap.size + 1, 0, none⟩) (Nat.le_succ _) _, by have := hM9.size; simp only [World.setCell, Array.size_modify]; omega⟩
          unfold outG misL
          exact ⟨g, c9, rest, HL9.out.set 0 _, ho hG (by decide)⟩
  case done =>
    intro D W hD hI hk
    cases A with
    | false =>
      have hll : Row W (w.heap.size + 1) 55 [.slice none 0 0] := by have h := hI.l; unfold outG at h; exact h
      have q0 := (show W.cell? ⟨w.heap.size + 1, 0, none⟩ = some (.slice none 0 0) from hll.cell 0)
      have HIw := Lib.hid hI
      clear hI hll
      go_wp2
      refine leaves_mark hk ⟨.slice none 0 0, by simp [results, Tryz.results44, go_sem], ?_⟩
      exact ⟨rfl, below_put HIw.out.below (by omega)⟩
    | true =>
      have hll : misL (w.heap.size + 1) 2 W := by have h := hI.l; unfold outG at h; exact h
      unfold misL at hll
      rw [if_neg (by decide)] at hll
      obtain ⟨g, c, cur, hl1, hl2⟩ := hll
      have q0 := (show W.cell? ⟨w.heap.size + 1, 0, none⟩ = some (.slice (some ⟨g, 0, none⟩) 1 c) from hl1.cell 0)
      have HIw := Lib.hid hI
      have HL2 := Lib.hid hl2
      clear hI hl1 hl2
      go_wp2
      refine leaves_mark hk ⟨.slice (some ⟨g, 0, none⟩) 1 c, by simp [results, Tryz.results44, go_sem], ?_⟩
      have hne : g ≠ D := fun e => by
        have h : W.heap[g]? = _ := HL2.out
        rw [e, hk] at h
        cases h
      have hr : Row (W.putObj D (.deferred none)) g 3 (.int .i64 5 :: cur) := (World.putObj_heap_other hne).trans HL2.out
      exact ⟨⟨g, c, rfl, cur, hr⟩, below_put HIw.out.below (by omega)⟩
end
end Go.Proofs.YtgoogbakhhbnhaaGreatDoor.Ar
