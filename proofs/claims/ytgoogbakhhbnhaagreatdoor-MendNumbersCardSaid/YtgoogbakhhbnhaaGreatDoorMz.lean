/-
  Mend, z: hanging, miscounted.
-/
import Derived.Test.YtgoogbakhhbnhaaGreatDoorMy
import Derived.Test.YtgoogbakhhbnhaaGreatDoorMw
set_option linter.unusedVariables false
set_option linter.unusedSimpArgs false
set_option maxRecDepth 100000
namespace Go.Proofs.YtgoogbakhhbnhaaGreatDoor.Ar
open Go.RowKit Go.Sort Go.Lib Go.Proofs.YtgoogbakhhbnhaaGreatDoor.Rs
attribute [local go_sem] Oper.semAt_some
def ndI (k : Nat) : Int := if k = 0 then 1 else 5
theorem encE_eq (k : Nat) : encE k = #[.int .i64 (ndI k), .agg #[.int .i64 (ndI k), .int .i64 2, .int .i64 1, .int .i64 0, .slice none 0 0, .slice none 0 0, .int .i64 0, .int .i64 0, .slice none 0 0, .int .i64 0]] := by
  cases k <;> rfl
/-- what a loop's own facts abide -/
theorem ownFrom_of {base : Nat} {I : World → Prop} (hs : ∀ W W', I W → Below base W W' → I W') (hz : ∀ W, I W → base ≤ W.heap.size) : OwnFrom base (fun (_ : Unit) W => I W) := fun s A B row hI hg hr =>
  hs A B hI ⟨hg.os, hg.tape, hg.output, hg.size, fun k hk => hg.block k (Nat.lt_of_lt_of_le hk (hz A hI)) (fun e => by have := (hr k e.symm).1; omega)⟩
/-- a round's variables: the node lies in a block of its own -/
theorem ownFrom_row {base T : Nat} {cur : List Value} {X : Nat → Prop} : OwnFrom base (fun (_ : Unit) W => ∃ S, X S ∧ Row W S T cur) := fun s A B row hI hg hr => by
  obtain ⟨S, hX, hR⟩ := hI
  refine ⟨S, hX, (hg.block S hR.lt (fun e => ?_)).trans hR⟩
  obtain ⟨o, ho, hc⟩ := (hr S e.symm).2
  have h2 : A.heap[S]? = _ := hR
  rw [h2] at ho
  cases ho
  cases hc
theorem ScanOk.each {W : World} {R m mo B : Nat} (h : ScanOk W R m mo) (hb : Row W B 53 [.pointer (some ⟨R, 0, none⟩)]) : EachOk W B R m := ⟨hb, h.c1, h.c6, h.map⟩
theorem KeepsFrom.of_below {B : Nat} {W W' : World} (h : Below W.heap.size W W') : KeepsFrom B W W' := ⟨h.size, fun k o _ hk _ => (h.block k (Array.getElem?_eq_some_iff.1 hk).1).trans hk⟩
/-- the walk of hanging -/
structure HanI (base : Nat) (w W : World) (R m mo : Nat) : Prop where
  scan : ScanOk W R m mo
  box1 : Row W w.heap.size 53 [.pointer (some ⟨R, 0, none⟩)]
  lst : Row W (w.heap.size + 1) 55 [.slice none 0 0]
  box2 : Row W (w.heap.size + 2) 53 [.pointer (some ⟨R, 0, none⟩)]
  below : Below w.heap.size w W
  size : base ≤ W.heap.size
theorem HanI.under {base : Nat} {w W W' : World} {R m mo : Nat} (h : HanI base w W R m mo) (hR : R < base ∧ m < base ∧ mo < base ∧ w.heap.size + 2 < base) (hb : Below base W W') : HanI base w W' R m mo := by
  obtain ⟨vo, hr⟩ := h.scan.row
  have k : ∀ {b : Nat} {o : Obj}, b < base → W.heap[b]? = some o → W'.heap[b]? = some o := fun hlt h => (hb.block _ hlt).trans h
  exact ⟨⟨⟨vo, k hR.1 hr⟩, k hR.2.1 h.scan.map, k hR.2.2.1 h.scan.own⟩, k (by omega) h.box1, k (by omega) h.lst, k hR.2.2.2 h.box2, h.below.trans (hb.mono (by omega)), Nat.le_trans h.size hb.size⟩
set_option maxHeartbeats 8000000 in
theorem call_hanging (R m mo : Nat) (w : World) (hs : ScanOk w R m mo) :
    Calls Tryz.prog 13 #[.pointer (some ⟨R, 0, none⟩)] w fun e w' => e = .returned (.slice none 0 0) ∧ Below w.heap.size w w' := by
  have h1 := (Row.new w 53 [.pointer (some ⟨R, 0, none⟩)]).below (below_alloc1 _ (.cells #[.slice none 0 0] 55)) (by simp)
  have h2 := row_new1 w (.cells #[.pointer (some ⟨R, 0, none⟩)] 53) 55 [.slice none 0 0]
  have hb2 := below_alloc2 w (.cells #[.pointer (some ⟨R, 0, none⟩)] 53) (.cells #[.slice none 0 0] 55)
  have hz : ((w.alloc (.cells #[.pointer (some ⟨R, 0, none⟩)] 53)).alloc (.cells #[.slice none 0 0] 55)).heap.size = w.heap.size + 2 := by rw [alloc_size, alloc_size]
  have s0 := (show World.cell? ((w.alloc (.cells #[.pointer (some ⟨R, 0, none⟩)] 53)).alloc (.cells #[.slice none 0 0] 55)) ⟨w.heap.size, 0, none⟩ = some (.pointer (some ⟨R, 0, none⟩)) from h1.cell 0)
  have hs2 := hs.below hb2
  have hI0 : HanI (w.heap.size + 3) w (((w.alloc (.cells #[.pointer (some ⟨R, 0, none⟩)] 53)).alloc (.cells #[.slice none 0 0] 55)).alloc (.cells #[.pointer (some ⟨R, 0, none⟩)] 53)) R m mo := by
    have hb3 := below_alloc1 ((w.alloc (.cells #[.pointer (some ⟨R, 0, none⟩)] 53)).alloc (.cells #[.slice none 0 0] 55)) (.cells #[.pointer (some ⟨R, 0, none⟩)] 53)
    have h3 := Row.new ((w.alloc (.cells #[.pointer (some ⟨R, 0, none⟩)] 53)).alloc (.cells #[.slice none 0 0] 55)) 53 [.pointer (some ⟨R, 0, none⟩)]
    rw [hz] at h3
    exact ⟨hs2.below hb3, h1.below hb3 h1.lt, h2.below hb3 h2.lt, h3, below_after hb2 hb3, by rw [alloc_size, hz]; exact Nat.le_refl _⟩
  have HR : Hid (R < w.heap.size + 3 ∧ m < w.heap.size + 3 ∧ mo < w.heap.size + 3 ∧ w.heap.size + 2 < w.heap.size + 3) := Lib.hid (by have := hs.lt; have := hs.map.lt; have := hs.own.lt; omega)
  have HI := Lib.hid hI0
  have HZ := Lib.hid hz
  clear h1 h2 hb2 hs2 hI0 hs hz
  refine (callsIn_wide (n := 9)).1 ?_
  refine callsIn_of_wp_marks Tryz.func13 rfl trivial ?_ rfl
  simp only [Tryz.ntmps13, List.size_toArray, List.length_cons, List.length_nil, Nat.reduceAdd, Nat.reduceSub, Array.replicate_succ, Array.replicate_zero, List.push_toArray, List.append_toArray, List.nil_append, List.cons_append]
  refine wpIn_wide.2 ?_
  go_wp2_with (go_at_call 16; refine (call_each0 _ _).mono ?_; rintro e w3 ⟨rfl, rfl⟩)
  have hsz : (((w.alloc (.cells #[.pointer (some ⟨R, 0, none⟩)] 53)).alloc (.cells #[.slice none 0 0] 55)).alloc (.cells #[.pointer (some ⟨R, 0, none⟩)] 53)).heap.size = w.heap.size + 3 := by rw [alloc_size, HZ.out]
  generalize (((w.alloc (.cells #[.pointer (some ⟨R, 0, none⟩)] 53)).alloc (.cells #[.slice none 0 0] 55)).alloc (.cells #[.pointer (some ⟨R, 0, none⟩)] 53)) = w3 at *
  refine wp_range_each (B := w.heap.size + 2) (R := R) (m := m) rfl rfl (fun _ W => HanI w3.heap.size w W R m mo) (fun k => ownFrom_of (fun W W' h hb => h.under (by rw [hsz]; exact HR.out) hb) (fun W h => h.size)) (fun k W h => h.scan.each h.box2) (by rw [hsz]; exact HI.out)
    (fun k a' W => (a'.defers = [] ∧ a'.tmps.size = 19 ∧ a'.tmps.getD 1 undef = .pointer (some ⟨w.heap.size, 0, none⟩) ∧ a'.tmps.getD 3 undef = .pointer (some ⟨w.heap.size + 1, 0, none⟩)) ∧ ∃ S, a'.tmps.getD 5 undef = .pointer (some ⟨S, 0, none⟩) ∧ Row W S 66 [.int .i64 (ndI k), .int .i64 2, .int .i64 1, .int .i64 0, .slice none 0 0, .slice none 0 0, .int .i64 0, .int .i64 0, .slice none 0 0, .int .i64 0]) (fun k a' s A B row h hg hr => ⟨h.1, ownFrom_row () A B row h.2 hg hr⟩) ?assign ?body ?done
  case assign =>
    intro l k W K hk2 hI hK
    rw [encE_eq]
    simp
    gi_wp2
    have hb := below_alloc1 W (.cells #[.int .i64 (ndI k), .int .i64 2, .int .i64 1, .int .i64 0, .slice none 0 0, .slice none 0 0, .int .i64 0, .int .i64 0, .slice none 0 0, .int .i64 0] 66)
    exact hK _ _ (KeepsFrom.of_below hb) (hI.under (by rw [hsz]; exact HR.out) (hb.mono hI.size)) ⟨⟨rfl, rfl, rfl, rfl⟩, W.heap.size, rfl, Row.new W 66 [.int .i64 (ndI k), .int .i64 2, .int .i64 1, .int .i64 0, .slice none 0 0, .slice none 0 0, .int .i64 0, .int .i64 0, .slice none 0 0, .int .i64 0]⟩
  case body =>
    rintro l k ⟨t, ds⟩ W hk2 hl hlp hI ⟨⟨hds, hts, h1, h3⟩, S, h5, hS⟩
    have hds : ds = [] := hds
    subst hds
    have htl := arr_eta 19 t hts
    simp only at h1 h3 h5
    generalize hv : (fun i => t.getD i undef) = v at htl
    have hv1 : v 1 = .pointer (some ⟨w.heap.size, 0, none⟩) := by rw [← hv]; exact h1
    have hv3 : v 3 = .pointer (some ⟨w.heap.size + 1, 0, none⟩) := by rw [← hv]; exact h3
    have hv5 : v 5 = .pointer (some ⟨S, 0, none⟩) := by rw [← hv]; exact h5
    have htl2 : t = #[v 0, v 1, v 2, v 3, v 4, v 5, v 6, v 7, v 8, v 9, v 10, v 11, v 12, v 13, v 14, v 15, v 16, v 17, v 18] := htl
    clear hv htl h1 h3 h5 hts
    subst htl2
    rw [hv1, hv3, hv5]
    clear hv1 hv3 hv5
    have q5 := (show W.cell? ⟨S, 5, none⟩ = some (.slice none 0 0) from hS.cell 5)
    have HIw := Lib.hid hI
    clear hI hS
    gi_wp2
    refine ⟨trivial, (CallsIn.inRound l (callsIn_wide.2 (call_contF _ ⟨_, _, _, rfl⟩ _))).mono ?_⟩
    rintro e w9 ⟨rfl, rfl⟩
    gi_wp2
    exact ⟨KeepsFrom.refl _ _, HIw.out⟩
  case done =>
    intro D W hD hI hk
    have q0 := (show W.cell? ⟨w.heap.size + 1, 0, none⟩ = some (.slice none 0 0) from hI.lst.cell 0)
    have HIw := Lib.hid hI
    clear hI
    go_wp2
    exact leaves_mark hk ⟨.slice none 0 0, by simp [results, Tryz.results13, go_sem], rfl, below_put HIw.out.below (by omega)⟩
end Go.Proofs.YtgoogbakhhbnhaaGreatDoor.Ar
