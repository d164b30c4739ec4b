/-
  Mend, t: ranges over functions: one that yields nothing; 'each'.
-/
import Derived.Test.YtgoogbakhhbnhaaGreatDoorRr
import Derived.RangeFuncNested
import Derived.RangeFuncBound
import Derived.RangeFuncCalls
import Derived.RangeFuncLeaves
import Derived.WalkKit
import Derived.OwnWalkIn
import Derived.TacticsInMore
import Derived.LoopNIn
import Derived.LoopIn
import Derived.Shelf.Abstract
set_option linter.unusedVariables false
set_option linter.unusedSimpArgs false
set_option maxRecDepth 100000
namespace Go.Proofs.YtgoogbakhhbnhaaGreatDoor.Ar
open Go.RowKit Go.Sort Go.Lib Go.Proofs.YtgoogbakhhbnhaaGreatDoor.Rs
attribute [local go_sem] Oper.semAt_some
theorem ownFromB {N : Nat} {w : World} (hn : N ≤ w.heap.size) : OwnFrom w.heap.size (fun (_ : List Empty) W => Below N w W ∧ w.heap.size ≤ W.heap.size) := fun s A B row hs hg hr => by
  have hsz := hg.size
  exact ⟨hs.1.grown hg (Nat.le_trans hn hs.2) (fun r e => by have := (hr r e).1; omega), Nat.le_trans hs.2 hsz⟩
/-- a range over a function that yields nothing -/
theorem wp_range_none {g : Operand} {ps : Array Tmp} {assign body : Code} {Q : Exit → Act → World → Prop} {a : Act} {w : World} {gf : Nat} {lb : Array Value} (hg : a.eval g = .func (.func gf) #[] lb)
    (eg : ∀ args w, (callFunc gf args).run Tryz.prog w = .ok (.enter gf args) w)
    (hcall : ∀ (l : Nat) (W : World), Below w.heap.size w W → Calls Tryz.prog gf (#[.func (.yield l) #[] #[]] ++ lb) W fun e W' => (∃ v, e = .returned v) ∧ Below W.heap.size W W')
    (hdone : ∀ (D : Nat) (W : World), w.heap.size ≤ D → Below w.heap.size w W → W.heap[D]? = some (.deferred (some [])) → Q .normal { a with defers := { target := .collected D, args := #[] } :: a.defers } W) :
    (Code.rangeFunc g ps assign body).wp Tryz.prog Q a w := by
  refine (wpIn_wide (n := 9)).1 ?_
  have hseq : SeqStopsK (α := Empty) Fence.wide (9 - 1) Tryz.prog gf lb (fun x => nomatch x) (fun _ _ => True) (fun _ => True) (fun _ => False) 0 w := by
    intro l J Jx W hW hJ hJx hY h0
    refine callsIn_wide.2 ((hcall l W hW).mono ?_)
    rintro e W' ⟨⟨v, rfl⟩, hb⟩
    exact ⟨⟨v, rfl⟩, .inl ⟨[], trivial, hJ [] W W' none h0 (grown_of_below hb none) (fun r e => by cases e)⟩⟩
  exact wpIn_rangeFunc_ownH (F := Fence.wide) (n := 9) rfl (by decide) hg trivial eg hseq (fun _ _ => trivial) (fun _ _ _ _ _ _ _ _ => trivial) (Below.refl _ _) (fun x => nomatch x)
    (fun _ W => Below w.heap.size w W ∧ w.heap.size ≤ W.heap.size) (fun _ _ _ => False) (ownFromB (Nat.le_refl _)) (fun c s A B row hs _ _ => hs) ⟨Below.refl _ _, Nat.le_refl _⟩ (fun x => nomatch x) (fun x => nomatch x) (fun _ _ x => nomatch x) (fun _ _ x => nomatch x)
    (fun D xs W hD _ hI hk => hdone D W hD hI.1 hk) (fun _ _ _ _ _ h _ => h.elim)
/-- the pages of a node that has none -/
theorem call_data1 (v : Value) (B : Nat) (i k l : Int) (w : World) (hr : Row w B 66 (nodeL i k l)) :
    Calls Tryz.prog 64 #[v, .pointer (some ⟨B, 0, none⟩)] w fun e w' => (∃ v, e = .returned v) ∧ w' = w := by
  have s4 := (show w.cell? ⟨B, 4, none⟩ = some (.slice none 0 0) from hr.cell 4)
  clear hr
  go_enter Tryz.func64, Tryz.ntmps64
  go_wp2
  go_loopw [9] (fun iv wr => iv = .int .i64 0 ∧ wr = w) (fun _ _ => 0)
  case atStart => exact ⟨rfl, rfl⟩
  case round =>
    obtain ⟨rfl, rfl⟩ := hrel
    go_wp2
    go_end0
    exact ⟨⟨_, rfl⟩, rfl⟩
theorem call_dataOf (i k l : Int) (w : World) :
    Calls Tryz.prog 41 #[.agg (nodeL i k l).toArray] w fun e w' => e = .returned (.func (.func 64) #[] #[.pointer (some ⟨w.heap.size, 0, none⟩)]) ∧ Row w' w.heap.size 66 (nodeL i k l) ∧ Below w.heap.size w w' := by
  have h := Row.new w 66 (nodeL i k l)
  have hb := below_alloc1 w (.cells (nodeL i k l).toArray 66)
  unfold nodeL at *
  go_enter Tryz.func41, Tryz.ntmps41
  go_wp2
  go_ret
  exact ⟨rfl, h, hb⟩
theorem call_pagesOf (i k l : Int) (w : World) :
    Calls Tryz.prog 35 #[.agg (nodeL i k l).toArray] w fun e w' => e = .returned (.func (.func 62) #[] #[.pointer (some ⟨w.heap.size, 0, none⟩)]) ∧ Row w' w.heap.size 66 (nodeL i k l) ∧ Below w.heap.size w w' := by
  have h := Row.new w 66 (nodeL i k l)
  have hb := below_alloc1 w (.cells (nodeL i k l).toArray 66)
  unfold nodeL at *
  go_enter Tryz.func35, Tryz.ntmps35
  go_wp2
  go_ret
  exact ⟨rfl, h, hb⟩
theorem call_each0 (R : Option Addr) (w : World) :
    Calls Tryz.prog 16 #[.pointer R] w fun e w' => e = .returned (.func (.func 40) #[] #[.pointer (some ⟨w.heap.size, 0, none⟩)]) ∧ w' = w.alloc (.cells #[.pointer R] 53) := by
  go_enter Tryz.func16, Tryz.ntmps16
  go_wp2
  go_ret
  exact ⟨rfl, rfl⟩
/-- a frame's leave behind one mark -/
theorem leaves_mark {F : Fence} {n : Nat} {fn : Func} {tmps : Array Value} {R : Ending → World → Prop} {D : Nat} {ds : List Deferred} {W : World} (hk : W.heap[D]? = some (.deferred (some [])))
    (h : LeavesInM F n Tryz.prog fn tmps R ds .returning (W.putObj D (.deferred none))) : LeavesInM F n Tryz.prog fn tmps R ({ target := .collected D, args := #[] } :: ds) .returning W :=
  ⟨by simp, .inl ⟨_, _, rfl, run_takeDeferred hk, h⟩⟩
theorem below_put {N : Nat} {w W : World} {D : Nat} {o : Obj} (h : Below N w W) (hD : N ≤ D) : Below N w (W.putObj D o) :=
  ⟨h.os, h.tape, h.output, by simpa [World.putObj] using h.size, fun k hk => (World.putObj_heap_other (by omega)).trans (h.block k hk)⟩
set_option maxHeartbeats 2000000 in
theorem call_pages1 (y B : Nat) (i k l : Int) (w : World) (hr : Row w B 66 (nodeL i k l)) :
    Calls Tryz.prog 62 #[.func (.yield y) #[] #[], .pointer (some ⟨B, 0, none⟩)] w fun e w' => (∃ v, e = .returned v) ∧ Below w.heap.size w w' := by
  have HR := Lib.hid (hr.alloc (.cells #[.func (.yield y) #[] #[]] 78))
  have HB := Lib.hid (below_alloc1 w (.cells #[.func (.yield y) #[] #[]] 78))
  have s8 := (show World.cell? (w.alloc (.cells #[.func (.yield y) #[] #[]] 78)) ⟨B, 8, none⟩ = some (.slice none 0 0) from HR.out.cell 8)
  clear hr
  refine (callsIn_wide (n := 9)).1 ?_
  refine callsIn_of_wp_marks Tryz.func62 rfl trivial ?_ rfl
  simp only [Tryz.ntmps62, List.size_toArray, List.length_cons, List.length_nil, Nat.reduceAdd, Nat.reduceSub, Array.replicate_succ, Array.replicate_zero, List.push_toArray, List.append_toArray, List.nil_append, List.cons_append]
  refine wpIn_wide.2 ?_
  go_wp2
  generalize w.alloc (.cells #[.func (.yield y) #[] #[]] 78) = w1 at *
  go_loopw [9] (fun iv wr => iv = .int .i64 0 ∧ wr = w1) (fun _ _ => 0)
  case atStart => exact ⟨rfl, rfl⟩
  case round =>
    obtain ⟨rfl, rfl⟩ := hrel
    go_wp2_with (first
      | (refine wpList_load_row rfl 66 _ rfl B rfl 66 (nodeL i k l).toArray (0, 0) _ HR.out Tryz.underlying66 rfl (by kernel_rfl) ?_)
      | (go_at_call 41; refine (call_dataOf i k l _).mono ?_; rintro e w2 ⟨rfl, hr, hb⟩; have HR2 := Lib.hid hr; have HB2 := Lib.hid (below_after HB.out hb); clear hr hb))
    refine wp_range_none rfl (enters_of Tryz.func64 (by kernel_rfl) rfl) (fun y W hW => (call_data1 _ _ i k l W (HR2.out.below hW HR2.out.lt)).mono fun e W' h => ⟨h.1, by rw [h.2]; exact Below.refl _ _⟩) ?_
    intro D W hD hW hk
    go_wp2
    refine leaves_mark hk ⟨.tuple #[], by simp [results, Tryz.results62, go_sem], ⟨_, rfl⟩, below_put (below_after HB2.out hW) ?_⟩
    have := HB2.out.size
    omega
/-- what 'each' reads between two rounds: the example's two directories -/
structure EachOk (W : World) (B R m : Nat) : Prop where
  box : Row W B 53 [.pointer (some ⟨R, 0, none⟩)]
  num : W.cell? ⟨R, 1, none⟩ = some (.int .i64 8)
  nodes : W.cell? ⟨R, 6, none⟩ = some (.map (some m))
  map : MapI W m [(1, .agg (nodeL 1 2 1).toArray), (5, .agg (nodeL 5 2 1).toArray)]
def encE : Nat → Array Value
  | 0 => #[.int .i64 1, .agg (nodeL 1 2 1).toArray]
  | _ => #[.int .i64 5, .agg (nodeL 5 2 1).toArray]
def phase (j : Nat) : Nat := if j ≤ 1 then 0 else if j ≤ 5 then 1 else 2
theorem zero66 (w : World) : (zeroValue 66).run Tryz.prog w = .ok (.agg (nodeL 0 0 0).toArray) w := Tryz.zeroValue66 w
theorem atI_mid {j : Nat} (h1 : ¬ j = 1) (h5 : ¬ j = 5) : atI [(1, Value.agg (nodeL 1 2 1).toArray), (5, .agg (nodeL 5 2 1).toArray)] (j : Int) = none := by
  simp only [atI]
  rw [if_neg (by omega), if_neg (by omega)]
set_option maxHeartbeats 8000000 in
theorem call_each (n B R m l : Nat) (hn : 1 ≤ n) (J : Nat → World → Prop) (hJb : ∀ k X Y, J k X → Below X.heap.size X Y → J k Y) (hE : ∀ k W, J k W → EachOk W B R m)
    (hY : ∀ k W1, k < 2 → J k W1 → YieldAt Fence.wide (n - 1) Tryz.prog l (encE k) W1 fun e W' => e = .returned (.bool true) ∧ J (k + 1) W') (W : World) (h0 : J 0 W) :
    CallsIn Fence.wide n Tryz.prog 40 #[.func (.yield l) #[] #[], .pointer (some ⟨B, 0, none⟩)] W fun e W' => (∃ v, e = .returned v) ∧ J 2 W' := by
  have HJ := Lib.hid hJb
  have HE := Lib.hid hE
  have HY := Lib.hid hY
  have H0 := Lib.hid h0
  have hdep : ∀ m, Fence.wide.depth.isSome = true → 1 ≤ m := fun m h => by cases h
  clear hJb hE hY h0
  refine callsIn_of_wp Tryz.func40 rfl trivial ?_ rfl
  simp only [Tryz.ntmps40, List.size_toArray, List.length_cons, List.length_nil, Nat.reduceAdd, Nat.reduceSub, Array.replicate_succ, Array.replicate_zero, List.push_toArray, List.append_toArray, List.nil_append, List.cons_append]
  gi_wp2
  gi_loopw [3] (fun iv wr => ∃ j : Nat, iv = .int .i64 j ∧ 1 ≤ j ∧ j ≤ 9 ∧ J (phase j) wr) (fun iv _ => 9 - (RowKit.intOf iv).toNat)
  case atStart => exact ⟨1, rfl, Nat.le_refl _, by decide, H0.out⟩
  case round =>
    obtain ⟨j, rfl, hj1, hj9, hj⟩ := hrel
    have HJr := Lib.hid hj
    have he := HE.out _ _ hj
    have b0 := (show wr.cell? ⟨B, 0, none⟩ = some (.pointer (some ⟨R, 0, none⟩)) from he.box.cell 0)
    have r1 := he.num
    have r6 := he.nodes
    have hl := he.map.lookOk Tryz.underlying59 Tryz.underlying3 (zero66 wr) (j : Int)
    by_cases hlast : j = 9
    · subst hlast
      clear hj he hl
      gi_wp2
      go_end0
      exact ⟨⟨_, rfl⟩, HJr.out⟩
    · by_cases h1 : j = 1
      · subst h1
        have hj2 := HJ.out _ _ _ hj (below_alloc1 wr (.cells (nodeL 1 2 1).toArray 66))
        obtain ⟨fn, tmps, assign, body, hy, hR⟩ := HY.out 0 _ (by decide) hj2
        simp only [atI] at hl
        simp [nodeL] at hl
        simp only [encE, nodeL] at hy hR
        clear hj he hj2
        gi_wp2
        refine hR.mono ?_
        rintro e W3 ⟨rfl, hj3⟩
        gi_wp2
        exact ⟨⟨2, rfl, by decide, by decide, hj3⟩, by simp [RowKit.intOf]⟩
      · by_cases h5 : j = 5
        · subst h5
          have hj2 := HJ.out _ _ _ hj (below_alloc1 wr (.cells (nodeL 5 2 1).toArray 66))
          obtain ⟨fn, tmps, assign, body, hy, hR⟩ := HY.out 1 _ (by decide) hj2
          simp only [atI] at hl
          simp [nodeL] at hl
          simp only [encE, nodeL] at hy hR
          clear hj he hj2
          gi_wp2
          refine hR.mono ?_
          rintro e W3 ⟨rfl, hj3⟩
          gi_wp2
          exact ⟨⟨6, rfl, by decide, by decide, hj3⟩, by simp [RowKit.intOf]⟩
        · rw [atI_mid h1 h5] at hl
          simp only [Option.getD, Option.isSome, nodeL] at hl
          have j8 : (j : Int) ≤ 8 := by omega
          clear hj he
          gi_wp2
          refine ⟨fun _ h => (by cases h), ?_⟩
          gi_wp2
          refine ⟨⟨j + 1, by go_num, by omega, by omega, ?_⟩, by simp [RowKit.intOf]; omega⟩
          have e : phase (j + 1) = phase j := by rcases (show j = 2 ∨ j = 3 ∨ j = 4 ∨ j = 6 ∨ j = 7 ∨ j = 8 by omega) with rfl | rfl | rfl | rfl | rfl | rfl <;> rfl
          rw [e]
          exact HJ.out _ _ _ HJr.out (below_alloc1 _ _)
end Go.Proofs.YtgoogbakhhbnhaaGreatDoor.Ar
