/- Rr Sl Sm Sn So -/
import Derived.Test.YtlecpjfggoehdaaGreatDoorArV
import Derived.StillTail
import Derived.OrdersIn
import Derived.TacticsIn
import Derived.RangeFuncCalls
import Derived.Test.YtlecpjfggoehdaaGreatDoorSma
import Derived.Test.YtlecpjfggoehdaaGreatDoorOpA
import Derived.Lib.BufferWrite
import Derived.Deep.WholeRow
import Derived.Maps.OwnSet
import Derived.RangeFuncKeeps
import Derived.RangeFuncLeaves
import Derived.Shelf.Abstract
import Derived.WalkKit
import Derived.OwnWalkIn
import Derived.TacticsInMore
import Derived.LoopNIn
import Derived.LoopIn
import Derived.Sort.QuietIn
/- A region that draws its order, in a round of a range over a function: what is quiet comes first, then the one call that turns the world. -/
set_option linter.unusedVariables false
set_option linter.unusedSimpArgs false
namespace Go.Proofs.YtlecpjfggoehdaaGreatDoor.Ar
open Go.RowKit Go.Sort Go.Lib

/-- the wide fence, in a round or not -/
def WideF (F : Fence) : Prop := F = Fence.wide ∨ ∃ l, F = Fence.wide.inRound l
theorem WideF.wide : WideF Fence.wide := .inl rfl
theorem WideF.round (l : Nat) : WideF (Fence.wide.inRound l) := .inr ⟨l, rfl⟩
theorem WideF.fn {F : Fence} (h : WideF F) (f : FuncId) : F.fn f := by rcases h with rfl | ⟨l, rfl⟩ <;> trivial
theorem WideF.depth {F : Fence} (h : WideF F) (n : Nat) : F.depth.isSome = true → 1 ≤ n := by rcases h with rfl | ⟨l, rfl⟩ <;> exact fun h => by cases h
theorem WideF.calls {F : Fence} (h : WideF F) {n : Nat} {P : Program} {f : FuncId} {args : Array Value} {w : World} {R : Ending → World → Prop} (hc : Calls P f args w R) : CallsIn F n P f args w R := by
  rcases h with rfl | ⟨l, rfl⟩
  · exact callsIn_wide.2 hc
  · exact CallsIn.inRound l (callsIn_wide.2 hc)
def noDefer (ops : Array Oper) : Bool := ops.all fun o => match o.op with | .defer _ => false | _ => true
theorem noDefer_spec {ops : Array Oper} (h : noDefer ops = true) {i : Nat} {o : Oper} (ho : ops[i]? = some o) (c : Call) : o.op ≠ .defer c := by
  have h1 := Array.all_eq_true'.1 h o (Array.mem_of_getElem? ho)
  intro e
  rw [e] at h1
  cases h1

section
variable {F : Fence} {n : Nat} {P : Program} {ops : Array Oper} {md : Region.Mode} {C : World → Prop}

theorem wpOpIn_of_qOp (hF : WideF F) (hd : noDefer ops = true) {i : Nat} {a : Act} {K : Act → Prop} {K' : Act → World → Prop} {Q' : Exit → Act → World → Prop} {w : World} (hC : C w) (h : ∀ a w', C w' → K a → K' a w')
    (hh : qOp P ops C i K a) : wpOpIn F n P ops Q' i K' a w := by
  unfold qOp at hh
  unfold wpOpIn
  split
  · rename_i ho; simp only [ho] at hh; exact h _ _ hC hh
  · rename_i o ho
    simp only [ho] at hh
    split
    · rename_i hw
      simp only [hw, if_true] at hh
      obtain ⟨v, h1, h2⟩ := hh
      have h3 := h1 w hC
      unfold Oper.quietAt at h3
      unfold Oper.wpIn
      refine ⟨fun f _ => hF.fn f, ?_⟩
      rw [Oper.semAt_eq _ _ _ (noDefer_spec hd ho)]
      generalize (execOp a.eval o).run P w = r at *
      cases r with
      | ok x w' =>
        cases x <;> simp only [Oper.quietUpon] at h3 <;> simp only [Oper.uponIn]
        case value u =>
          obtain ⟨e1, e2⟩ := h3
          rw [e1, e2]
          exact h _ _ hC h2
        case skip =>
          obtain ⟨e1, e2⟩ := h3
          rw [e1, ← e2]
          exact h _ _ hC h2
        case enter f args =>
          obtain ⟨e1, hc⟩ := h3
          rw [e1]
          exact ⟨hF.depth n, (hF.calls hc).mono fun e w'' ⟨he, hw''⟩ => by subst he; exact h _ _ hw'' h2⟩
      | halt x w' => simp only [Oper.quietUpon] at h3
    · rename_i hw; simp only [hw] at hh; exact ⟨fun f _ => hF.fn f, h _ _ hC hh⟩

theorem wpAnyIn_of_quietR (hF : WideF F) (hd : noDefer ops = true) {Q : Act → Prop} {Q' : Exit → Act → World → Prop} (hQ : ∀ a w, C w → Q a → Q' .normal a w) : ∀ (fuel : Nat) (listed : Array Bool) (a : Act) (w : World), C w →
    wpAnyQ P md ops C Q fuel listed a → wpAnyIn F n P md ops Q' fuel listed a w
  | 0, _, _, _, hw, h => ⟨h.1, hQ _ _ hw h.2⟩
  | fuel + 1, _, _, _, hw, h => ⟨fun h0 => hQ _ _ hw (h.1 h0), fun i hi => wpOpIn_of_qOp hF hd hw (fun a' w' hw' => wpAnyIn_of_quietR hF hd hQ fuel _ a' w' hw') (h.2 i hi)⟩

/-- A region that only reads and calls, in a class of worlds of one's own. -/
theorem wpIn_region_class {id : Nat} {Q : Exit → Act → World → Prop} {a : Act} {w : World} {l : List Oper} (S : World → Prop) (hF : WideF F) (hm : P.follows .mixedOrders = true) (hB : Region.lexB .any l.toArray = true) (hd : noDefer l.toArray = true) (hS : S w.drew)
    (h : wpQuiet P l.toArray (fun w' => ∃ x : Wd S, w' = x.val) (fun a' => ∀ w', (∃ x : Wd S, w' = x.val) → Q .normal a' w') l a) : (Code.region id l.toArray true).wpIn F n P Q a w := by
  simp only [Region.lexB, Bool.and_eq_true] at hB
  refine wpIn_region_any hm (wpAnyIn_of_quietR (C := fun w' => ∃ x : Wd S, w' = x.val) (Q := fun a' => ∀ w', (∃ x : Wd S, w' = x.val) → Q .normal a' w') hF hd (fun _ w' hw' h => h w' hw') _ _ _ _ ⟨⟨_, hS⟩, rfl⟩ ?_)
  have := wpAnyQ_lex (P := P) (C := fun w' => ∃ x : Wd S, w' = x.val) (md := .any) hB.1 l 0 (Array.replicate l.toArray.size false) a (by simp) (by simpa using hB.2) h
  simpa using this

/-! ### a head that is quiet, a tail -/
def wpAnyLQ (P : Program) (md : Region.Mode) (ops : Array Oper) (C : World → Prop) (n : Nat) (L : Array Bool → Act → Prop) : Nat → Array Bool → Act → Prop
  | 0, listed, a => L listed a
  | f + 1, listed, a =>
    Region.ready md ops listed ≠ [] ∧ ∀ i ∈ Region.ready md ops listed, i < n ∧ qOp P ops C i (wpAnyLQ P md ops C n L f (listed.setIfInBounds i true)) a

theorem wpAnyIn_of_headQ (hF : WideF F) (hd : noDefer ops = true) {N g : Nat} {L : Array Bool → Act → Prop} {Q' : Exit → Act → World → Prop} (hL : ∀ listed a w, C w → L listed a → wpAnyIn F n P md ops Q' g listed a w) :
    ∀ (f : Nat) (listed : Array Bool) (a : Act) (w : World), C w → wpAnyLQ P md ops C N L f listed a → wpAnyIn F n P md ops Q' (f + g) listed a w
  | 0, listed, a, w, hw, h => by rw [Nat.zero_add]; exact hL _ _ _ hw h
  | f + 1, listed, a, w, hw, h => by
    rw [show f + 1 + g = (f + g) + 1 by omega]
    exact ⟨fun h0 => absurd h0 h.1, fun i hi => wpOpIn_of_qOp hF hd hw (fun a' w' hw' h' => wpAnyIn_of_headQ hF hd hL f _ a' w' hw' h') (h.2 i hi).2⟩

theorem wpAnyLQ_first {N i : Nat} {oi : Oper} {v : Value} {L : Array Bool → Act → Prop} (hi : ops[i]? = some oi) (hsel : ∀ (j : Nat) (o : Oper) cs b, ops[j]? = some o → o.op ≠ .select cs b)
    (hs : Region.sinkB md ops N = true) (hc : Region.chainB md ops N = true) (hn : N < ops.size) (hin : i < N)
    (hdone : ∀ listed a, L listed a → ∀ j ∈ Region.ready md ops listed, N ≤ j) :
    ∀ (f : Nat) (listed : Array Bool) (a : Act), HeadInv md ops N listed →
      (∀ j oj, ops[j]? = some oj → j ≠ i → listed.getD j true = false → (∀ e ∈ oj.after, Region.binds md e = true → e.on ≠ i) → oi.apart ops oj = true) →
      i ∈ Region.ready md ops listed → YieldsIn P ops C oi v a →
      wpAnyLQ P md ops C N L f (listed.setIfInBounds i true) (a.put oi.dst v) → wpAnyLQ P md ops C N L (f + 1) listed a := by
  intro f
  induction f with
  | zero =>
    intro listed a inv _ hr hy H
    have hun := (mem_ready.1 hr).1
    refine ⟨fun h => (by rw [h] at hr; cases hr), fun j hj => ?_⟩
    have hjn : j < N := by
      rcases Nat.lt_or_ge j N with h | h
      · exact h
      · exact absurd hj (tail_waits hs hc hn inv _ i rfl hin hun j h)
    refine ⟨hjn, ?_⟩
    by_cases hji : j = i
    · subst hji; exact hy.qOp hi H
    · have := hdone _ _ H j (ready_mono hj hji)
      omega
  | succ f ih =>
    intro listed a inv hfree hr hy H
    have hun := (mem_ready.1 hr).1
    refine ⟨fun h => (by rw [h] at hr; cases hr), fun j hj => ?_⟩
    have hjn : j < N := by
      rcases Nat.lt_or_ge j N with h | h
      · exact h
      · exact absurd hj (tail_waits hs hc hn inv _ i rfl hin hun j h)
    refine ⟨hjn, ?_⟩
    by_cases hji : j = i
    · subst hji; exact hy.qOp hi H
    · have h1 := (H.2 j (ready_mono hj hji)).2
      obtain ⟨hjun, oj, hoj, hall⟩ := mem_ready.1 hj
      have hnot : ∀ e ∈ oj.after, Region.binds md e = true → e.on ≠ i := fun e he hb heq => by
        have h1 := hall e he hb
        rw [heq, getD_both hun] at h1
        cases h1
      have h2 := qOp_put hoj (hfree j oj hoj hji hjun hnot) (fun cs b => hsel i oi cs b hi) (fun cs b => hsel j oj cs b hoj) hy h1
      have hfree' : ∀ k ok, ops[k]? = some ok → k ≠ i → (listed.setIfInBounds j true).getD k true = false →
          (∀ e ∈ ok.after, Region.binds md e = true → e.on ≠ i) → oi.apart ops ok = true := fun k ok hk hki hun hno => by
        refine hfree k ok hk hki ?_ hno
        by_cases hjk : j = k
        · subst hjk; exact hjun
        · rw [getD_set_ne true hjk] at hun; exact hun
      refine qOp_mono (fun a' h3 => ih (listed.setIfInBounds j true) a' (inv.set hj hjn) hfree' (ready_mono hr (Ne.symm hji)) h3.1 ?_) h2
      rw [Array.setIfInBounds_comm _ _ hji]
      exact h3.2

theorem wpAnyIn_of_seq {Q' : Exit → Act → World → Prop} : ∀ (l : List Oper) (k : Nat) (listed : Array Bool) (a : Act) (w : World), (∀ j, l[j]? = ops[k + j]?) →
    Region.seqB md ops l.length k listed = true → wpListIn F n P ops Q' l a w → wpAnyIn F n P md ops Q' l.length listed a w
  | [], _, _, _, _, _, hB, h => ⟨by simpa [Region.seqB] using hB, h⟩
  | o :: l, k, listed, a, w, hl, hB, h => by
    have h0 : ops[k]? = some o := by simpa using (hl 0).symm
    simp only [List.length_cons, Region.seqB, Bool.and_eq_true, decide_eq_true_eq] at hB
    refine ⟨fun h1 => (by rw [hB.1] at h1; cases h1), fun i hi => ?_⟩
    rw [hB.1] at hi
    have hik : i = k := by simpa using hi
    subst hik
    have hw : wpOpIn F n P ops Q' i (wpListIn F n P ops Q' l) a w := by unfold wpOpIn; simp only [h0]; exact h
    exact wpOpIn_mono (fun a' w' h' => wpAnyIn_of_seq l (i + 1) _ a' w' (fun j => by have := hl (j + 1); simpa [Nat.add_assoc, Nat.add_comm 1 j] using this) hB.2 h') hw

theorem wpAnyLQ_lex {N g : Nat} {Lq : Act → Prop} (hsel : Region.noSelect ops = true) (hs : Region.sinkB md ops N = true) (hc : Region.chainB md ops N = true) (hn : N < ops.size) :
    ∀ (l : List Oper) (k : Nat) (listed : Array Bool) (a : Act), (∀ j, j < l.length → l[j]? = ops[k + j]?) → k + l.length = N → HeadInv md ops N listed →
    Region.lexHead md ops g l.length k listed = true → wpQuiet P ops C Lq l a →
    wpAnyLQ P md ops C N (fun listed' a' => Region.seqB md ops g N listed' = true ∧ Lq a') l.length listed a
  | [], k, listed, a, _, hk, _, hB, h => by
    have : k = N := by simpa using hk
    subst this
    exact ⟨by simpa [Region.lexHead] using hB, h⟩
  | o :: l, k, listed, a, hl, hk, inv, hB, h => by
    have h0 : ops[k]? = some o := by simpa using (hl 0 (by simp)).symm
    simp only [List.length_cons, Region.lexHead, Bool.and_eq_true] at hB
    obtain ⟨⟨hr, hf⟩, hB'⟩ := hB
    have hkn : k < N := by simp only [List.length_cons] at hk; omega
    have hr' : k ∈ Region.ready md ops listed := by simpa using hr
    have hst : qOp P ops C k (wpQuiet P ops C Lq l) a := by unfold qOp; simp only [h0]; exact h
    obtain ⟨v, hy, hK⟩ := yieldsIn_of_qOp h0 hst
    exact wpAnyLQ_first h0 (Region.noSelect_spec hsel) hs hc hn hkn (fun listed' a' hL => seqB_ready hL.1) l.length listed a inv (Region.free_spec h0 hf) hr' hy
      (wpAnyLQ_lex hsel hs hc hn l (k + 1) _ _ (fun j hj => by have := hl (j + 1) (by simp; omega); simpa [Nat.add_assoc, Nat.add_comm 1 j] using this) (by simp only [List.length_cons] at hk; omega) (inv.set hr' hkn) hB' hK)

/-- A region whose first N operations only read and call, in a class of worlds of one's own; then the others, in their order, from whatever world of the class. -/
theorem wpIn_region_tail {id : Nat} {Q : Exit → Act → World → Prop} {a : Act} {w : World} {l : List Oper} (N : Nat) (S : World → Prop) (hF : WideF F) (hm : P.follows .mixedOrders = true) (hB : Region.lexTailB .any l.toArray N = true) (hd : noDefer l.toArray = true) (hS : S w.drew)
    (h : wpQuiet P l.toArray (fun w' => ∃ x : Wd S, w' = x.val) (fun a' => ∀ w', (∃ x : Wd S, w' = x.val) → wpListIn F n P l.toArray Q (l.drop N) a' w') (l.take N) a) : (Code.region id l.toArray true).wpIn F n P Q a w := by
  simp only [Region.lexTailB, Bool.and_eq_true, decide_eq_true_eq] at hB
  obtain ⟨⟨⟨⟨hsel, hn⟩, hs⟩, hc⟩, hlex⟩ := hB
  have hn' : N < l.length := by simpa using hn
  have htl : (l.take N).length = N := by simp; omega
  have hdl : (l.drop N).length = l.toArray.size - N := by simp
  have inv0 : HeadInv .any l.toArray N (Array.replicate l.toArray.size false) :=
    ⟨by simp, fun j oj _ hl => (by rw [getD_replicate_false] at hl; cases hl), fun t _ ht => getD_in (by simpa using ht) (getD_replicate_false _ _)⟩
  have H := wpAnyLQ_lex (P := P) (C := fun w' => ∃ x : Wd S, w' = x.val) (md := .any) (g := l.toArray.size - N) hsel hs hc hn (l.take N) 0 _ a (fun j hj => by
    have hj' : j < N := by rw [htl] at hj; exact hj
    simp [hj']) (by simpa using htl) inv0 (by rw [htl]; exact hlex) h
  refine wpIn_region_any hm ?_
  have := wpAnyIn_of_headQ (F := F) (n := n) hF hd (Q' := Q) (g := l.toArray.size - N) (fun listed a' w' hw' hL => by
    have := wpAnyIn_of_seq (F := F) (n := n) (P := P) (md := .any) (Q' := Q) (l.drop N) N listed a' w' (fun j => by simp [List.getElem?_drop]) (by rw [hdl]; exact hL.1) (hL.2 w' hw')
    rwa [hdl] at this) _ _ _ w.drew ⟨⟨_, hS⟩, rfl⟩ H
  rw [htl, show N + (l.toArray.size - N) = l.toArray.size by omega] at this
  exact this
end
end Go.Proofs.YtlecpjfggoehdaaGreatDoor.Ar

/- Ship: a page of a file. -/
set_option linter.unusedVariables false
set_option linter.unusedSimpArgs false
set_option maxRecDepth 100000
namespace Go.Proofs.YtlecpjfggoehdaaGreatDoor.Ar
open Go.RowKit Go.Sort Go.Lib Go.Proofs.YtlecpjfggoehdaaGreatDoor.Rs

set_option maxHeartbeats 1000000 in
theorem call_pgCmp (po off : Int) (sd : ByteArray) (w : World) (a0 : 0 ≤ po) (a1 : po ≤ 10000000) (b0 : 0 ≤ off) (b1 : off ≤ 10000000) :
    Calls Tryz.prog 76 #[.agg #[.int .i64 po, .string sd], .int .i64 off] w fun e w' => e = .returned (.int .i64 (po - off)) ∧ Below w.heap.size w w' := by
  go_enter Tryz.func76, Tryz.ntmps76
  go_wp2
  go_ret
  exact ⟨rfl, below_alloc1 w _⟩

/-- the place at which a number stands, or would stand, in a rising row -/
def BsPost (w : World) (l : List Pc) (off : Int) (e : Ending) (w' : World) : Prop :=
  ∃ (i : Nat) (b : Bool), e = .returned (.tuple #[.int .i64 i, .bool b]) ∧ (b = true → ∃ p, l[i]? = some p ∧ p.off = off) ∧ (b = false → ∀ p ∈ l, p.off ≠ off) ∧ Below w.heap.size w w'

set_option maxHeartbeats 4000000 in
theorem call_bsearch (v : Value) (l : List Pc) (off : Int) (w : World) (hs : Sl RPc 2 w v l) (hl : l.length ≤ 1048576) (ho : ∀ p ∈ l, 0 ≤ p.off ∧ p.off ≤ 10000000)
    (hr : ∀ (i j : Nat) (p q : Pc), i < j → l[i]? = some p → l[j]? = some q → p.off < q.off) (b0 : 0 ≤ off) (b1 : off ≤ 10000000) :
    Calls Tryz.prog 75 #[v, .int .i64 off, .func (.func 76) #[] #[]] w (BsPost w l off) := by
  obtain ⟨aa, ba, oa, ca, rfl, haa, hca⟩ := hs
  obtain ⟨n, hn⟩ : ∃ n, l.length = n := ⟨_, rfl⟩
  rw [hn] at hl haa ⊢
  have HCa := Lib.hid hca
  have HN := Lib.hid hn
  have HO := Lib.hid ho
  have HR := Lib.hid hr
  clear hca hn ho hr
  go_enter Tryz.func75, Tryz.ntmps75
  go_wp2
  go_loopw [9, 10] (fun iv jv wr => ∃ (i j : Nat), iv = .int .i64 i ∧ jv = .int .i64 j ∧ i ≤ j ∧ j ≤ n ∧ (∀ k p, k < i → l[k]? = some p → p.off < off) ∧ (∀ k p, j ≤ k → l[k]? = some p → off ≤ p.off) ∧ Below w.heap.size w wr)
    (fun iv jv _ => (RowKit.intOf jv).toNat - (RowKit.intOf iv).toNat)
  case atStart => exact ⟨0, n, rfl, rfl, Nat.zero_le _, Nat.le_refl _, fun k p h => by omega, fun k p h hk => by have := (List.getElem?_eq_some_iff.1 hk).1; have := HN.out; omega, Below.refl _ _⟩
  case round =>
    obtain ⟨i, j, rfl, rfl, hij, hjn, hlo, hhi, hb⟩ := hrel
    have HB := Lib.hid hb
    have HLo := Lib.hid hlo
    have HHi := Lib.hid hhi
    clear hlo hhi
    by_cases hlt : i < j
    · obtain ⟨h, hh⟩ : ∃ h, (i + j) / 2 = h := ⟨_, rfl⟩
      have h1 : i ≤ h := by omega
      have h2 : h < j := by omega
      have HH := Lib.hid hh
      obtain ⟨p, hx⟩ : ∃ x, l[h]? = some x := ⟨_, List.getElem?_eq_getElem (by have := HN.out; omega)⟩
      have HX := Lib.hid hx
      obtain ⟨c0, c1, _⟩ := RPc.stays _ _ (keeps_below hb) _ _ _ (HCa.out h p hx)
      have hpo := HO.out p (List.mem_of_getElem? hx)
      obtain ⟨po, pd⟩ := p
      obtain ⟨sd, hsd⟩ : ∃ x, bs pd = x := ⟨_, rfl⟩
      simp only at hpo c0 c1
      rw [hsd] at c1
      obtain ⟨a0, a1⟩ := hpo
      have k1 : (h : Int) < n := by omega
      have k0 : (0 : Int) ≤ h := Int.natCast_nonneg _
      have hlt' : (i : Int) < j := by omega
      have hm : ((i : Int) + j) / 2 = h := by omega
      have hij2 : (i : Int) + j ≤ 3000000 := by omega
      have ha' := haa (by omega)
      subst ha'
      clear hx haa hb hh hsd
      by_cases hc : po - off < 0
      · go_wp2_with (go_at_call 76; refine (call_pgCmp po off sd _ a0 a1 b0 b1).mono ?_; rintro e w2 ⟨rfl, hb2⟩; have HB2 := Lib.hid (below_after HB.out hb2); clear hb2)
        go_roundw
        case rel => exact ⟨h + 1, j, by go_num, rfl, by omega, hjn, fun k p hk hp => by
          by_cases e : k = h
          · subst e; rw [HX.out] at hp; cases hp; simp only; omega
          · have := HR.out k h p _ (by omega) hp HX.out; simp only at this; omega, HHi.out, HB2.out⟩
        case measure => simp [RowKit.intOf]; omega
      · go_wp2_with (go_at_call 76; refine (call_pgCmp po off sd _ a0 a1 b0 b1).mono ?_; rintro e w2 ⟨rfl, hb2⟩; have HB2 := Lib.hid (below_after HB.out hb2); clear hb2)
        go_roundw
        case rel => exact ⟨i, h, rfl, by first | rfl | go_num, by omega, by omega, HLo.out, fun k p hk hp => by
          by_cases e : k = h
          · subst e; rw [HX.out] at hp; cases hp; simp only; omega
          · have := HR.out h k _ p (by omega) HX.out hp; simp only at this; omega, HB2.out⟩
        case measure => simp [RowKit.intOf]; omega
    · obtain rfl : i = j := by omega
      clear hb
      by_cases hin : i < n
      · obtain ⟨p, hx⟩ : ∃ x, l[i]? = some x := ⟨_, List.getElem?_eq_getElem (by have := HN.out; omega)⟩
        have HX := Lib.hid hx
        obtain ⟨c0, c1, _⟩ := RPc.stays _ _ (keeps_below HB.out) _ _ _ (HCa.out i p hx)
        have hpo := HO.out p (List.mem_of_getElem? hx)
        obtain ⟨po, pd⟩ := p
        obtain ⟨sd, hsd⟩ : ∃ x, bs pd = x := ⟨_, rfl⟩
        simp only at hpo c0 c1
        rw [hsd] at c1
        obtain ⟨a0, a1⟩ := hpo
        have k1 : (i : Int) < n := by omega
        have k0 : (0 : Int) ≤ i := Int.natCast_nonneg _
        have k2 : decide ((i : Int) < n) = true := decide_eq_true k1
        have ha' := haa (by omega)
        subst ha'
        clear hx haa hsd
        by_cases hc : po - off = 0
        · have hc2 : (po - off == 0) = true := by simpa using hc
          have HC := Lib.hid hc
          clear hc
          go_wp2_with (go_at_call 76; refine (call_pgCmp po off sd _ a0 a1 b0 b1).mono ?_; rintro e w2 ⟨rfl, hb2⟩; have HB2 := Lib.hid (below_after HB.out hb2); clear hb2)
          go_ret2
          exact ⟨i, true, rfl, fun _ => ⟨_, HX.out, by have := HC.out; simp only; omega⟩, (fun h => by cases h), HB2.out⟩
        · have hc2 : (po - off == 0) = false := by simpa using hc
          have HC : Hid (¬ po - off = 0) := Lib.hid hc
          clear hc
          go_wp2_with (go_at_call 76; refine (call_pgCmp po off sd _ a0 a1 b0 b1).mono ?_; rintro e w2 ⟨rfl, hb2⟩; have HB2 := Lib.hid (below_after HB.out hb2); clear hb2)
          go_ret2
          refine ⟨i, false, rfl, (fun h => by cases h), fun _ p hp => ?_, HB2.out⟩
          obtain ⟨k, hk⟩ := List.mem_iff_getElem?.1 hp
          rcases Nat.lt_trichotomy k i with h | h | h
          · have := HLo.out k p h hk; omega
          · subst h; rw [HX.out] at hk; cases hk; simp only; have := HC.out; omega
          · have h1 := HR.out i k _ p h HX.out hk
            have h2 := HHi.out i _ (Nat.le_refl _) HX.out
            simp only at h1 h2
            omega
      · have k2 : decide ((i : Int) < n) = false := decide_eq_false (by omega)
        clear haa
        go_wp2
        go_ret2
        refine ⟨i, false, rfl, (fun h => by cases h), fun _ p hp => ?_, HB.out⟩
        obtain ⟨k, hk⟩ := List.mem_iff_getElem?.1 hp
        have hkl := (List.getElem?_eq_some_iff.1 hk).1
        have := HLo.out k p (by have := HN.out; omega) hk
        omega

/-- copy(b, s) of a text of whatever length -/
theorem run_copy_text {P : Program} (w : World) (dT sT ty elem : TypeId) (g o dLen dCap k : Nat) (s : ByteArray) (cur : Array Value) (t : TypeId)
    (hu : P.underlying dT = some (.slice elem)) (hs : (P.info? elem).map (·.size) = some 1) (hg : w.heap[g]? = some (.cells cur t (0, 0))) (hmin : Nat.min s.size dLen = k) (hfit : o + k ≤ cur.size) :
    (Builtin.copy_ #[dT, sT] ty #[.slice (some ⟨g, o, none⟩) dLen dCap, .string s]).run P w =
      .ok (goInt k) (w.setRow g (cur.toList.take o ++ byteCells (s.data.toList.take k) ++ cur.toList.drop (o + k)).toArray) := by
  have hks : k ≤ s.size := by rw [← hmin]; exact Nat.min_le_left _ _
  have hlen : (byteCells (s.data.toList.take k)).length = k := by
    have h1 : s.data.toList.length = s.size := rfl
    rw [byteCells_length, List.length_take, h1]; omega
  have hst := run_storeCells_at P g o t (byteCells (s.data.toList.take k)) 0 cur w hg (by rw [hlen]; simpa using hfit) (byteCells_one _)
  have htk : List.take k (List.map (fun b : UInt8 => Value.int IntKind.u8 (b.toNat : Int)) s.data.toList) = byteCells (s.data.toList.take k) := by
    rw [← List.map_take]
    rfl
  rw [hlen] at hst
  simp only [Nat.add_zero] at hst
  cases hq : P.info? elem with
  | none => simp [hq] at hs
  | some i =>
    simp [Builtin.copy_, run_underlying hu, Builtin.lenOf, Builtin.firstCells, sizeOf, typeInfo, hq, hmin]
    rw [htk, hst]
    simp [Result.andThen]
theorem setRow_row (w : World) {B T : Nat} {cur : List Value} (h : Row w B T cur) (c : List Value) : Row (w.setRow B c.toArray) B T c ∧ w.grownBy (w.setRow B c.toArray) (some B) := by
  have h' : w.heap[B]? = some (.cells cur.toArray T (0, 0)) := h
  refine ⟨?_, ⟨rfl, rfl, rfl, by simp [World.setRow], fun k _ hne => ?_⟩⟩
  · show (w.setRow B c.toArray).heap[B]? = _
    simp only [World.setRow, Array.getElem?_modify, if_pos, h', Option.map_some]
  · simp only [World.setRow, Array.getElem?_modify]
    rw [if_neg (fun e => hne (by rw [e]))]
theorem copy_page {w : World} {B n : Nat} (s : List UInt8) (hr : Row w B 5 (List.replicate n (.int .u8 0))) :
    ∃ w', (Builtin.copy_ #[22, 9] 3 #[.slice (some ⟨B, 0, none⟩) n n, .string (bs s)]).run Tryz.prog w = .ok (.int .i64 (min s.length n : Nat)) w' ∧ Row w' B 5 ((s.take n ++ List.replicate (n - s.length) 0).map byteV) ∧ w.grownBy w' (some B) := by
  have hsz : (bs s).size = s.length := bs_size s
  have h := run_copy_text (P := Tryz.prog) w 22 9 3 5 B 0 n n (min s.length n) (bs s) (List.replicate n (.int .u8 0)).toArray 5 Tryz.underlying22 (by kernel_rfl) (show w.heap[B]? = some (.cells (List.replicate n (Value.int .u8 0)).toArray 5 (0, 0)) from hr) (by rw [hsz]) (by simp; omega)
  have e : ((List.replicate n (Value.int .u8 0)).toArray.toList.take 0 ++ byteCells ((bs s).data.toList.take (min s.length n)) ++ (List.replicate n (Value.int .u8 0)).toArray.toList.drop (0 + min s.length n)) = (s.take n ++ List.replicate (n - s.length) 0).map byteV := by
    have e1 : (bs s).data.toList.take (min s.length n) = s.take n := by
      show s.take (min s.length n) = s.take n
      rcases Nat.le_total s.length n with hl | hl
      · rw [Nat.min_eq_left hl, List.take_of_length_le (Nat.le_refl _), List.take_of_length_le hl]
      · rw [Nat.min_eq_right hl]
    rw [e1]
    simp only [List.take_zero, List.nil_append, Nat.zero_add, List.drop_replicate, List.map_append, List.map_replicate]
    have e2 : n - min s.length n = n - s.length := by omega
    rw [e2]
    rfl
  rw [e] at h
  obtain ⟨h1, h2⟩ := setRow_row w hr ((s.take n ++ List.replicate (n - s.length) 0).map byteV)
  exact ⟨_, h, h1, h2⟩
theorem conv_row {w : World} {B : Nat} {l : List UInt8} {n : Nat} (hr : Row w B 5 (l.map byteV)) (hn : l.length = n) : (convert 22 9 (.slice (some ⟨B, 0, none⟩) n n)).run Tryz.prog w = .ok (.string (bs l)) w := by
  subst hn
  exact conv_txt (o := 0) (fun j x hj => by rw [Nat.zero_add, hr.cell, List.getElem?_map, hj]; rfl)
theorem info5' : (Tryz.prog.info? 5).map (fun i => (i.zero, i.size, i.bytes)) = some (some (.int .u8 0), 1, 1) := by kernel_rfl

theorem page_of {m : Mb} {off : Int} {n i : Nat} {p : Pc} (hr : ∀ (i j : Nat) (p q : Pc), i < j → m.pieces[i]? = some p → m.pieces[j]? = some q → p.off < q.off) (hi : m.pieces[i]? = some p) (ho : p.off = off) :
    pageF m off n = p.data.take n ++ List.replicate (n - p.data.length) 0 := by
  have : m.pieces.find? (fun p => decide (p.off = off)) = some p := by
    obtain ⟨hlt, e⟩ := List.getElem?_eq_some_iff.1 hi
    rw [List.find?_eq_some_iff_getElem]
    refine ⟨decide_eq_true ho, i, hlt, e, fun j hj => ?_⟩
    have h1 := hr j i _ p hj (List.getElem?_eq_getElem (by omega)) hi
    simp only [Bool.not_eq_true', decide_eq_false_iff_not]
    omega
  rw [pageF, this]
theorem page_of_no {m : Mb} {off : Int} {n : Nat} (h : ∀ p ∈ m.pieces, p.off ≠ off) : pageF m off n = List.replicate n 0 := by
  have : m.pieces.find? (fun p => decide (p.off = off)) = none := by
    rw [List.find?_eq_none]
    intro p hp
    simp [h p hp]
  rw [pageF, this]
theorem page_yes {w w1 w2 : World} {pieces : List Pc} {off : Int} {ap : Option Addr} {bp op np cp n i : Nat} {b : Bool}
    (hcp : ∀ (j : Nat) (x : Pc), pieces[j]? = some x → RPc w bp (op + j * 2) x) (hl : pieces.length = np) (hex : ∃ p, p ∈ pieces ∧ p.off = off) (hb0 : Below w.heap.size w w1) (hc4 : w1.cell? ⟨w.heap.size, 4, none⟩ = some (.slice ap np cp))
    (hr0 : Row w1 (w.heap.size + 1) 5 (List.replicate n (.int .u8 0))) (hy : b = true → ∃ p, pieces[i]? = some p ∧ p.off = off) (hno : b = false → ∀ p ∈ pieces, p.off ≠ off) (hb2 : Below w1.heap.size w1 w2) :
    ∃ p, pieces[i]? = some p ∧ p.off = off ∧ b = true ∧ (0 : Int) ≤ i ∧ (i : Int) < np ∧ w2.cell? ⟨w.heap.size, 4, none⟩ = some (.slice ap np cp) ∧ w2.cell? ⟨bp, op + i * 2 + 1, none⟩ = some (.string (bs p.data)) ∧
      ∃ w3, (Builtin.copy_ #[22, 9] 3 #[.slice (some ⟨w.heap.size + 1, 0, none⟩) n n, .string (bs p.data)]).run Tryz.prog w2 = .ok (.int .i64 (min p.data.length n : Nat)) w3 ∧
        (convert 22 9 (.slice (some ⟨w.heap.size + 1, 0, none⟩) n n)).run Tryz.prog w3 = .ok (.string (bs (p.data.take n ++ List.replicate (n - p.data.length) 0))) w3 ∧ Hid (Below w.heap.size w w3) := by
  cases b with
  | false => obtain ⟨p, hp, e⟩ := hex; exact absurd e (hno rfl p hp)
  | true =>
    obtain ⟨p, hp, e⟩ := hy rfl
    have hlt := (List.getElem?_eq_some_iff.1 hp).1
    have hb : Below w.heap.size w w2 := below_then hb0 hb0.size hb2
    obtain ⟨_, c1, _⟩ := RPc.stays _ _ (keeps_below hb) _ _ _ (hcp i p hp)
    obtain ⟨w3, h1, h2, h3⟩ := copy_page p.data (hr0.below hb2 hr0.lt)
    refine ⟨p, hp, e, rfl, by omega, by omega, keeps_below hb2 _ _ _ hc4, c1, w3, h1, conv_row h2 (by simp only [List.length_append, List.length_take, List.length_replicate]; omega), Lib.hid ?_⟩
    exact hb.grown h3 hb.size (fun k hk => by cases hk; omega)
theorem page_no {w w1 w2 : World} {pieces : List Pc} {off : Int} {n i : Nat} {b : Bool} (hex : ∀ p ∈ pieces, p.off ≠ off) (hb0 : Below w.heap.size w w1)
    (hr0 : Row w1 (w.heap.size + 1) 5 (List.replicate n (.int .u8 0))) (hy : b = true → ∃ p, pieces[i]? = some p ∧ p.off = off) (hb2 : Below w1.heap.size w1 w2) :
    b = false ∧ (convert 22 9 (.slice (some ⟨w.heap.size + 1, 0, none⟩) n n)).run Tryz.prog w2 = .ok (.string (bs (List.replicate n 0))) w2 ∧ Hid (Below w.heap.size w w2) := by
  cases b with
  | true => obtain ⟨p, hp, e⟩ := hy rfl; exact absurd e (hex p (List.mem_of_getElem? hp))
  | false =>
    have h2 := hr0.below hb2 hr0.lt
    exact ⟨rfl, conv_row (l := List.replicate n 0) (by simpa [byteV] using h2) (by simp), Lib.hid (below_then hb0 hb0.size hb2)⟩

set_option maxHeartbeats 4000000 in
theorem call_page (m : Mb) (vp : Value) (off : Int) (n : Nat) (w : World) (hv : Sl RPc 2 w vp m.pieces) (hf : FileOk m) (b0 : 0 ≤ off) (b1 : off ≤ 10000000) (hn : n ≤ 512) :
    Calls Tryz.prog 56 #[.agg (mbCells m vp).toArray, .int .i64 off, .int .i64 n] w fun e w' => e = .returned (.string (bs (pageF m off n))) ∧ Below w.heap.size w w' := by
  have HV := Lib.hid hv
  obtain ⟨ap, bp, op, cp, rfl, hap, hcp⟩ := hv
  have HF := Lib.hid hf
  have HCp := Lib.hid hcp
  obtain ⟨i0, hi, hz0, hz1, hz2⟩ := info_parts info5'
  have hmk : ∀ u : World, (Instr.makeSlice 22 (.int .i64 (n : Int)) (.int .i64 (n : Int))).run Tryz.prog u =
      .ok (.slice (some ⟨u.heap.size, 0, none⟩) n n) (u.alloc (.cells (List.replicate n (.int .u8 0)).toArray 5)) := fun u => by
    have h := run_make (P := Tryz.prog) u 22 5 i0 (.int .u8 0) Tryz.underlying22 hi hz0 .i64 .i64 (n : Int) (n : Int) (by omega) (Int.le_refl _) (by rw [hz2]; omega) (by omega)
    simpa [hz1, Value.cells, madeOne] using h
  obtain ⟨kind, path, link, size, pieces⟩ := m
  obtain ⟨np, hnp⟩ : ∃ n, pieces.length = n := ⟨_, rfl⟩
  simp only at HV hap hcp HCp ⊢
  have HR0 := Lib.hid ((Row.new (w.alloc (.cells #[.int .i64 kind, .string (bs path), .string (bs link), .int .i64 size, .slice ap pieces.length cp] 58)) 5 (List.replicate n (.int .u8 0))))
  rw [alloc_size] at HR0
  have HC4 := Lib.hid (((Row.new w 58 [.int .i64 kind, .string (bs path), .string (bs link), .int .i64 size, .slice ap pieces.length cp]).alloc (.cells (List.replicate n (.int .u8 0)).toArray 5)).cell 4)
  have HB0 := Lib.hid (below_alloc2 w (.cells #[.int .i64 kind, .string (bs path), .string (bs link), .int .i64 size, .slice ap pieces.length cp] 58) (.cells (List.replicate n (.int .u8 0)).toArray 5))
  obtain ⟨bpath, hbp⟩ : ∃ x, bs path = x := ⟨_, rfl⟩
  obtain ⟨blink, hbl⟩ : ∃ x, bs link = x := ⟨_, rfl⟩
  have HLen := Lib.hid hnp
  simp only [mbCells]
  rw [hnp, hbp, hbl] at HR0 HB0 HC4
  rw [hnp] at HV hap
  rw [hnp, hbp, hbl]
  clear hcp hi hz0 hz1 hz2 hf hnp hbp hbl
  by_cases hex : ∃ p, p ∈ pieces ∧ p.off = off
  · have HEx := Lib.hid hex
    clear hex
    go_enter Tryz.func56, Tryz.ntmps56
    go_wp2_with (go_at_call 75; refine (call_bsearch (.slice ap np cp) pieces off _ (HV.out.keep RPc.stays (keeps_below HB0.out)) HF.out.pcs HF.out.off HF.out.rise b0 b1).mono ?_; rintro e w2 ⟨i, b, rfl, hy, hno, hb2⟩; obtain ⟨p, hip, hpo, rfl, k0, k1, q4, q1, w3, hcp, hcv, HB3⟩ := page_yes HCp.out HLen.out HEx.out HB0.out HC4.out HR0.out hy hno hb2; obtain rfl := hap (by omega); have HP := Lib.hid (And.intro hip hpo); clear hy hno hb2 hip hpo)
    go_ret
    exact ⟨by rw [page_of HF.out.rise HP.out.1 HP.out.2]; rfl, HB3.out⟩
  · have HEx : Hid (∀ p ∈ pieces, p.off ≠ off) := Lib.hid (fun p hp e => hex ⟨p, hp, e⟩)
    clear hex
    go_enter Tryz.func56, Tryz.ntmps56
    go_wp2_with (go_at_call 75; refine (call_bsearch (.slice ap np cp) pieces off _ (HV.out.keep RPc.stays (keeps_below HB0.out)) HF.out.pcs HF.out.off HF.out.rise b0 b1).mono ?_; rintro e w2 ⟨i, b, rfl, hy, hno, hb2⟩; obtain ⟨rfl, hcv, HB3⟩ := page_no HEx.out HB0.out HR0.out hy hb2; have HB3 := HB3; clear hy hno hb2)
    go_ret
    exact ⟨by rw [page_of_no HEx.out]; rfl, HB3.out⟩
end Go.Proofs.YtlecpjfggoehdaaGreatDoor.Ar

/- Ship: a list and where each path stands in it. -/
set_option linter.unusedVariables false
set_option linter.unusedSimpArgs false
set_option maxRecDepth 100000
namespace Go.Proofs.YtlecpjfggoehdaaGreatDoor.Ar
open Go.RowKit Go.Sort Go.Lib Go.Proofs.YtlecpjfggoehdaaGreatDoor.Rs

/-- The block b is a map of texts to numbers, of the call's own: it reads as f; what is there is told. -/
def MapO (w : World) (b n : Nat) (f : List UInt8 → Option Int) : Prop := ∃ D : DataW Unit, w.ownsMap Tryz.prog 9 (plainElem Tryz.prog 3) b n D ∧
  ∀ key, Maps.has D (.string key) = (f key).isSome ∧ D.atKey (.string key) (.lit (.int .i64 0)) = .lit (.int .i64 ((f key).getD 0))
theorem MapO.made (w : World) : MapO (w.alloc (.map #[] 0)) w.heap.size 0 (fun _ => none) := ⟨.map [], World.ownsMap_made w _ _ _, fun key => ⟨rfl, rfl⟩⟩
theorem MapO.kept {w w' : World} {b n : Nat} {f : List UInt8 → Option Int} (h : MapO w b n f) (he : w'.heap[b]? = w.heap[b]?) : MapO w' b n f := by
  obtain ⟨D, ⟨es, clock, hb, F, hs, hD⟩, hf⟩ := h
  exact ⟨D, ⟨es, clock, he.trans hb, F, hs, hD⟩, hf⟩
theorem MapO.lt {w : World} {b n : Nat} {f : List UInt8 → Option Int} (h : MapO w b n f) : b < w.heap.size := by
  obtain ⟨D, h, _⟩ := h
  exact h.lt
theorem MapO.below {w w' : World} {b n : Nat} {f : List UInt8 → Option Int} (h : MapO w b n f) (hb : Below w.heap.size w w') : MapO w' b n f := h.kept (hb.block _ h.lt)
/-- v, ok := m[k]: an equation for the walk -/
theorem MapO.look {w : World} {b n : Nat} {f : List UInt8 → Option Int} (h : MapO w b n f) {key : List UInt8} (hk : key.length ≤ 1048576) :
    (Instr.lookup 45 (.map (some b)) (.string (bs key)) true).run Tryz.prog w = .ok (.tuple #[.int .i64 ((f key).getD 0), .bool (f key).isSome]) w := by
  obtain ⟨D, h, hf⟩ := h
  obtain ⟨v, ps, hrun, hat⟩ := h.look_ok (Go.Maps.string_keyed Tryz.underlying9) Tryz.underlying45 (z := .int .i64 0) (by rfl) (zd := .lit (.int .i64 0)) (zp := []) (plainElem_int Tryz.underlying3 (by decide)) (key_bs hk)
  obtain ⟨c, rfl, hc, _⟩ := plainElem_int_inv Tryz.underlying3 hat
  rw [(hf key).2] at hc
  cases hc
  rw [(hf key).1] at hrun
  exact hrun
theorem MapO.put {w : World} {b n : Nat} {f : List UInt8 → Option Int} (h : MapO w b n f) {key : List UInt8} (hk : key.length ≤ 1048576) (hn : n < 100000000) (x : Int) (hx : I64 x) :
    ∃ w', (Instr.mapUpdate 45 (.map (some b)) (.string (bs key)) (.int .i64 x)).run Tryz.prog w = .ok () w' ∧ MapO w' b (n + 1) (fun q => if q = key then some x else f q) ∧ w.grownBy w' (some b) := by
  obtain ⟨D, h, hf⟩ := h
  have hp : plainElem (H := Unit) Tryz.prog 3 (.int .i64 x) = some (.lit (.int .i64 x), []) := plainElem_int Tryz.underlying3 (by have h1 := hx.1; have h2 := hx.2; simp [Lit.wf, IntKind.min, IntKind.max, IntKind.bits, IntKind.signed]; omega)
  obtain ⟨w', hrun, h1, h2⟩ := h.update (Go.Maps.string_keyed Tryz.underlying9) Tryz.underlying45 (by simp only [maxLen]; omega) (key_bs hk) hp
  refine ⟨w', hrun, ⟨_, h1, fun q => ?_⟩, h2⟩
  by_cases e : q = key
  · subst e
    exact ⟨by rw [Go.Maps.has_put_same h.isMap (by trivial)]; simp, by rw [Go.Maps.atKey_put_same h.isMap (by trivial)]; simp⟩
  · have hne : (Lit.string q) ≠ .string key := by intro h; cases h; exact e rfl
    exact ⟨by rw [Go.Maps.has_put_other hne]; simp only [if_neg e]; exact (hf q).1, by rw [Go.Maps.atKey_put_other hne]; simp only [if_neg e]; exact (hf q).2⟩
/-- where each path stands -/
def idxF (l : List Mb) (n : Nat) (p : List UInt8) : Option Int := (lastIdx l p n).map Int.ofNat
theorem idxF_succ {l : List Mb} {k : Nat} {m : Mb} (h : l[k]? = some m) : (fun q => if q = m.path then some (k : Int) else idxF l k q) = idxF l (k + 1) := by
  funext q
  unfold idxF
  rw [lastIdx, h]
  by_cases e : q = m.path
  · subst e; simp
  · rw [if_neg e, if_neg (by simpa using Ne.symm e)]
/-- a tree's value: a list, and its map -/
structure TreeV (w : World) (l : List Mb) (v : Value) (B : Nat) : Prop where
  list : Sl RMb 5 w v l
  map : MapO w B l.length (idxF l l.length)
theorem TreeV.below {w w' : World} {l : List Mb} {v : Value} {B : Nat} (h : TreeV w l v B) (hb : Below w.heap.size w w') : TreeV w' l v B := ⟨h.list.keep RMb.stays (keeps_below hb), h.map.below hb⟩
theorem zero140 : (Tryz.prog.info? 47).map (fun i => (i.zero, i.size)) = some (some (.agg #[.slice none 0 0, .map none]), 2) := by kernel_rfl

set_option maxHeartbeats 4000000 in
theorem call_newTree (v : Value) (l : List Mb) (w : World) (hs : Sl RMb 5 w v l) (hl : LsSm l) :
    Calls Tryz.prog 17 #[v] w fun e w' => ∃ B, e = .returned (.agg #[v, .map (some B)]) ∧ TreeV w' l v B ∧ w.heap.size ≤ B ∧ Below w.heap.size w w' := by
  have HS := Lib.hid hs
  obtain ⟨aa, ba, oa, ca, rfl, haa, hca⟩ := hs
  obtain ⟨n, hn⟩ : ∃ n, l.length = n := ⟨_, rfl⟩
  have hlen := hl.len
  rw [hn] at hlen haa HS ⊢
  have HCa := Lib.hid hca
  have HN := Lib.hid hn
  have HL := Lib.hid hl
  have hmm := @run_makeMap Tryz.prog
  clear hca hn hl
  go_enter Tryz.func17, Tryz.ntmps17
  go_wp2
  go_loopw [11] (fun i wr => ∃ k : Nat, i = .int .i64 k ∧ k ≤ n ∧ MapO wr (w.heap.size + 1) k (idxF l k) ∧ Row wr (w.heap.size + 1 + 1) 47 [.slice aa n ca, .map (some (w.heap.size + 1))] ∧ Row wr w.heap.size 47 [.slice none 0 0, .map none] ∧ Below w.heap.size w wr)
    (fun i _ => n - (RowKit.intOf i).toNat)
  case atStart =>
    have h1 := MapO.made (w.alloc (.cells #[.slice none 0 0, .map none] 47))
    have h2 := Row.new ((w.alloc (.cells #[.slice none 0 0, .map none] 47)).alloc (.map #[] 0)) 47 [.slice aa n ca, .map (some (w.heap.size + 1))]
    rw [alloc_size] at h1
    rw [alloc_size, alloc_size] at h2
    refine ⟨0, rfl, Nat.zero_le _, ?_, h2, ((Row.new w 47 _).alloc _).alloc _, (below_alloc2 w _ _).alloc (by rw [alloc_size, alloc_size]; omega) _⟩
    exact h1.kept ((below_alloc1 _ _).block _ h1.lt)
  case round =>
    obtain ⟨k, rfl, hkn, hmp, hr1, hr0, hb⟩ := hrel
    have HB := Lib.hid hb
    have HM := Lib.hid hmp
    have HR1 := Lib.hid hr1
    have HR0 := Lib.hid hr0
    by_cases hlt : k < n
    · obtain ⟨m, hx⟩ : ∃ x, l[k]? = some x := ⟨_, List.getElem?_eq_getElem (by have := HN.out; omega)⟩
      obtain ⟨vp, c0, c1, c2, c3, c4, hvp⟩ := RMb.stays _ _ (keeps_below hb) _ _ _ (HCa.out k m hx)
      obtain ⟨ap, np, cp, rfl⟩ : ∃ a m' c, vp = .slice a m' c := by obtain ⟨a, b, o, c, h, _⟩ := hvp.pieces; exact ⟨_, _, _, h⟩
      have HX := Lib.hid hx
      have hsm := HL.out.mb m (List.mem_of_getElem? hx)
      have e1' : (wr.alloc (.cells #[.int .i64 m.kind, .string (bs m.path), .string (bs m.link), .int .i64 m.size, .slice ap np cp] 58)).cell? ⟨w.heap.size + 1 + 1, 1, none⟩ = some (.map (some (w.heap.size + 1))) := (hr1.alloc _).cell 1
      obtain ⟨w3, hput, hm3, hg3⟩ := (hmp.below (below_alloc1 wr (.cells #[.int .i64 m.kind, .string (bs m.path), .string (bs m.link), .int .i64 m.size, .slice ap np cp] 58))).put (key := m.path) hsm.path (by omega) (k : Int) ⟨by omega, by omega⟩
      have HG := Lib.hid hg3
      have HAB := Lib.hid (below_alloc1 wr (.cells #[.int .i64 m.kind, .string (bs m.path), .string (bs m.link), .int .i64 m.size, .slice ap np cp] 58))
      obtain ⟨pth, hpth⟩ : ∃ x, bs m.path = x := ⟨_, rfl⟩
      obtain ⟨lnk, hlnk⟩ : ∃ x, bs m.link = x := ⟨_, rfl⟩
      rw [hpth, hlnk] at hput HG HAB e1'
      rw [hpth] at c1
      rw [hlnk] at c2
      have k0 : (0 : Int) ≤ k := Int.natCast_nonneg _
      have k1 : (k : Int) < n := by omega
      have ha' := haa (by omega)
      subst ha'
      have HM3 := Lib.hid hm3
      clear hx haa hb hmp hr1 hr0 hvp hsm hm3 hg3 hpth hlnk
      go_wp2
      go_roundw
      case rel =>
        refine ⟨k + 1, by go_num, by omega, ?_, ?_, ?_, ?_⟩
        · have h := HM3.out
          rw [idxF_succ HX.out] at h
          exact h
        · exact (HR1.out.below HAB.out HR1.out.lt).grown HG.out (by simp)
        · exact (HR0.out.below HAB.out HR0.out.lt).grown HG.out (by simp)
        · exact (below_after HB.out HAB.out).grown HG.out (by have := HB.out.size; have := HAB.out.size; omega) (fun j hj => by cases hj; omega)
      case measure => have := hlt; simp only [RowKit.intOf, Int.toNat_natCast, Array.getD]; first | omega | (simp [RowKit.intOf]; done) | (simp [RowKit.intOf]; omega)
    · obtain rfl : k = n := by omega
      have e0 : wr.cell? ⟨w.heap.size + 1 + 1, 0, none⟩ = some (.slice aa k ca) := hr1.cell 0
      have e1 : wr.cell? ⟨w.heap.size + 1 + 1, 1, none⟩ = some (.map (some (w.heap.size + 1))) := hr1.cell 1
      have f0 : wr.cell? ⟨w.heap.size, 0, none⟩ = some (.slice none 0 0) := hr0.cell 0
      have f1 : wr.cell? ⟨w.heap.size, 1, none⟩ = some (.map none) := hr0.cell 1
      have g0 := hr0.free 0
      have g1 := hr0.free 1
      clear haa hmp hr1 hr0 hb
      go_wp2
      have r2 := (HR0.out.set 0 (.slice aa k ca)).set 1 (.map (some (w.heap.size + 1)))
      have q0 : (wr.setCell ⟨w.heap.size, 0, none⟩ (.slice aa k ca)).cell? ⟨w.heap.size, 0, none⟩ = some (.slice aa k ca) := (HR0.out.set 0 (.slice aa k ca)).cell 0
      have q1 : ((wr.setCell ⟨w.heap.size, 0, none⟩ (.slice aa k ca)).setCell ⟨w.heap.size, 1, none⟩ (.map (some (w.heap.size + 1)))).cell? ⟨w.heap.size, 1, none⟩ = some (.map (some (w.heap.size + 1))) := r2.cell 1
      have hb2 : Below w.heap.size w ((wr.setCell ⟨w.heap.size, 0, none⟩ (.slice aa k ca)).setCell ⟨w.heap.size, 1, none⟩ (.map (some (w.heap.size + 1)))) := (HB.out.setCell (Nat.le_refl _) _).setCell (Nat.le_refl _) _
      refine bodyPost_ret (v := .agg #[.slice aa k ca, .map (some (w.heap.size + 1))]) (by simp [results, Tryz.results17, go_sem, q0, q1]) rfl ⟨w.heap.size + 1, rfl, ⟨HS.out.keep RMb.stays (keeps_below hb2), ?_⟩, by omega, hb2⟩
      rw [HN.out]
      exact (HM.out.kept (Below.heap_setCell wr ⟨w.heap.size, 0, none⟩ _ _ (by simp))).kept (Below.heap_setCell _ ⟨w.heap.size, 1, none⟩ _ _ (by simp))
end Go.Proofs.YtlecpjfggoehdaaGreatDoor.Ar

/- Ship: the member that a tree keeps. -/
set_option linter.unusedVariables false
set_option linter.unusedSimpArgs false
set_option maxRecDepth 100000
namespace Go.Proofs.YtlecpjfggoehdaaGreatDoor.Ar
open Go.RowKit Go.Sort Go.Lib Go.Proofs.YtlecpjfggoehdaaGreatDoor.Rs

theorem bs_inj {a b : List UInt8} (h : bs a = bs b) : a = b := by
  have := congrArg (fun x : ByteArray => x.data.toList) h
  simpa [bs] using this
/-- where it lies -/
def twinP (v : Value) (l : List Mb) (m : Mb) : Option Addr := (lastIdx l m.path l.length).bind fun i => (l[i]?).bind fun x => if x.kind = m.kind ∧ x.link = m.link then (match v with | .slice (some a) _ _ => some ⟨a.block, a.off + i * 5, none⟩ | _ => none) else none
def TwinPost (w : World) (v : Value) (l : List Mb) (m : Mb) (e : Ending) (w' : World) : Prop := e = .returned (.pointer (twinP v l m)) ∧ Below w.heap.size w w'
theorem twinP_no {v : Value} {l : List Mb} {m : Mb} (h : twinF l m = none) : twinP v l m = none := by
  unfold twinF at h
  unfold twinP
  cases hi : lastIdx l m.path l.length with
  | none => rfl
  | some i =>
    rw [hi, Option.bind_some] at h
    rw [Option.bind_some]
    cases hx : l[i]? with
    | none => rfl
    | some x =>
      rw [hx, Option.bind_some] at h
      rw [Option.bind_some]
      split at h
      · cases h
      · rename_i hc; rw [if_neg hc]
theorem twinP_some {w : World} {v : Value} {l : List Mb} {m x : Mb} (hs : Sl RMb 5 w v l) (h : twinF l m = some x) : ∃ b o, twinP v l m = some ⟨b, o, none⟩ ∧ RMb w b o x ∧ x ∈ l := by
  obtain ⟨aa, ba, oa, ca, rfl, haa, hca⟩ := hs
  unfold twinF at h
  unfold twinP
  obtain ⟨i, hi, h⟩ := Option.bind_eq_some_iff.1 h
  obtain ⟨y, hy, h⟩ := Option.bind_eq_some_iff.1 h
  split at h
  · rename_i hc
    cases h
    have hlt := (List.getElem?_eq_some_iff.1 hy).1
    rw [hi, Option.bind_some, hy, Option.bind_some, if_pos hc, haa (by omega)]
    exact ⟨ba, oa + i * 5, rfl, hca i _ hy, List.mem_of_getElem? hy⟩
  · cases h
theorem twinF_no {l : List Mb} {m : Mb} (h : lastIdx l m.path l.length = none) : twinF l m = none := by rw [twinF, h]; rfl
theorem twinF_at {l : List Mb} {m x : Mb} {i : Nat} (h : lastIdx l m.path l.length = some i) (hx : l[i]? = some x) : twinF l m = if x.kind = m.kind ∧ x.link = m.link then some x else none := by rw [twinF, h, Option.bind_some, hx]; rfl

set_option maxHeartbeats 4000000 in
theorem call_treeTwin (v : Value) (l : List Mb) (B : Nat) (m : Mb) (vp : Value) (w : World) (ht : TreeV w l v B) (hl : LsSm l) (hm : m.path.length ≤ 1048576) (hvp : IsSl vp) :
    Calls Tryz.prog 37 #[.agg #[v, .map (some B)], .agg (mbCells m vp).toArray] w (TwinPost w v l m) := by
  obtain ⟨mp, mn, mc, rfl⟩ := hvp
  have HT := Lib.hid ht
  obtain ⟨⟨aa, ba, oa, ca, rfl, haa, hca⟩, hmap⟩ := ht
  obtain ⟨n, hn⟩ : ∃ n, l.length = n := ⟨_, rfl⟩
  have hlen := hl.len
  rw [hn] at hlen haa hmap HT ⊢
  have HCa := Lib.hid hca
  have HN := Lib.hid hn
  have HL := Lib.hid hl
  have hlk := ((hmap.below (below_alloc2 w (.cells #[.slice aa n ca, .map (some B)] 47) (.cells #[.int .i64 m.kind, .string (bs m.path), .string (bs m.link), .int .i64 m.size, .slice mp mn mc] 58)))).look (key := m.path) hm
  simp only [mbCells]
  obtain ⟨mk, mpth, mlnk, msz, mpc⟩ := m
  obtain ⟨pth, hpth⟩ : ∃ x, bs mpth = x := ⟨_, rfl⟩
  obtain ⟨lnk, hlnk⟩ : ∃ x, bs mlnk = x := ⟨_, rfl⟩
  simp only at hlk ⊢
  have HBB := Lib.hid (below_alloc2 w (.cells #[.slice aa n ca, .map (some B)] 47) (.cells #[.int .i64 mk, .string (bs mpth), .string (bs mlnk), .int .i64 msz, .slice mp mn mc] 58))
  rw [hpth, hlnk] at hlk HBB
  rw [hpth, hlnk]
  have HLnk := Lib.hid hlnk
  clear hca hn hl hmap hpth hlnk
  cases hi : lastIdx l mpth n with
  | none =>
    have e : idxF l n mpth = none := by rw [idxF, hi]; rfl
    rw [e] at hlk
    have HNo := Lib.hid (twinF_no (l := l) (m := ⟨mk, mpth, mlnk, msz, mpc⟩) (by rw [HN.out]; exact hi))
    clear e hi haa
    simp only [Option.getD_none, Option.isSome_none] at hlk
    go_enter Tryz.func37, Tryz.ntmps37
    go_wp2
    go_quiet (fail)
    go_wp2
    go_ret
    exact ⟨by rw [twinP_no HNo.out]; rfl, Below.drewN' HBB.out _⟩
  | some i =>
    have e : idxF l n mpth = some (i : Int) := by rw [idxF, hi]; rfl
    rw [e] at hlk
    simp only [Option.getD_some, Option.isSome_some] at hlk
    obtain ⟨hin, x, hx, hxp⟩ := lastIdx_some hi
    obtain ⟨xvp, c0, c1, c2, c3, c4, hxv⟩ := RMb.stays _ _ (keeps_below HBB.out) _ _ _ (HCa.out i x hx)
    have HTw := Lib.hid (twinF_at (m := ⟨mk, mpth, mlnk, msz, mpc⟩) (by rw [HN.out]; exact hi) hx)
    have HX := Lib.hid (And.intro hi hx)
    obtain ⟨xk, xp, xl, xs, xpc⟩ := x
    obtain ⟨xln, hxln⟩ : ∃ x, bs xl = x := ⟨_, rfl⟩
    simp only at c0 c2
    rw [hxln] at c2
    have HXl := Lib.hid hxln
    have k0 : (0 : Int) ≤ i := Int.natCast_nonneg _
    have k1 : (i : Int) < n := by omega
    have ha' := haa (by omega)
    subst ha'
    clear e hi haa hx hxp c1 c3 c4 hxv hxln
    by_cases h1 : xk = mk
    · have q1 : (xk != mk) = false := by simpa using h1
      have q2 : (xk == mk) = true := by simpa using h1
      have H1 := Lib.hid h1
      clear h1
      by_cases h2 : xl = mlnk
      · have q3 : (xln.toList == lnk.toList) = true := by rw [← HXl.out, ← HLnk.out, h2]; simp
        have HYes : Hid (twinP (.slice (some ⟨ba, oa, none⟩) n ca) l ⟨mk, mpth, mlnk, msz, mpc⟩ = some ⟨ba, oa + i * 5, none⟩) := Lib.hid (by rw [twinP, HN.out, HX.out.1, Option.bind_some, HX.out.2, Option.bind_some, if_pos ⟨H1.out, h2⟩])
        clear h2
        go_enter Tryz.func37, Tryz.ntmps37
        go_wp2
        go_quiet (fail)
        go_wp2
        go_ret
        exact ⟨by rw [HYes.out]; rfl, Below.drewN' HBB.out _⟩
      · have q3 : (xln.toList == lnk.toList) = false := by rw [← HXl.out, ← HLnk.out, bs_toList, bs_toList]; simpa using h2
        have HNo := Lib.hid (HTw.out.trans (if_neg (fun h => h2 h.2)))
        clear h2
        go_enter Tryz.func37, Tryz.ntmps37
        go_wp2
        go_quiet (fail)
        go_wp2
        go_ret
        exact ⟨by rw [twinP_no HNo.out]; rfl, Below.drewN' HBB.out _⟩
    · have q1 : (xk != mk) = true := by simpa using h1
      have q2 : (xk == mk) = false := by simpa using h1
      have HNo := Lib.hid (HTw.out.trans (if_neg (fun h => h1 h.1)))
      go_enter Tryz.func37, Tryz.ntmps37
      go_wp2
      go_quiet (fail)
      go_wp2
      go_ret
      exact ⟨by rw [twinP_no HNo.out]; rfl, Below.drewN' HBB.out _⟩
end Go.Proofs.YtlecpjfggoehdaaGreatDoor.Ar

/- Ship: the steps from a file to another one at its place, handed on one by one. -/
set_option linter.unusedVariables false
set_option linter.unusedSimpArgs false
set_option maxRecDepth 100000
namespace Go.Proofs.YtlecpjfggoehdaaGreatDoor.Ar
open Go.RowKit Go.Sort Go.Lib Go.Proofs.YtlecpjfggoehdaaGreatDoor.Rs

/-- a block that the caller of the steps does not hold: no list of steps, and no variable for one -/
def NotOwn (o : Obj) : Prop := ∀ c T fz, o = .cells c T fz → T ≠ 24 ∧ T ≠ 38
/-- what one step's handing on keeps -/
structure KpS (bx : Nat) (W W' : World) : Prop where
  below : Below bx W W'
  size : W.heap.size ≤ W'.heap.size
  keep : ∀ (b : Nat) (o : Obj), W.heap[b]? = some o → NotOwn o → W'.heap[b]? = some o
theorem KpS.row {bx : Nat} {W W' : World} (h : KpS bx W W') {B T : Nat} {cur : List Value} (hr : Row W B T cur) (h1 : T ≠ 24) (h2 : T ≠ 38) : Row W' B T cur :=
  h.keep _ _ hr (fun c T' fz e => by cases e; exact ⟨h1, h2⟩)
/-- The steps that have been handed on so far, and what the world then is: the caller's. -/
structure StJ (wb : World) (l0 n : Nat) (J : List Sp → World → Prop) : Prop where
  base : ∀ pre W, J pre W → Below wb.heap.size wb W
  fresh : ∀ pre W W', J pre W → Below W.heap.size W W' → J pre W'
  yield : ∀ pre s W, J pre W → pre.length < 1000000000 → YieldAt Fence.wide (n - 1) Tryz.prog l0 #[.agg (spCells s (.slice none 0 0)).toArray] W fun e W' => e = .returned (.bool true) ∧ J (pre ++ [s]) W' ∧ KpS wb.heap.size W W'

theorem chW_len (a b : Mb) : ∀ k, (chW a b k).length ≤ k
  | 0 => Nat.le_refl _
  | k + 1 => by
    rw [chW, List.length_append]
    have := chW_len a b k
    split <;> simp only [List.length_cons, List.length_nil] <;> omega
theorem headW_len (a b : Mb) : (headW a b).length ≤ 1 := by
  unfold headW
  split <;> simp

theorem call_place0 (p : List UInt8) (w : World) (hp : p.length ≤ 1048576) : Calls Tryz.prog 38 #[.string (bs p)] w fun e w' => e = .returned (.string (bs (47 :: p))) ∧ w = w' := by
  have hz := bs_size p
  have hs := bs_slash p
  have hz2 := bs_size (47 :: p)
  obtain ⟨A, hA⟩ : ∃ A, bs p = A := ⟨_, rfl⟩
  obtain ⟨B, hB⟩ : ∃ B, bs (47 :: p) = B := ⟨_, rfl⟩
  rw [hA, hB] at hs
  rw [hA] at hz ⊢
  rw [hB] at hz2 ⊢
  go_enter Tryz.func38, Tryz.ntmps38
  go_wp2
  go_ret
  exact ⟨by first | rfl | (simp [hs]; done) | (rw [← hs]; rfl), rfl⟩

attribute [local go_sem] Oper.semAt_some
set_option maxHeartbeats 8000000 in
theorem call_changes (wb : World) (l0 n : Nat) (J : List Sp → World → Prop) (hJ : StJ wb l0 n J) (a b : Mb) (va vb : Value) (pre : List Sp) (W : World)
    (ha : Sl RPc 2 wb va a.pieces) (hb : Sl RPc 2 wb vb b.pieces) (fa : FileOk a) (fb : FileOk b) (h0 : J pre W) (hN : pre.length + 700 ≤ 1000000000) :
    CallsIn Fence.wide n Tryz.prog 39 #[.agg (mbCells a va).toArray, .agg (mbCells b vb).toArray, .func (.yield l0) #[] #[]] W fun e W' => e = .returned (.bool true) ∧ J (pre ++ changesF a b) W' := by
  have hdep : ∀ m, Fence.wide.depth.isSome = true → 1 ≤ m := fun m h => by cases h
  have HA := Lib.hid ha
  have HB := Lib.hid hb
  have HFa := Lib.hid fa
  have HFb := Lib.hid fb
  have HJ := Lib.hid hJ
  have hz1 := hJ.fresh _ _ _ h0 (below_alloc2 W (.cells (mbCells a va).toArray 58) (.cells (mbCells b vb).toArray 58))
  have r1 := (Row.new W 58 (mbCells a va)).alloc (.cells (mbCells b vb).toArray 58)
  have r2 := row_new1 W (.cells (mbCells a va).toArray 58) 58 (mbCells b vb)
  obtain ⟨aa, ba, oa, ca, rfl, -, -⟩ := ha
  obtain ⟨ab, bb, ob, cb, rfl, -, -⟩ := hb
  obtain ⟨na, hna⟩ : ∃ n, a.pieces.length = n := ⟨_, rfl⟩
  obtain ⟨nb, hnb⟩ : ∃ n, b.pieces.length = n := ⟨_, rfl⟩
  obtain ⟨az, haz⟩ : ∃ z : Nat, a.size = z := ⟨a.size.toNat, by have := fa.s0; omega⟩
  obtain ⟨bz, hbz⟩ : ∃ z : Nat, b.size = z := ⟨b.size.toNat, by have := fb.s0; omega⟩
  have haz1 : az ≤ 262144 := by have := fa.s1; omega
  have hbz1 : bz ≤ 262144 := by have := fb.s1; omega
  have hpl : b.path.length ≤ 1048576 := by have := fb.path; omega
  rw [hna] at r1 r2 hz1 HA ⊢
  rw [hnb] at r1 r2 hz1 HB ⊢
  simp only [mbCells, haz, hbz] at r1 r2 hz1 ⊢
  obtain ⟨apth, hap⟩ : ∃ x, bs a.path = x := ⟨_, rfl⟩
  obtain ⟨alnk, hal⟩ : ∃ x, bs a.link = x := ⟨_, rfl⟩
  obtain ⟨bpth, hbp⟩ : ∃ x, bs b.path = x := ⟨_, rfl⟩
  obtain ⟨blnk, hbl⟩ : ∃ x, bs b.link = x := ⟨_, rfl⟩
  rw [hap, hal, hbp, hbl] at r1 r2 hz1 ⊢
  have R1 := Lib.hid r1
  have R2 := Lib.hid r2
  have HZ := Lib.hid hz1
  have HAz := Lib.hid haz
  have HBz := Lib.hid hbz
  have HAp := Lib.hid hap
  have HAl := Lib.hid hal
  have HBp := Lib.hid hbp
  have HBl := Lib.hid hbl
  have HNa := Lib.hid hna
  have HNb := Lib.hid hnb
  clear fa fb hJ hz1 r1 r2 h0 hna hnb haz hbz hap hal hbp hbl
  refine callsIn_of_wp Tryz.func39 rfl trivial ?_ rfl
  simp only [Tryz.ntmps39, List.size_toArray, List.length_cons, List.length_nil, Nat.reduceAdd, Nat.reduceSub, Array.replicate_succ, Array.replicate_zero, List.push_toArray, List.append_toArray, List.nil_append, List.cons_append]
  gi_wp2
  obtain ⟨pl, hpl2⟩ : ∃ x, bs (47 :: b.path) = x := ⟨_, rfl⟩
  have HPl := Lib.hid hpl2
  clear hpl2
  have hpla : ∀ w, Calls Tryz.prog 38 #[.string bpth] w fun e w' => e = .returned (.string pl) ∧ w' = w := fun w => by rw [← HBp.out, ← HPl.out]; exact (call_place0 b.path w hpl).mono fun e w' h => ⟨h.1, h.2.symm⟩
  refine wpIn_wide.2 ?_
  go_quiet ((go_at_call 38; exact Calls.quiet_of_same (hpla _)))
  have HJ1 := Lib.hid (HJ.out.fresh _ _ _ HZ.out (Below.drewN' (Below.refl _ _) nq))
  replace R1 := Lib.hid (R1.out.drewN nq)
  replace R2 := Lib.hid (R2.out.drewN nq)
  clear HZ hpla
  generalize World.drewN _ nq = W1 at *
  obtain ⟨A, hA⟩ : ∃ A, W.heap.size = A := ⟨_, rfl⟩
  rw [hA] at R1 R2 ⊢
  clear hA
  have HCs : Hid (∀ k, 0 ≤ chS a b k ∧ chS a b k ≤ bz) := Lib.hid (fun k => by have := chS_le a b (by rw [HAz.out]; omega) (by rw [HBz.out]; omega) k; rw [HBz.out] at this; exact this)
  obtain ⟨Pn, hPn⟩ : ∃ n, (bz + 511) / 512 = n := ⟨_, rfl⟩
  have HPn := Lib.hid hPn
  have hP1 : bz ≤ Pn * 512 := by omega
  have hP2 : Pn ≤ 600 := by omega
  clear hPn
  have b3 : W1.cell? ⟨A + 1, 3, none⟩ = some (.int .i64 bz) := R2.out.cell 3
  have HNl : Hid (∀ k, k ≤ 600 → (pre ++ headW a b ++ chW a b k).length < 1000000000) := Lib.hid (fun k hk => by
    have h1 := chW_len a b k
    have h2 := headW_len a b
    simp only [List.length_append]
    omega)
  have HN0 : Hid (pre.length < 1000000000) := Lib.hid (by omega)
  clear hN
  have hY : ∀ pre' s (w' : World) (v : Value), J pre' w' → .agg (spCells s (.slice none 0 0)).toArray = v → pre'.length < 1000000000 → YieldAt Fence.wide (n - 1) Tryz.prog l0 #[v] w' fun e W' => e = .returned (.bool true) ∧ J (pre' ++ [s]) W' ∧ KpS wb.heap.size w' W' := fun pre' s w' v h e hn => by rw [← e]; exact HJ.out.yield pre' s w' h hn
  have HY := Lib.hid hY
  have HTr : Hid (∀ z : Nat, z = bz → Value.agg (spCells (trSp b) (.slice none 0 0)).toArray = .agg #[.int .i64 12, .string pl, .string ⟨#[]⟩, .int .i64 z, .int .i64 0, .int .i64 0, .slice none 0 0]) := Lib.hid (fun z hz => by subst hz; simp only [trSp, sp1, spCells, HBz.out, HPl.out]; rfl)
  clear hY
  by_cases hsz : bz < az
  rotate_left
  · have h1 : ¬ (bz : Int) < az := by omega
    have HH : Hid (headW a b = []) := Lib.hid (by rw [headW, if_neg (by rw [HAz.out, HBz.out]; omega)])
    have H0 : Hid (chS a b 0 = az) := Lib.hid (by rw [chS, HAz.out, HBz.out]; omega)
    have HJL : Hid (J (pre ++ headW a b) W1) := Lib.hid (by rw [HH.out, List.append_nil]; exact HJ1.out)
    have HS0 : Hid ((az : Int) = chS a b 0) := Lib.hid H0.out.symm
    clear HJ1 HH H0
    gi_wp2
    clear b3 h1 hsz haz1
    obtain ⟨WL, rfl⟩ : ∃ w, w = W1 := ⟨_, rfl⟩
    gi_loopw [8, 9] (fun sv ov wr => ∃ (k o z : Nat), o = 512 * k ∧ k ≤ Pn ∧ ov = .int .i64 o ∧ (z : Int) = chS a b k ∧ sv = .int .i64 z ∧ J (pre ++ headW a b ++ chW a b k) wr ∧ Row wr A 58 [.int .i64 a.kind, .string apth, .string alnk, .int .i64 az, .slice aa na ca] ∧ Row wr (A + 1) 58 [.int .i64 b.kind, .string bpth, .string blnk, .int .i64 bz, .slice ab nb cb])
      (fun _ o _ => Pn * 512 - (RowKit.intOf o).toNat)
    case atStart => exact ⟨0, 0, _, rfl, Nat.zero_le _, rfl, HS0.out, rfl, by simpa [chW] using HJL.out, R1.out, R2.out⟩
    case round =>
      obtain ⟨k, o, z, ho, hk, rfl, hz, rfl, hJk, r1, r2⟩ := hrel
      have HO := Lib.hid ho
      have HZ := Lib.hid hz
      have HJK := Lib.hid hJk
      have Q1 := Lib.hid r1
      have Q2 := Lib.hid r2
      have b3 : wr.cell? ⟨A + 1, 3, none⟩ = some (.int .i64 bz) := r2.cell 3
      have hzb := HCs.out k
      rw [← hz] at hzb
      have hz2 : z ≤ 262144 := by omega
      clear ho hz hJk hzb r1 r2
      by_cases hlt : k < Pn
      · have hob : o < bz := by have := HO.out; have := HPn.out; omega
        have k1 : (o : Int) < bz := by omega
        have k0 : (0 : Int) ≤ o := Int.natCast_nonneg _
        have a0 : wr.cell? ⟨A, 0, none⟩ = some (.int .i64 a.kind) := Q1.out.cell 0
        have a1 : wr.cell? ⟨A, 1, none⟩ = some (.string apth) := Q1.out.cell 1
        have a2 : wr.cell? ⟨A, 2, none⟩ = some (.string alnk) := Q1.out.cell 2
        have a3 : wr.cell? ⟨A, 3, none⟩ = some (.int .i64 az) := Q1.out.cell 3
        have a4 : wr.cell? ⟨A, 4, none⟩ = some (.slice aa na ca) := Q1.out.cell 4
        have b0 : wr.cell? ⟨A + 1, 0, none⟩ = some (.int .i64 b.kind) := Q2.out.cell 0
        have b1 : wr.cell? ⟨A + 1, 1, none⟩ = some (.string bpth) := Q2.out.cell 1
        have b2 : wr.cell? ⟨A + 1, 2, none⟩ = some (.string blnk) := Q2.out.cell 2
        have b4 : wr.cell? ⟨A + 1, 4, none⟩ = some (.slice ab nb cb) := Q2.out.cell 4
        obtain ⟨pn, hpn⟩ : ∃ n, pgN b k = n := ⟨_, rfl⟩
        have hpn1 : pn = min 512 (bz - o) := by rw [← hpn, pgN, HBz.out, HO.out, Int.toNat_natCast]
        have hpn2 : pn ≤ 512 := by omega
        have hmin : min (512 : Int) ((bz : Int) - o) = (pn : Int) := by omega
        obtain ⟨pgb, hpgb⟩ : ∃ x, bs (pageF b o pn) = x := ⟨_, rfl⟩
        obtain ⟨pga, hpga⟩ : ∃ x, bs (pageF a o pn) = x := ⟨_, rfl⟩
        have HPgB : Hid (∀ w, Below wb.heap.size wb w → Calls Tryz.prog 56 #[.agg #[.int .i64 b.kind, .string bpth, .string blnk, .int .i64 bz, .slice ab nb cb], .int .i64 o, .int .i64 pn] w fun e w' => e = .returned (.string pgb) ∧ Below w.heap.size w w') := Lib.hid (fun w hw => by
          have h := call_page b (.slice ab nb cb) o pn w (HB.out.keep RPc.stays (keeps_below hw)) HFb.out (by omega) (by omega) hpn2
          simp only [mbCells, HBz.out, HBp.out, HBl.out, hpgb] at h
          exact h)
        have HPgA : Hid (∀ w, Below wb.heap.size wb w → Calls Tryz.prog 56 #[.agg #[.int .i64 a.kind, .string apth, .string alnk, .int .i64 az, .slice aa na ca], .int .i64 o, .int .i64 pn] w fun e w' => e = .returned (.string pga) ∧ Below w.heap.size w w') := Lib.hid (fun w hw => by
          have h := call_page a (.slice aa na ca) o pn w (HA.out.keep RPc.stays (keeps_below hw)) HFa.out (by omega) (by omega) hpn2
          simp only [mbCells, HAz.out, HAp.out, HAl.out, hpga] at h
          exact h)
        have hoc : (o : Int) = 512 * (k : Int) := by have := HO.out; omega
        have hdf : diffF a b k = !decide (pageF b o pn = pageF a o pn) := by rw [diffF, hpn, hoc]
        have HWr : Hid (Value.agg (spCells (wrSp b k) (.slice none 0 0)).toArray = .agg #[.int .i64 11, .string pl, .string pgb, .int .i64 o, .int .i64 0, .int .i64 0, .slice none 0 0]) := Lib.hid (by simp only [wrSp, spCells, HPl.out, hpn, ← hoc, hpgb])
        have HW1 : chW a b (k + 1) = chW a b k ++ (if diffF a b k = true then [wrSp b k] else []) := rfl
        have HS1 : chS a b (k + 1) = if diffF a b k = true then max (chS a b k) (512 * k + pgN b k) else chS a b k := rfl
        by_cases heq : pageF b o pn = pageF a o pn
        · have hq : (pgb.toList == pga.toList) = true := by rw [← hpgb, ← hpga, heq]; simp
          rw [hdf, heq, decide_eq_true rfl, if_neg (by simp)] at HW1 HS1
          rw [List.append_nil] at HW1
          have GW1 := Lib.hid HW1
          have GS1 := Lib.hid HS1
          clear hpn hpn1 hpgb hpga hoc hdf heq HW1 HS1 HWr
          gi_wp2
          refine ⟨trivial, hdep _, (callsIn_wide.2 (HPgB.out _ (HJ.out.base _ _ HJK.out))).mono ?_⟩
          rintro e w3 ⟨rfl, hb3⟩
          have HJ3 := Lib.hid (HJ.out.fresh _ _ _ HJK.out hb3)
          have Q13 := Lib.hid (Q1.out.below hb3 Q1.out.lt)
          have Q23 := Lib.hid (Q2.out.below hb3 Q2.out.lt)
          have a0 : w3.cell? ⟨A, 0, none⟩ = some (.int .i64 a.kind) := Q13.out.cell 0
          have a1 : w3.cell? ⟨A, 1, none⟩ = some (.string apth) := Q13.out.cell 1
          have a2 : w3.cell? ⟨A, 2, none⟩ = some (.string alnk) := Q13.out.cell 2
          have a3 : w3.cell? ⟨A, 3, none⟩ = some (.int .i64 az) := Q13.out.cell 3
          have a4 : w3.cell? ⟨A, 4, none⟩ = some (.slice aa na ca) := Q13.out.cell 4
          clear hb3
          gi_wp2
          refine ⟨trivial, hdep _, (callsIn_wide.2 (HPgA.out _ (HJ.out.base _ _ HJ3.out))).mono ?_⟩
          rintro e w4 ⟨rfl, hb4⟩
          have HJ4 := Lib.hid (HJ.out.fresh _ _ _ HJ3.out hb4)
          have Q14 := Lib.hid (Q13.out.below hb4 Q13.out.lt)
          have Q24 := Lib.hid (Q23.out.below hb4 Q23.out.lt)
          clear hb4
          gi_wp2
          go_roundw
          case rel => exact ⟨k + 1, o + 512, z, by have := HO.out; omega, by omega, by go_num, by rw [GS1.out]; exact HZ.out, by first | rfl | go_num, by rw [GW1.out]; exact HJ4.out, Q14.out, Q24.out⟩
          case measure => simp [RowKit.intOf]; omega
        · have hq : (pgb.toList == pga.toList) = false := by rw [← hpgb, ← hpga, bs_toList, bs_toList]; simpa using heq
          rw [hdf, decide_eq_false heq, if_pos (by simp)] at HW1 HS1
          have hz3 : chS a b (k + 1) = ((max z (o + pn) : Nat) : Int) := by rw [HS1, ← HZ.out, hpn, ← hoc]; omega
          have hmax : max (z : Int) ((o : Int) + pn) = ((max z (o + pn) : Nat) : Int) := by omega
          have GW1 := Lib.hid HW1
          have GS1 := Lib.hid hz3
          clear hpn hpn1 hpgb hpga hoc hdf heq HW1 HS1 hz3
          gi_wp2
          refine ⟨trivial, hdep _, (callsIn_wide.2 (HPgB.out _ (HJ.out.base _ _ HJK.out))).mono ?_⟩
          rintro e w3 ⟨rfl, hb3⟩
          have HJ3 := Lib.hid (HJ.out.fresh _ _ _ HJK.out hb3)
          have Q13 := Lib.hid (Q1.out.below hb3 Q1.out.lt)
          have Q23 := Lib.hid (Q2.out.below hb3 Q2.out.lt)
          have a0 : w3.cell? ⟨A, 0, none⟩ = some (.int .i64 a.kind) := Q13.out.cell 0
          have a1 : w3.cell? ⟨A, 1, none⟩ = some (.string apth) := Q13.out.cell 1
          have a2 : w3.cell? ⟨A, 2, none⟩ = some (.string alnk) := Q13.out.cell 2
          have a3 : w3.cell? ⟨A, 3, none⟩ = some (.int .i64 az) := Q13.out.cell 3
          have a4 : w3.cell? ⟨A, 4, none⟩ = some (.slice aa na ca) := Q13.out.cell 4
          clear hb3
          gi_wp2
          refine ⟨trivial, hdep _, (callsIn_wide.2 (HPgA.out _ (HJ.out.base _ _ HJ3.out))).mono ?_⟩
          rintro e w4 ⟨rfl, hb4⟩
          have HJ4 := Lib.hid (HJ.out.fresh _ _ _ HJ3.out hb4)
          have Q14 := Lib.hid (Q13.out.below hb4 Q13.out.lt)
          have Q24 := Lib.hid (Q23.out.below hb4 Q23.out.lt)
          obtain ⟨fn, tmps, assign, body, hy, hR⟩ := HY.out _ (wrSp b k) w4 _ HJ4.out HWr.out (HNl.out k (by omega))
          clear hb4
          gi_wp2
          refine ⟨hdep _, hR.mono ?_⟩
          rintro e w5 ⟨rfl, hJ5, hk5⟩
          have HJ5 := Lib.hid hJ5
          have Q15 := Lib.hid (hk5.row Q14.out (by decide) (by decide))
          have Q25 := Lib.hid (hk5.row Q24.out (by decide) (by decide))
          clear hy hR hJ5 hk5
          gi_wp2
          go_roundw
          case rel => exact ⟨k + 1, o + 512, max z (o + pn), by have := HO.out; omega, by omega, by go_num, GS1.out.symm, by first | rfl | go_num | (rw [hmax]), by rw [GW1.out, ← List.append_assoc]; exact HJ5.out, Q15.out, Q25.out⟩
          case measure => simp [RowKit.intOf]; omega
      · obtain rfl : k = Pn := by omega
        have hob : bz ≤ o := by have := HO.out; omega
        have k1 : ¬ (o : Int) < bz := by omega
        have hpg : pagesN b = k := by rw [pagesN, HBz.out, Int.toNat_natCast]; exact HPn.out
        by_cases he : z = bz
        · have hq : ((z : Int) == bz) = true := by simp [he]
          have hq2 : decide ((z : Int) = bz) = true := by simp [he]
          have HE : Hid (changesF a b = headW a b ++ chW a b k) := Lib.hid (by rw [changesF, hpg, if_pos (by rw [← HZ.out, HBz.out, he]), List.append_nil])
          clear hpg he
          gi_wp2
          refine ⟨fun _ h => (by cases h), ?_⟩
          gi_wp2
          go_ret
          exact ⟨rfl, by rw [HE.out, ← List.append_assoc]; exact HJK.out⟩
        · have hq : ((z : Int) == bz) = false := by simp; omega
          have hq2 : decide ((z : Int) = bz) = false := by simp; omega
          have HE : Hid (changesF a b = headW a b ++ chW a b k ++ [trSp b]) := Lib.hid (by rw [changesF, hpg, if_neg (by rw [← HZ.out, HBz.out]; omega)])
          obtain ⟨fn, tmps, assign, body, hy, hR⟩ := HY.out _ (trSp b) wr _ HJK.out (HTr.out bz rfl) (HNl.out k (by omega))
          clear hpg he
          gi_wp2
          refine ⟨hdep _, hR.mono ?_⟩
          rintro e w5 ⟨rfl, hJ5, hk5⟩
          have HJ5 := Lib.hid hJ5
          clear hy hR hJ5 hk5
          gi_wp2
          go_ret
          exact ⟨rfl, by rw [HE.out, ← List.append_assoc, ← List.append_assoc]; exact HJ5.out⟩
  · have h1 : (bz : Int) < az := by omega
    have HH : Hid (headW a b = [trSp b]) := Lib.hid (by rw [headW, if_pos (by rw [HAz.out, HBz.out]; omega)])
    have H0 : Hid (chS a b 0 = bz) := Lib.hid (by rw [chS, HAz.out, HBz.out]; omega)
    obtain ⟨fn, tmps, assign, body, hy, hR⟩ := HY.out pre (trSp b) W1 _ HJ1.out (HTr.out bz rfl) HN0.out
    gi_wp2
    refine ⟨hdep _, hR.mono ?_⟩
    rintro e W2 ⟨rfl, hJ2, hk2⟩
    have HJL : Hid (J (pre ++ headW a b) W2) := Lib.hid (by rw [HH.out]; exact hJ2)
    have HS0 : Hid ((bz : Int) = chS a b 0) := Lib.hid H0.out.symm
    replace R1 := Lib.hid (hk2.row R1.out (by decide) (by decide))
    replace R2 := Lib.hid (hk2.row R2.out (by decide) (by decide))
    clear hy hR HJ1 b3 hJ2 hk2 HH H0
    gi_wp2
    clear h1 hsz haz1
    obtain ⟨WL, rfl⟩ : ∃ w, w = W2 := ⟨_, rfl⟩
    gi_loopw [8, 9] (fun sv ov wr => ∃ (k o z : Nat), o = 512 * k ∧ k ≤ Pn ∧ ov = .int .i64 o ∧ (z : Int) = chS a b k ∧ sv = .int .i64 z ∧ J (pre ++ headW a b ++ chW a b k) wr ∧ Row wr A 58 [.int .i64 a.kind, .string apth, .string alnk, .int .i64 az, .slice aa na ca] ∧ Row wr (A + 1) 58 [.int .i64 b.kind, .string bpth, .string blnk, .int .i64 bz, .slice ab nb cb])
      (fun _ o _ => Pn * 512 - (RowKit.intOf o).toNat)
    case atStart => exact ⟨0, 0, _, rfl, Nat.zero_le _, rfl, HS0.out, rfl, by simpa [chW] using HJL.out, R1.out, R2.out⟩
    case round =>
      obtain ⟨k, o, z, ho, hk, rfl, hz, rfl, hJk, r1, r2⟩ := hrel
      have HO := Lib.hid ho
      have HZ := Lib.hid hz
      have HJK := Lib.hid hJk
      have Q1 := Lib.hid r1
      have Q2 := Lib.hid r2
      have b3 : wr.cell? ⟨A + 1, 3, none⟩ = some (.int .i64 bz) := r2.cell 3
      have hzb := HCs.out k
      rw [← hz] at hzb
      have hz2 : z ≤ 262144 := by omega
      clear ho hz hJk hzb r1 r2
      by_cases hlt : k < Pn
      · have hob : o < bz := by have := HO.out; have := HPn.out; omega
        have k1 : (o : Int) < bz := by omega
        have k0 : (0 : Int) ≤ o := Int.natCast_nonneg _
        have a0 : wr.cell? ⟨A, 0, none⟩ = some (.int .i64 a.kind) := Q1.out.cell 0
        have a1 : wr.cell? ⟨A, 1, none⟩ = some (.string apth) := Q1.out.cell 1
        have a2 : wr.cell? ⟨A, 2, none⟩ = some (.string alnk) := Q1.out.cell 2
        have a3 : wr.cell? ⟨A, 3, none⟩ = some (.int .i64 az) := Q1.out.cell 3
        have a4 : wr.cell? ⟨A, 4, none⟩ = some (.slice aa na ca) := Q1.out.cell 4
        have b0 : wr.cell? ⟨A + 1, 0, none⟩ = some (.int .i64 b.kind) := Q2.out.cell 0
        have b1 : wr.cell? ⟨A + 1, 1, none⟩ = some (.string bpth) := Q2.out.cell 1
        have b2 : wr.cell? ⟨A + 1, 2, none⟩ = some (.string blnk) := Q2.out.cell 2
        have b4 : wr.cell? ⟨A + 1, 4, none⟩ = some (.slice ab nb cb) := Q2.out.cell 4
        obtain ⟨pn, hpn⟩ : ∃ n, pgN b k = n := ⟨_, rfl⟩
        have hpn1 : pn = min 512 (bz - o) := by rw [← hpn, pgN, HBz.out, HO.out, Int.toNat_natCast]
        have hpn2 : pn ≤ 512 := by omega
        have hmin : min (512 : Int) ((bz : Int) - o) = (pn : Int) := by omega
        obtain ⟨pgb, hpgb⟩ : ∃ x, bs (pageF b o pn) = x := ⟨_, rfl⟩
        obtain ⟨pga, hpga⟩ : ∃ x, bs (pageF a o pn) = x := ⟨_, rfl⟩
        have HPgB : Hid (∀ w, Below wb.heap.size wb w → Calls Tryz.prog 56 #[.agg #[.int .i64 b.kind, .string bpth, .string blnk, .int .i64 bz, .slice ab nb cb], .int .i64 o, .int .i64 pn] w fun e w' => e = .returned (.string pgb) ∧ Below w.heap.size w w') := Lib.hid (fun w hw => by
          have h := call_page b (.slice ab nb cb) o pn w (HB.out.keep RPc.stays (keeps_below hw)) HFb.out (by omega) (by omega) hpn2
          simp only [mbCells, HBz.out, HBp.out, HBl.out, hpgb] at h
          exact h)
        have HPgA : Hid (∀ w, Below wb.heap.size wb w → Calls Tryz.prog 56 #[.agg #[.int .i64 a.kind, .string apth, .string alnk, .int .i64 az, .slice aa na ca], .int .i64 o, .int .i64 pn] w fun e w' => e = .returned (.string pga) ∧ Below w.heap.size w w') := Lib.hid (fun w hw => by
          have h := call_page a (.slice aa na ca) o pn w (HA.out.keep RPc.stays (keeps_below hw)) HFa.out (by omega) (by omega) hpn2
          simp only [mbCells, HAz.out, HAp.out, HAl.out, hpga] at h
          exact h)
        have hoc : (o : Int) = 512 * (k : Int) := by have := HO.out; omega
        have hdf : diffF a b k = !decide (pageF b o pn = pageF a o pn) := by rw [diffF, hpn, hoc]
        have HWr : Hid (Value.agg (spCells (wrSp b k) (.slice none 0 0)).toArray = .agg #[.int .i64 11, .string pl, .string pgb, .int .i64 o, .int .i64 0, .int .i64 0, .slice none 0 0]) := Lib.hid (by simp only [wrSp, spCells, HPl.out, hpn, ← hoc, hpgb])
        have HW1 : chW a b (k + 1) = chW a b k ++ (if diffF a b k = true then [wrSp b k] else []) := rfl
        have HS1 : chS a b (k + 1) = if diffF a b k = true then max (chS a b k) (512 * k + pgN b k) else chS a b k := rfl
        by_cases heq : pageF b o pn = pageF a o pn
        · have hq : (pgb.toList == pga.toList) = true := by rw [← hpgb, ← hpga, heq]; simp
          rw [hdf, heq, decide_eq_true rfl, if_neg (by simp)] at HW1 HS1
          rw [List.append_nil] at HW1
          have GW1 := Lib.hid HW1
          have GS1 := Lib.hid HS1
          clear hpn hpn1 hpgb hpga hoc hdf heq HW1 HS1 HWr
          gi_wp2
          refine ⟨trivial, hdep _, (callsIn_wide.2 (HPgB.out _ (HJ.out.base _ _ HJK.out))).mono ?_⟩
          rintro e w3 ⟨rfl, hb3⟩
          have HJ3 := Lib.hid (HJ.out.fresh _ _ _ HJK.out hb3)
          have Q13 := Lib.hid (Q1.out.below hb3 Q1.out.lt)
          have Q23 := Lib.hid (Q2.out.below hb3 Q2.out.lt)
          have a0 : w3.cell? ⟨A, 0, none⟩ = some (.int .i64 a.kind) := Q13.out.cell 0
          have a1 : w3.cell? ⟨A, 1, none⟩ = some (.string apth) := Q13.out.cell 1
          have a2 : w3.cell? ⟨A, 2, none⟩ = some (.string alnk) := Q13.out.cell 2
          have a3 : w3.cell? ⟨A, 3, none⟩ = some (.int .i64 az) := Q13.out.cell 3
          have a4 : w3.cell? ⟨A, 4, none⟩ = some (.slice aa na ca) := Q13.out.cell 4
          clear hb3
          gi_wp2
          refine ⟨trivial, hdep _, (callsIn_wide.2 (HPgA.out _ (HJ.out.base _ _ HJ3.out))).mono ?_⟩
          rintro e w4 ⟨rfl, hb4⟩
          have HJ4 := Lib.hid (HJ.out.fresh _ _ _ HJ3.out hb4)
          have Q14 := Lib.hid (Q13.out.below hb4 Q13.out.lt)
          have Q24 := Lib.hid (Q23.out.below hb4 Q23.out.lt)
          clear hb4
          gi_wp2
          go_roundw
          case rel => exact ⟨k + 1, o + 512, z, by have := HO.out; omega, by omega, by go_num, by rw [GS1.out]; exact HZ.out, by first | rfl | go_num, by rw [GW1.out]; exact HJ4.out, Q14.out, Q24.out⟩
          case measure => simp [RowKit.intOf]; omega
        · have hq : (pgb.toList == pga.toList) = false := by rw [← hpgb, ← hpga, bs_toList, bs_toList]; simpa using heq
          rw [hdf, decide_eq_false heq, if_pos (by simp)] at HW1 HS1
          have hz3 : chS a b (k + 1) = ((max z (o + pn) : Nat) : Int) := by rw [HS1, ← HZ.out, hpn, ← hoc]; omega
          have hmax : max (z : Int) ((o : Int) + pn) = ((max z (o + pn) : Nat) : Int) := by omega
          have GW1 := Lib.hid HW1
          have GS1 := Lib.hid hz3
          clear hpn hpn1 hpgb hpga hoc hdf heq HW1 HS1 hz3
          gi_wp2
          refine ⟨trivial, hdep _, (callsIn_wide.2 (HPgB.out _ (HJ.out.base _ _ HJK.out))).mono ?_⟩
          rintro e w3 ⟨rfl, hb3⟩
          have HJ3 := Lib.hid (HJ.out.fresh _ _ _ HJK.out hb3)
          have Q13 := Lib.hid (Q1.out.below hb3 Q1.out.lt)
          have Q23 := Lib.hid (Q2.out.below hb3 Q2.out.lt)
          have a0 : w3.cell? ⟨A, 0, none⟩ = some (.int .i64 a.kind) := Q13.out.cell 0
          have a1 : w3.cell? ⟨A, 1, none⟩ = some (.string apth) := Q13.out.cell 1
          have a2 : w3.cell? ⟨A, 2, none⟩ = some (.string alnk) := Q13.out.cell 2
          have a3 : w3.cell? ⟨A, 3, none⟩ = some (.int .i64 az) := Q13.out.cell 3
          have a4 : w3.cell? ⟨A, 4, none⟩ = some (.slice aa na ca) := Q13.out.cell 4
          clear hb3
          gi_wp2
          refine ⟨trivial, hdep _, (callsIn_wide.2 (HPgA.out _ (HJ.out.base _ _ HJ3.out))).mono ?_⟩
          rintro e w4 ⟨rfl, hb4⟩
          have HJ4 := Lib.hid (HJ.out.fresh _ _ _ HJ3.out hb4)
          have Q14 := Lib.hid (Q13.out.below hb4 Q13.out.lt)
          have Q24 := Lib.hid (Q23.out.below hb4 Q23.out.lt)
          obtain ⟨fn, tmps, assign, body, hy, hR⟩ := HY.out _ (wrSp b k) w4 _ HJ4.out HWr.out (HNl.out k (by omega))
          clear hb4
          gi_wp2
          refine ⟨hdep _, hR.mono ?_⟩
          rintro e w5 ⟨rfl, hJ5, hk5⟩
          have HJ5 := Lib.hid hJ5
          have Q15 := Lib.hid (hk5.row Q14.out (by decide) (by decide))
          have Q25 := Lib.hid (hk5.row Q24.out (by decide) (by decide))
          clear hy hR hJ5 hk5
          gi_wp2
          go_roundw
          case rel => exact ⟨k + 1, o + 512, max z (o + pn), by have := HO.out; omega, by omega, by go_num, GS1.out.symm, by first | rfl | go_num | (rw [hmax]), by rw [GW1.out, ← List.append_assoc]; exact HJ5.out, Q15.out, Q25.out⟩
          case measure => simp [RowKit.intOf]; omega
      · obtain rfl : k = Pn := by omega
        have hob : bz ≤ o := by have := HO.out; omega
        have k1 : ¬ (o : Int) < bz := by omega
        have hpg : pagesN b = k := by rw [pagesN, HBz.out, Int.toNat_natCast]; exact HPn.out
        by_cases he : z = bz
        · have hq : ((z : Int) == bz) = true := by simp [he]
          have hq2 : decide ((z : Int) = bz) = true := by simp [he]
          have HE : Hid (changesF a b = headW a b ++ chW a b k) := Lib.hid (by rw [changesF, hpg, if_pos (by rw [← HZ.out, HBz.out, he]), List.append_nil])
          clear hpg he
          gi_wp2
          refine ⟨fun _ h => (by cases h), ?_⟩
          gi_wp2
          go_ret
          exact ⟨rfl, by rw [HE.out, ← List.append_assoc]; exact HJK.out⟩
        · have hq : ((z : Int) == bz) = false := by simp; omega
          have hq2 : decide ((z : Int) = bz) = false := by simp; omega
          have HE : Hid (changesF a b = headW a b ++ chW a b k ++ [trSp b]) := Lib.hid (by rw [changesF, hpg, if_neg (by rw [← HZ.out, HBz.out]; omega)])
          obtain ⟨fn, tmps, assign, body, hy, hR⟩ := HY.out _ (trSp b) wr _ HJK.out (HTr.out bz rfl) (HNl.out k (by omega))
          clear hpg he
          gi_wp2
          refine ⟨hdep _, hR.mono ?_⟩
          rintro e w5 ⟨rfl, hJ5, hk5⟩
          have HJ5 := Lib.hid hJ5
          clear hy hR hJ5 hk5
          gi_wp2
          go_ret
          exact ⟨rfl, by rw [HE.out, ← List.append_assoc, ← List.append_assoc]; exact HJ5.out⟩
end Go.Proofs.YtlecpjfggoehdaaGreatDoor.Ar
