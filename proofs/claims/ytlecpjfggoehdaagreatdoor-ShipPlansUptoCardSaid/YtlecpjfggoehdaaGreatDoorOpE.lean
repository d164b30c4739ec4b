
/- Archive: the members, one round each: a round that may give up. Archive: the deferred closure of Open. Archive: what is known between two members. Archive: Open. -/
import Derived.Test.YtlecpjfggoehdaaGreatDoorOpD
import Derived.RangeFuncKeeps
import Derived.RangeFuncLeaves
import Derived.RangeFuncCalls
import Derived.Shelf.Abstract
import Derived.WalkKit
import Derived.OwnWalkIn
import Derived.TacticsInMore
import Derived.LoopNIn
import Derived.LoopIn
import Derived.Recover
set_option linter.unusedVariables false
set_option linter.unusedSimpArgs false
set_option maxRecDepth 100000
namespace Go.Proofs.YtlecpjfggoehdaaGreatDoor.Ar
open Go.RowKit Go.Sort Go.Lib Go.Proofs.YtlecpjfggoehdaaGreatDoor.Rs

/-! ### a round that may panic -/
def roundPostMay (P : Program) (l : Nat) (R : Ending → World → Prop) : Exit → Act → World → Prop
  | .panic chain, a, w => a.defers = [] ∧ R (.panicked chain) w
  | e, a, w => roundPost P l R e a w
theorem roundIn_may {F : Fence} {n : Nat} {P : Program} {l : Nat} {f : FuncId} {tmps : Array Value} {assign body : Code} {w : World} {R : Ending → World → Prop} (hF : F.fn f) (hf : ∃ fn, P.funcs[f]? = some fn)
    (h : assign.wpIn (F.inRound l) n P (Exit.then (fun a₁ w₁ => ∃ w₂, (Instr.beginRound l).run P w₁ = .ok () w₂ ∧ body.wpIn (F.inRound l) n P (roundPostMay P l R) a₁ w₂) (fun _ _ _ => False))
      { tmps := tmps, defers := [] } w) :
    RoundIn F n P l f tmps assign body w R := by
  refine ⟨hF, fun c cs hr => ?_⟩
  let b : Frame := { (default : Frame) with fn := f, kind := .normal, roundOf := some l }
  have hb0 : Frame.round l f tmps assign body .normal = b.atR { tmps := tmps, defers := [] } [.code assign, .beginRound, .code body] := by
    simp [Frame.round, Frame.atR, b]
  have hr' : (F.inRound l).room ((c :: cs).length + 1 + n) := hr
  have hF' : (F.inRound l).fn b.fn := hF
  obtain ⟨e, a₁, w₁, hq, harr⟩ := h b [.beginRound, .code body] (c :: cs) rfl hF' hr'
  rw [← hb0] at harr
  cases e with
  | normal =>
    obtain ⟨w₂, hbr, hbody⟩ := hq
    have s1 : StepsIn (Machine.fenced P (F.inRound l)) P (lone (b.atR a₁ [.beginRound, .code body]) (c :: cs) w₁) (lone (b.atR a₁ [.code body]) (c :: cs) w₂) :=
      .one (fenced_calm (fr := b.atR a₁ [.beginRound, .code body]) hF' hr' rfl) (stepR_beginRound rfl hbr)
    obtain ⟨e₂, a₂, w₃, hq₂, harr₂⟩ := hbody b [] (c :: cs) rfl hF' hr'
    cases e₂ with
    | normal =>
      obtain ⟨v, w₄, hend, hR⟩ := hq₂
      exact ⟨.returned v, w₄, hR, (StepsIn.trans harr s1).trans (StepsIn.trans harr₂ (.one (fenced_calm (fr := b.atR a₂ []) hF' hr' rfl) (stepR_round_end rfl rfl hend)))⟩
    | ret =>
      obtain ⟨v, w₄, hend, hR⟩ := hq₂
      obtain ⟨k₁, hs⟩ := harr₂.2 rfl
      exact ⟨.returned v, w₄, hR, (StepsIn.trans harr s1).trans (StepsIn.trans hs (.one (fenced_calm (fr := b.atR a₂ (.code .ret :: k₁)) hF' hr' rfl) (stepR_round_ret rfl rfl hend)))⟩
    | exit id =>
      obtain ⟨v, w₄, hend, hR⟩ := hq₂
      obtain ⟨k₁, hk, hs⟩ := harr₂.2 rfl rfl
      exact ⟨.returned v, w₄, hR, (StepsIn.trans harr s1).trans (StepsIn.trans hs (.one (fenced_calm (fr := b.atR a₂ (.code (.exit id) :: k₁)) hF' hr' rfl) (stepR_round_exit rfl rfl hk hend)))⟩
    | goto t =>
      obtain ⟨v, w₄, hend, hR⟩ := hq₂
      obtain ⟨k₁, hk, hs⟩ := harr₂.2 rfl rfl
      exact ⟨.returned v, w₄, hR, (StepsIn.trans harr s1).trans (StepsIn.trans hs (.one (fenced_calm (fr := b.atR a₂ (.code (.goto t) :: k₁)) hF' hr' rfl) (stepR_round_goto rfl rfl hk hend)))⟩
    | panic chain =>
      obtain ⟨hd, hR⟩ := hq₂
      obtain ⟨todo, hs⟩ := harr₂
      have hl : ({ b.atR a₂ todo with mode := .panicking chain } : Frame).leaving P w₃ (.panicked chain) := ⟨rfl, hd, hf⟩
      exact ⟨.panicked chain, w₃, hR, (StepsIn.trans harr s1).trans (StepsIn.trans hs (.one (fenced_leaving hF' hr' hl) (step_leave_panicked hl)))⟩
    | outgrown => exact hq₂.elim
  | exit id => exact hq.elim
  | goto t => exact hq.elim
  | ret => exact hq.elim
  | panic chain => exact hq.elim
  | outgrown => exact hq.elim

/-! ### the iterator -/
def parse (b : List UInt8) : Nat → Option (List Mb × Nat)
  | 0 => some ([], 64)
  | i + 1 => (parse b i).bind fun r => (pMem b r.2).map fun x => (r.1 ++ [x.1], x.2)
theorem pMem_le {b : List UInt8} {k k' : Nat} {m : Mb} (h : pMem b k = some (m, k')) : k < k' ∧ k' ≤ b.length := by
  rw [pMem] at h
  obtain ⟨x, hx, h2⟩ := Option.bind_eq_some_iff.1 h
  split at h2
  · rename_i hs
    cases h2
    rw [rawMem] at hx
    split at hx
    · obtain ⟨r, hr, h3⟩ := Option.bind_eq_some_iff.1 hx
      have h4 := rawPcs_len hr
      split at h3
      · cases h3
        simp only at *
        omega
      · cases h3
    · cases hx
  · cases h2
theorem parse_le {b : List UInt8} (h : 64 ≤ b.length) : ∀ {i : Nat} {r : List Mb × Nat}, parse b i = some r → r.2 ≤ b.length ∧ r.1.length = i
  | 0, r, h2 => by cases h2; exact ⟨h, rfl⟩
  | i + 1, r, h2 => by
    rw [parse] at h2
    obtain ⟨q, hq, h3⟩ := Option.bind_eq_some_iff.1 h2
    obtain ⟨x, hx, rfl⟩ := Option.map_eq_some_iff.1 h3
    exact ⟨(pMem_le (m := x.1) (k' := x.2) hx).2, by rw [List.length_append, (parse_le h hq).2]; rfl⟩
theorem parse_step {b : List UInt8} {i k k' : Nat} {pre : List Mb} {m : Mb} (h : parse b i = some (pre, k)) (h2 : pMem b k = some (m, k')) : parse b (i + 1) = some (pre ++ [m], k') := by
  rw [parse, h, Option.bind_some]; simp only; rw [h2]; rfl

/-- why the iterator gives up -/
def AllBad (b : List UInt8) (Bd : List Mb → Mb → Prop) : Prop :=
  headOk b = false ∨ (headOk b = true ∧ ∃ i pre k, i < numN b 8 ∧ parse b i = some (pre, k) ∧ (pMem b k = none ∨ ∃ m k', pMem b k = some (m, k') ∧ Bd pre m))
def AllPost (b : List UInt8) (J : List Mb → Nat → World → Prop) (Jp : World → Prop) (Bd : List Mb → Mb → Prop) (e : Ending) (W : World) : Prop :=
  (e = .panicked giveUp ∧ AllBad b Bd ∧ Jp W) ∨ (∃ v ms k, e = .returned v ∧ headOk b = true ∧ parse b (numN b 8) = some (ms, k) ∧ J ms k W)
theorem AllPost.no {b : List UInt8} {J : List Mb → Nat → World → Prop} {Jp : World → Prop} {Bd : List Mb → Mb → Prop} {W : World} (h : AllBad b Bd) (hj : Jp W) : AllPost b J Jp Bd (.panicked giveUp) W := .inl ⟨rfl, h, hj⟩
theorem AllPost.yes {b : List UInt8} {J : List Mb → Nat → World → Prop} {Jp : World → Prop} {Bd : List Mb → Mb → Prop} {W : World} {v : Value} {ms : List Mb} {k : Nat} (h0 : headOk b = true) (h : parse b (numN b 8) = some (ms, k)) (hj : J ms k W) : AllPost b J Jp Bd (.returned v) W := .inr ⟨v, ms, k, rfl, h0, h, hj⟩
theorem head_any {R : Nat} {vb : Value} {b : List UInt8} {w w' : World} {e : Ending} (h : HeadPost w R vb b e w') : (headOk b = true ∧ e = .returned (.int .i64 (numN b 8)) ∧ w.grownBy w' (some R) ∧ Rd w' R vb b 64) ∨ (headOk b = false ∧ e = .panicked giveUp ∧ w.grownBy w' (some R)) := by
  obtain ⟨hg, h⟩ := h
  split at h
  · rename_i hh; exact .inl ⟨hh, by rw [numN_cast]; exact h.1, hg, h.2⟩
  · rename_i hh; exact .inr ⟨by simpa using hh, h, hg⟩
theorem mem_any {R k : Nat} {vb : Value} {b : List UInt8} {w w' : World} {e : Ending} (h : MemPost w R vb b k e w') : (∃ m k' vp, pMem b k = some (m, k') ∧ e = .returned (.agg (mbCells m vp).toArray) ∧ w.grownBy w' (some R) ∧ OwnP w.heap.size w' vp m.pieces ∧ Rd w' R vb b k') ∨ (pMem b k = none ∧ e = .panicked giveUp ∧ w.grownBy w' (some R)) := by
  obtain ⟨hg, h⟩ := h
  split at h
  · rename_i m k' hh
    obtain ⟨vp, h1, h2, h3⟩ := h
    exact .inl ⟨m, k', vp, hh, h1, hg, h2, h3⟩
  · rename_i hh; exact .inr ⟨hh, h, hg⟩
theorem headOk_len {b : List UInt8} (h : headOk b = true) : 64 ≤ b.length := by
  rw [headOk, Bool.and_eq_true] at h
  exact of_decide_eq_true h.1

/-- the reader's box and what stays -/
structure RdBox (W : World) (Bx R : Nat) (vb : Value) (b : List UInt8) (k : Nat) : Prop where
  rd : Rd W R vb b k
  box : W.cell? ⟨Bx, 0, none⟩ = some (.pointer (some ⟨R, 0, none⟩))
  stp : Stp W

attribute [local go_sem] Oper.semAt_some
set_option maxHeartbeats 8000000 in
theorem call_all (n l R Bx : Nat) (vb : Value) (b : List UInt8) (J : List Mb → Nat → World → Prop) (Jp : World → Prop) (Bd : List Mb → Mb → Prop)
    (hJr : ∀ pre k W, J pre k W → RdBox W Bx R vb b k)
    (hJs : ∀ pre k k' W W', J pre k W → W.grownBy W' (some R) → Rd W' R vb b k' → J pre k' W')
    (hJp : ∀ pre k W W', J pre k W → W.grownBy W' (some R) → Jp W')
    (hY : ∀ i pre k m k' W0 W1 vp, i < numN b 8 → parse b i = some (pre, k) → J pre k W0 → pMem b k = some (m, k') → W0.grownBy W1 (some R) → OwnP W0.heap.size W1 vp m.pieces → J pre k' W1 →
      YieldAt Fence.wide (n - 1) Tryz.prog l #[.agg (mbCells m vp).toArray] W1 fun e W' => (e = .returned (.bool true) ∧ J (pre ++ [m]) k' W') ∨ (e = .panicked giveUp ∧ Bd pre m ∧ Jp W'))
    (W : World) (h0 : J [] 0 W) :
    CallsIn Fence.wide n Tryz.prog 52 #[.func (.yield l) #[] #[], .pointer (some ⟨Bx, 0, none⟩)] W (AllPost b J Jp Bd) := by
  have hbx := (hJr _ _ _ h0).box
  have HR := Lib.hid (hJr _ _ _ h0)
  have HJ0 := Lib.hid h0
  have HJr := Lib.hid hJr
  have HJs := Lib.hid hJs
  have HJp := Lib.hid hJp
  have HY := Lib.hid hY
  obtain ⟨N, hN⟩ : ∃ N, numN b 8 = N := ⟨_, rfl⟩
  have HN := Lib.hid hN
  have hNl : N < 4294967296 := by rw [← hN]; exact numN_lt _ _
  clear h0 hJr hJs hJp hY hN
  refine callsIn_of_wp Tryz.func52 rfl trivial ?_ rfl
  simp only [Tryz.ntmps52, List.size_toArray, List.length_cons, List.length_nil, Nat.reduceAdd, Nat.reduceSub, Array.replicate_succ, Array.replicate_zero, List.push_toArray, List.append_toArray, List.nil_append, List.cons_append]
  have hdep : ∀ m, Fence.wide.depth.isSome = true → 1 ≤ m := fun m h => by cases h
  gi_wp2
  refine ⟨trivial, hdep _, (callsIn_wide.2 (call_head R vb b _ HR.out.rd HR.out.stp)).mono ?_⟩
  intro e w1 hh
  rcases head_any hh with ⟨hok, rfl, hg1, hr1⟩ | ⟨hno, rfl, hg1⟩
  rotate_left
  · exact ⟨rfl, AllPost.no (.inl hno) (HJp.out _ _ _ _ HJ0.out hg1)⟩
  rw [HN.out]
  have HOk := Lib.hid hok
  have HJ1 := Lib.hid (HJs.out _ _ _ _ _ HJ0.out hg1 hr1)
  have hlen := headOk_len hok
  clear hh hg1 hr1 hok hbx HJ0 HR
  gi_wp2
  gi_loopw [5] (fun i wr => ∃ (j : Nat) (pre : List Mb) (k : Nat), i = .int .i64 j ∧ j ≤ N ∧ parse b j = some (pre, k) ∧ J pre k wr)
    (fun i wr => N - (match i with | .int _ x => x.toNat | _ => 0))
  case atStart =>
    exact ⟨0, [], 64, rfl, Nat.zero_le _, rfl, HJ1.out⟩
  case round =>
    obtain ⟨j, pre, k, rfl, hj, hpa, hJ⟩ := hrel
    have HPa := Lib.hid hpa
    have HJ := Lib.hid hJ
    have HRb := Lib.hid (HJr.out _ _ _ hJ)
    have hbx := HRb.out.box
    have hkl : k ≤ b.length := (parse_le hlen hpa).1
    clear hpa hJ HJ1
    by_cases hjn : j < N
    · gi_wp2
      refine ⟨trivial, hdep _, (callsIn_wide.2 (call_rdmember R vb b k _ HRb.out.rd (by omega) hkl HRb.out.stp)).mono ?_⟩
      intro e w2 hh
      rcases mem_any hh with ⟨m, k', vp, hm, rfl, hg, ho, hr⟩ | ⟨hm, rfl, hg⟩
      rotate_left
      · exact ⟨rfl, AllPost.no (.inr ⟨HOk.out, j, pre, k, by rw [HN.out]; exact hjn, HPa.out, .inl hm⟩) (HJp.out _ _ _ _ HJ.out hg)⟩
      have HM := Lib.hid hm
      obtain ⟨fn, tmps, assign, body, hy, hR⟩ := HY.out j pre k m k' wr w2 vp (by rw [HN.out]; exact hjn) HPa.out HJ.out hm hg ho (HJs.out _ _ _ _ _ HJ.out hg hr)
      clear hh hm hg ho hr
      gi_wp2
      refine ⟨hdep _, hR.mono ?_⟩
      rintro e w3 (⟨rfl, hJ3⟩ | ⟨rfl, hb3, hJp3⟩)
      rotate_left
      · exact ⟨rfl, AllPost.no (.inr ⟨HOk.out, j, pre, k, by rw [HN.out]; exact hjn, HPa.out, .inr ⟨m, k', HM.out, hb3⟩⟩) hJp3⟩
      have HJ3 := Lib.hid hJ3
      clear hJ3
      gi_wp2
      go_roundw
      case rel => exact ⟨j + 1, pre ++ [m], k', by simp, by omega, parse_step HPa.out HM.out, HJ3.out⟩
      case measure => simp; omega
    · obtain rfl : j = N := by omega
      gi_wp2
      go_end0
      exact AllPost.yes HOk.out (by rw [HN.out]; exact HPa.out) HJ.out
end Go.Proofs.YtlecpjfggoehdaaGreatDoor.Ar

set_option linter.unusedVariables false
set_option linter.unusedSimpArgs false
set_option maxRecDepth 100000
namespace Go.Proofs.YtlecpjfggoehdaaGreatDoor.Ar
open Go.RowKit Go.Sort Go.Lib Go.Proofs.YtlecpjfggoehdaaGreatDoor.Rs

theorem callsDIn_of_wpS {P : Program} {n : Nat} {f : FuncId} {fn : Func} {c : Code} {args : Array Value} {u : FrameMode} {w : World} {R : Ending → FrameMode → World → Prop}
    (hf : P.funcs[f]? = some fn) (hb : fn.body = some c)
    (h : ∀ (c₀ : Frame) (cs : List Frame), c₀.mode = u →
      c.wpS P (bodyPostS P fn c₀ cs R) { tmps := args ++ Array.replicate (fn.ntmps - args.size) undef, defers := [] } (c₀ :: cs) w) :
    CallsDIn Fence.wide n P f args u w R := by
  refine ⟨trivial, fun c₀ cs hu _ => ?_⟩
  let b : Frame := { (default : Frame) with fn := f, kind := .deferred }
  have henter : Frame.enter P f args .deferred =
      b.at { tmps := args ++ Array.replicate (fn.ntmps - args.size) undef, defers := [] } [.code c] := by
    simp [Frame.enter, Frame.at, hf, hb, b]
  obtain ⟨e, a', cs', w', hq, harr⟩ := h c₀ cs hu b [] rfl rfl
  rw [← henter] at harr
  cases e with
  | normal =>
    obtain ⟨hd, u', rfl, v, hr, hR⟩ := hq
    exact ⟨.returned v, u', w', _, hR, comesIn_wide.2 (Steps.trans harr (.one step_end)), rfl, rfl, rfl, hd, fn, hf, hr⟩
  | ret =>
    obtain ⟨hd, u', rfl, v, hr, hR⟩ := hq
    obtain ⟨todo, hs⟩ := harr
    exact ⟨.returned v, u', w', _, hR, comesIn_wide.2 hs, rfl, rfl, rfl, hd, fn, hf, hr⟩
  | panic chain =>
    obtain ⟨hd, u', rfl, hR⟩ := hq
    obtain ⟨todo, hs⟩ := harr
    exact ⟨.panicked chain, u', w', _, hR, comesIn_wide.2 hs, rfl, rfl, rfl, hd, fn, hf⟩
  | exit id => exact hq.elim
  | goto l => exact hq.elim
  | outgrown =>
    obtain ⟨u', hR⟩ := hq
    exact ⟨.outgrown, u', w', b, hR, harr.resolve_left (by simp [b]), rfl, rfl, trivial⟩

theorem caught_idle (n : Nat) (p q : Addr) (w : World) :
    CallsDIn Fence.wide n Tryz.prog 32 #[.pointer (some p), .pointer (some q)] .returning w fun e u' w' => e = .returned (.tuple #[]) ∧ u' = .returning ∧ w' = w := by
  refine callsDIn_of_wpS Tryz.func32 rfl fun c₀ cs hu => ?_
  simp only [Tryz.ntmps32, List.size_toArray, List.length_cons, List.length_nil, Nat.reduceAdd, Nat.reduceSub, Array.replicate_succ, Array.replicate_zero, List.push_toArray, List.append_toArray, List.nil_append, List.cons_append]
  apply wpS_seq
  apply wpS_region
  simp [wpOpsS, go_sem, recoverD, hu, Exit.thenS]
  refine wpS_of_wp ?_
  have hn : ∀ w : World, (binOp BinOp.neq 20 .nilIface .nilIface).run Tryz.prog w = .ok (.bool false) w := fun _ => by kernel_rfl
  go_wp2
  cases c₀
  simp_all [bodyPostS, results, Tryz.results32, Exit.thenS]

theorem caught (n : Nat) (A B : Nat) (v0 v1 : Value) (w : World) (hA : Row w A 33 [v0]) (hB : Row w B 25 [v1]) (hAB : A ≠ B) :
    CallsDIn Fence.wide n Tryz.prog 32 #[.pointer (some ⟨A, 0, none⟩), .pointer (some ⟨B, 0, none⟩)] (.panicking giveUp) w fun e u' w' =>
      e = .returned (.tuple #[]) ∧ settle u' = .returning ∧ Row w' A 33 [.slice none 0 0] ∧ Row w' B 25 [.int .i64 210] ∧ (∀ N, N ≤ A → N ≤ B → Below N w w') := by
  have a0 := hA.cell 0
  have b0 := hB.cell 0
  have fa := hA.free 0
  have fb := hB.free 0
  simp only [List.getElem?_cons_zero] at a0 b0
  have hBA : B ≠ A := fun e => hAB e.symm
  have hR1 : Row (w.setCell ⟨A, 0, none⟩ (.slice none 0 0)) A 33 [.slice none 0 0] := hA.set 0 _
  have hR2 : Row (w.setCell ⟨A, 0, none⟩ (.slice none 0 0)) B 25 [v1] := (Below.heap_setCell w ⟨A, 0, none⟩ _ B hBA).trans hB
  have HA := Lib.hid (show Row ((w.setCell ⟨A, 0, none⟩ (.slice none 0 0)).setCell ⟨B, 0, none⟩ (.int .i64 210)) A 33 [.slice none 0 0] from (Below.heap_setCell _ ⟨B, 0, none⟩ _ A hAB).trans hR1)
  have HB := Lib.hid (show Row ((w.setCell ⟨A, 0, none⟩ (.slice none 0 0)).setCell ⟨B, 0, none⟩ (.int .i64 210)) B 25 [.int .i64 210] from hR2.set 0 _)
  have b1 := hR2.cell 0
  have fb1 := hR2.free 0
  simp only [List.getElem?_cons_zero] at b1
  clear hR1 hR2 hA hB
  refine callsDIn_of_wpS Tryz.func32 rfl fun c₀ cs hu => ?_
  simp only [Tryz.ntmps32, List.size_toArray, List.length_cons, List.length_nil, Nat.reduceAdd, Nat.reduceSub, Array.replicate_succ, Array.replicate_zero, List.push_toArray, List.append_toArray, List.nil_append, List.cons_append]
  apply wpS_seq
  apply wpS_region
  simp [wpOpsS, go_sem, recoverD, hu, Exit.thenS, giveUp]
  refine wpS_of_wp ?_
  have hn : ∀ w : World, (binOp BinOp.neq 20 (.iface 25 (.int .i64 210)) .nilIface).run Tryz.prog w = .ok (.bool true) w := fun _ => by kernel_rfl
  have ht : ∀ w : World, (Instr.typeAssert (.iface 25 (.int .i64 210)) 20 25 true).run Tryz.prog w = .ok (.tuple #[.int .i64 210, .bool true]) w := fun _ => by kernel_rfl
  go_wp2
  cases c₀
  simp [bodyPostS, results, Tryz.results32, Exit.thenS, settle]
  exact ⟨HA.out, HB.out, fun N hNA hNB => ((Below.refl _ _).setCell (p := ⟨A, 0, none⟩) hNA _).setCell (p := ⟨B, 0, none⟩) hNB _⟩
end Go.Proofs.YtlecpjfggoehdaaGreatDoor.Ar

set_option linter.unusedVariables false
set_option linter.unusedSimpArgs false
set_option maxRecDepth 100000
namespace Go.Proofs.YtlecpjfggoehdaaGreatDoor.Ar
open Go.RowKit Go.Sort Go.Lib Go.Proofs.YtlecpjfggoehdaaGreatDoor.Rs

/-- the blocks of Open -/
structure OpB where
  (A Bq Vx Bx Lx R LB b1 b2 : Nat)
structure MemS (base : Nat) (W : World) (v : Value) (pre : List Mb) (L : List MV) : Prop where
  own : OwnM base W v L
  fst : L.map (·.1) = pre
  pcs : ∀ x ∈ L, OwnP base W x.2 x.1.pieces
  dis : L.Pairwise (fun y z => ∀ u, y.2.ownBlock = some u → z.2.ownBlock ≠ some u)
structure OpS (w0 : World) (x : OpB) (vb : Value) (b : List UInt8) (pre : List Mb) (k : Nat) (W : World) : Prop where
  below : Below w0.heap.size w0 W
  mem : ∃ v L, Row W x.A 33 [v] ∧ MemS w0.heap.size W v pre L
  err : Row W x.Bq 25 [.int .i64 0]
  rd : Rd W x.R vb b k
  bx : Row W x.Bx 74 [.pointer (some ⟨x.R, 0, none⟩)]
  vx : Row W x.Vx 74 [.pointer (some ⟨x.R, 0, none⟩)]
  lx : Row W x.Lx 50 [.pointer (some ⟨x.LB, 0, none⟩)]
  lst : ∃ n vl, n ≤ 2 * pre.length ∧ LstV W w0.heap.size x.LB x.b1 x.b2 n vl (lastAt pre pre.length) (fkAt pre pre.length) (flAt pre pre.length)
  adds : ∀ j m, pre[j]? = some m → addAt pre j m = true
  len : pre.length ≤ 8192
  sm : ∀ m ∈ pre, MbSm m
  loA : w0.heap.size ≤ x.A
  loB : w0.heap.size ≤ x.Bq
  loR : w0.heap.size ≤ x.R
/-- when it gives up -/
structure OpQ (w0 : World) (x : OpB) (W : World) : Prop where
  below : Below w0.heap.size w0 W
  mem : ∃ v, Row W x.A 33 [v]
  err : ∃ v, Row W x.Bq 25 [v]
  loA : w0.heap.size ≤ x.A
  loB : w0.heap.size ≤ x.Bq
  ne : x.A ≠ x.Bq
theorem OpS.q {w0 : World} {x : OpB} {vb : Value} {b : List UInt8} {pre : List Mb} {k : Nat} {W : World} (h : OpS w0 x vb b pre k W) : OpQ w0 x W := by
  obtain ⟨v, L, hr, _⟩ := h.mem
  exact ⟨h.below, ⟨v, hr⟩, ⟨_, h.err⟩, h.loA, h.loB, row_apart hr h.err (by decide)⟩

/-- a block that is none of those -/
structure Away (W : World) (X : Nat) : Prop where
  row : ∀ T cur, Row W X T cur → T = 76
  str : ∀ o s, W.cell? ⟨X, o, none⟩ ≠ some (.string s)
  map : ∀ n f, ¬ MapI W X n f
theorem away_rd {W : World} {R k : Nat} {vb : Value} {b : List UInt8} (h : Rd W R vb b k) : Away W R := by
  refine ⟨fun T cur h2 => ?_, fun o s e => ?_, fun n f hm => Row.ne_map h.row hm rfl⟩
  · exact Classical.byContradiction fun e => row_apart h.row h2 (fun e' => e e'.symm) rfl
  · rw [h.row.cell] at e
    obtain ⟨a, b', o', c, rfl, _⟩ := h.bytes
    match o, e with
    | 0, e => cases e
    | 1, e => cases e
    | o + 2, e => simp at e
theorem away_obj {W : World} {X : Nat} {o : Obj} (h : W.heap[X]? = some o) (hc : o.isCells = false) (hw : o.isWalk = false) : Away W X := by
  have hno : ∀ j, W.cell? ⟨X, j, none⟩ = none := fun j => by
    unfold World.cell?
    rw [h]
    cases o <;> first | rfl | cases hc
  refine ⟨fun T cur h2 => ?_, fun j s e => ?_, fun n f hm => ?_⟩
  · have h2' : W.heap[X]? = some (.cells cur.toArray T (0, 0)) := h2
    rw [h] at h2'; cases h2'; cases hc
  · rw [hno] at e; cases e
  · obtain ⟨D, ⟨es, clock, hb, _⟩, _⟩ := hm
    rw [h] at hb; cases hb; cases hw
theorem own_away {W W' : World} {X base e size n : Nat} {v : Value} {xs : List Value} (ha : Away W X) (hg : W.grownBy W' (some X)) (h : W.ownsRow base e size v n xs) (he : e ≠ 76) : W'.ownsRow base e size v n xs := by
  refine own_keep h (fun u hu => hg.block u (h.lt u hu).2 (fun e2 => ?_))
  cases e2
  rcases h.2 with ⟨rfl, _⟩ | ⟨g, cap, cur, rfl, _, hh, _⟩
  · cases hu
  · cases hu
    exact he (ha.row e cur.toList (by show _ = _; rw [Array.toArray_toList]; exact hh))
theorem Row.away {W W' : World} {X B T : Nat} {cur : List Value} (ha : Away W X) (hg : W.grownBy W' (some X)) (h : Row W B T cur) (hT : T ≠ 76) : Row W' B T cur :=
  h.grown hg (fun e => hT (ha.row T cur (by cases e; exact h)))
theorem MemS.away {W W' : World} {X base : Nat} {v : Value} {pre : List Mb} {L : List MV} (ha : Away W X) (hg : W.grownBy W' (some X)) (h : MemS base W v pre L) : MemS base W' v pre L :=
  ⟨own_away ha hg h.own (by decide), h.fst, fun x hx => own_away ha hg (h.pcs x hx) (by decide), h.dis⟩
theorem LstV.away {W W' : World} {X lo B b1 b2 n : Nat} {vl : Value} {last : Option (List (List UInt8))} {fk fl : List UInt8 → Int} (ha : Away W X) (hg : W.grownBy W' (some X)) (h : LstV W lo B b1 b2 n vl last fk fl) : LstV W' lo B b1 b2 n vl last fk fl := by
  refine ⟨Row.away ha hg h.row (by decide), ?_, h.kinds.kept (hg.block b1 h.kinds.lt (fun e => by cases e; exact ha.map _ _ h.kinds)), h.links.kept (hg.block b2 h.links.lt (fun e => by cases e; exact ha.map _ _ h.links)), h.lo1, h.lo2, h.loB, h.ne⟩
  cases last with
  | none => exact h.last
  | some l =>
    obtain ⟨B', c, e, hc, hs⟩ := h.last
    refine ⟨B', c, e, hc, fun j s hj => ?_⟩
    have hcj := hs j s hj
    exact (World.cell?_of_block (a := ⟨B', j, none⟩) (hg.block B' (World.block_lt_of_cell? W _ hcj) (fun e2 => by cases e2; exact ha.str _ _ hcj))).trans hcj
theorem OpS.away {w0 : World} {x : OpB} {vb : Value} {b : List UInt8} {pre : List Mb} {k k' X : Nat} {W W' : World} (h : OpS w0 x vb b pre k W) (ha : Away W X) (hg : W.grownBy W' (some X)) (hX : w0.heap.size ≤ X) (hr : Rd W' x.R vb b k') : OpS w0 x vb b pre k' W' := by
  obtain ⟨v, L, hv, hL⟩ := h.mem
  obtain ⟨n, vl, hn, hl⟩ := h.lst
  exact ⟨h.below.grown hg h.below.size (fun r e => by cases e; exact hX), ⟨v, L, Row.away ha hg hv (by decide), hL.away ha hg⟩, Row.away ha hg h.err (by decide), hr, Row.away ha hg h.bx (by decide), Row.away ha hg h.vx (by decide), Row.away ha hg h.lx (by decide), ⟨n, vl, hn, LstV.away ha hg hl⟩, h.adds, h.len, h.sm, h.loA, h.loB, h.loR⟩
theorem OpQ.away {w0 : World} {x : OpB} {X : Nat} {W W' : World} (h : OpQ w0 x W) (ha : Away W X) (hg : W.grownBy W' (some X)) (hX : w0.heap.size ≤ X) : OpQ w0 x W' := by
  obtain ⟨v, hv⟩ := h.mem
  obtain ⟨u, hu⟩ := h.err
  exact ⟨h.below.grown hg h.below.size (fun r e => by cases e; exact hX), ⟨v, Row.away ha hg hv (by decide)⟩, ⟨u, Row.away ha hg hu (by decide)⟩, h.loA, h.loB, h.ne⟩
/-- a reader minds no block without cells -/
theorem Rd.obj {W W' : World} {R k X : Nat} {vb : Value} {b : List UInt8} (h : Rd W R vb b k) {o : Obj} (ho : W.heap[X]? = some o) (hc : o.isCells = false) (hg : W.grownBy W' (some X)) : Rd W' R vb b k := by
  have hno : ∀ j, W.cell? ⟨X, j, none⟩ = none := fun j => by
    unfold World.cell?
    rw [ho]
    cases o <;> first | rfl | cases hc
  have hr : Row W' R 76 [vb, .int .i64 k] := h.row.grown hg (fun e => by cases e; have h2 := h.row.cell 1; rw [hno] at h2; cases h2)
  refine ⟨hr, ?_, h.len, h.cap, h.le⟩
  obtain ⟨a, b', o, c, e, ha, hcc⟩ := h.bytes
  exact ⟨a, b', o, c, e, ha, fun j x hj => by
    have h1 : W.cell? ⟨b', o + j * 1, none⟩ = _ := hcc j x hj
    exact (World.cell?_of_block (a := ⟨b', o + j * 1, none⟩) (hg.block b' (World.block_lt_of_cell? W _ h1) (by intro e2; cases e2; rw [hno] at h1; cases h1))).trans h1⟩
theorem OpS.obj {w0 : World} {x : OpB} {vb : Value} {b : List UInt8} {pre : List Mb} {k l : Nat} {W : World} (h : OpS w0 x vb b pre k W) {o : Obj} (ho : W.heap[l]? = some o) (hc : o.isCells = false) (hw : o.isWalk = false) (hl : w0.heap.size ≤ l) (o' : Obj) : OpS w0 x vb b pre k (W.putObj l o') :=
  h.away (away_obj ho hc hw) (grownBy_putObj' W l o') hl (h.rd.obj ho hc (grownBy_putObj' W l o'))
theorem OpQ.obj {w0 : World} {x : OpB} {l : Nat} {W : World} (h : OpQ w0 x W) {o : Obj} (ho : W.heap[l]? = some o) (hc : o.isCells = false) (hw : o.isWalk = false) (hl : w0.heap.size ≤ l) (o' : Obj) : OpQ w0 x (W.putObj l o') :=
  h.away (away_obj ho hc hw) (grownBy_putObj' W l o') hl
theorem OpS.fresh {w0 : World} {x : OpB} {vb : Value} {b : List UInt8} {pre : List Mb} {k : Nat} {W W' : World} (h : OpS w0 x vb b pre k W) (hb : Below W.heap.size W W') : OpS w0 x vb b pre k W' := by
  obtain ⟨v, L, hv, hL⟩ := h.mem
  obtain ⟨n, vl, hn, hl⟩ := h.lst
  exact ⟨below_after h.below hb, ⟨v, L, hv.below hb hv.lt, own_below hL.own hb, hL.fst, fun y hy => own_below (hL.pcs y hy) hb, hL.dis⟩, h.err.below hb h.err.lt, h.rd.below hb, h.bx.below hb h.bx.lt, h.vx.below hb h.vx.lt, h.lx.below hb h.lx.lt, ⟨n, vl, hn, hl.below hb⟩, h.adds, h.len, h.sm, h.loA, h.loB, h.loR⟩
theorem MemS.below {W W' : World} {base : Nat} {v : Value} {pre : List Mb} {L : List MV} (h : MemS base W v pre L) (hb : Below W.heap.size W W') : MemS base W' v pre L :=
  ⟨own_below h.own hb, h.fst, fun y hy => own_below (h.pcs y hy) hb, h.dis⟩
/-- the members' variable, and a new member's pieces apart from theirs -/
def MemF (w0 : World) (x : OpB) (pre : List Mb) (vp : Value) (W : World) : Prop :=
  ∃ v L, Row W x.A 33 [v] ∧ MemS w0.heap.size W v pre L ∧ ∀ y ∈ L, ∀ u, y.2.ownBlock = some u → vp.ownBlock ≠ some u
theorem MemF.fresh {w0 W W' : World} {x : OpB} {pre : List Mb} {vp : Value} (h : MemF w0 x pre vp W) (hb : Below W.heap.size W W') : MemF w0 x pre vp W' := by
  obtain ⟨v, L, h1, h2, h3⟩ := h
  exact ⟨v, L, h1.below hb h1.lt, h2.below hb, h3⟩
theorem MemF.away {w0 W W' : World} {x : OpB} {pre : List Mb} {vp : Value} {X : Nat} (h : MemF w0 x pre vp W) (ha : Away W X) (hg : W.grownBy W' (some X)) : MemF w0 x pre vp W' := by
  obtain ⟨v, L, h1, h2, h3⟩ := h
  exact ⟨v, L, Row.away ha hg h1 (by decide), h2.away ha hg, h3⟩
theorem OpS.memF {w0 x vb b pre k Wa Wb vp n xs} (h : OpS w0 x vb b pre k Wa) (hg : Wa.grownBy Wb (some x.R)) (ho : Wb.ownsRow Wa.heap.size 62 2 vp n xs) : MemF w0 x pre vp Wb := by
  obtain ⟨v, L, h1, h2⟩ := h.mem
  exact ⟨v, L, Row.away (away_rd h.rd) hg h1 (by decide), h2.away (away_rd h.rd) hg, fun y hy u e1 e2 => by
    have := ((h2.pcs y hy).lt u e1).2
    have := (ho.lt u e2).1
    omega⟩
end Go.Proofs.YtlecpjfggoehdaaGreatDoor.Ar

set_option linter.unusedVariables false
set_option linter.unusedSimpArgs false
set_option maxRecDepth 100000
namespace Go.Proofs.YtlecpjfggoehdaaGreatDoor.Ar
open Go.RowKit Go.Sort Go.Lib Go.Proofs.YtlecpjfggoehdaaGreatDoor.Rs

theorem call_allv (R : Nat) (w : World) : Calls Tryz.prog 33 #[.pointer (some ⟨R, 0, none⟩)] w fun e w' => e = .returned (.func (.func 52) #[] #[.pointer (some ⟨w.heap.size, 0, none⟩)]) ∧ w' = w.alloc (.cells #[.pointer (some ⟨R, 0, none⟩)] 74) := by
  go_enter Tryz.func33, Tryz.ntmps33
  go_wp2
  go_ret
  exact ⟨rfl, rfl⟩

/-! ### what the program opens -/
theorem lsts_app (l t : List Mb) : ∀ k, k ≤ l.length → lastAt (l ++ t) k = lastAt l k ∧ fkAt (l ++ t) k = fkAt l k ∧ flAt (l ++ t) k = flAt l k
  | 0, _ => ⟨rfl, rfl, rfl⟩
  | k + 1, h => by
    obtain ⟨_, h2, h3⟩ := lsts_app l t k (by omega)
    have hk : (l ++ t)[k]? = l[k]? := List.getElem?_append_left (by omega)
    exact ⟨by rw [lastAt, lastAt, hk], by rw [fkAt, fkAt, hk, h2], by rw [flAt, flAt, hk, h3]⟩
theorem addAt_app {l t : List Mb} {k : Nat} (h : k ≤ l.length) (m : Mb) : addAt (l ++ t) k m = addAt l k m := by
  obtain ⟨h1, h2, h3⟩ := lsts_app l t k h
  rw [addAt, addAt, h1, h2, h3]
def BdB (pre : List Mb) (m : Mb) : Prop := addAt pre pre.length m = false ∨ pre.length = 8192
def pOpen (b : List UInt8) : Option (List Mb) := if headOk b = true then (parse b (numN b 8)).bind fun r => if pGood r.1 = true ∧ r.2 = b.length then some r.1 else none else none
theorem parse_none {b : List UInt8} {i : Nat} (h : parse b i = none) : ∀ n, i ≤ n → parse b n = none
  | 0, hn => by obtain rfl : i = 0 := by omega
                exact h
  | n + 1, hn => by
    rcases Nat.lt_or_ge i (n + 1) with h' | h'
    · rw [parse, parse_none h n (by omega)]; rfl
    · obtain rfl : i = n + 1 := by omega
      exact h
theorem parse_ext {b : List UInt8} {i : Nat} {r : List Mb × Nat} (h : parse b i = some r) : ∀ n, i ≤ n → ∀ s, parse b n = some s → ∃ t, s.1 = r.1 ++ t
  | 0, hn, s, hs => by obtain rfl : i = 0 := by omega
                       rw [h] at hs; cases hs; exact ⟨[], by simp⟩
  | n + 1, hn, s, hs => by
    rcases Nat.lt_or_ge i (n + 1) with h' | h'
    · rw [parse] at hs
      obtain ⟨q, hq, h3⟩ := Option.bind_eq_some_iff.1 hs
      obtain ⟨x, hx, rfl⟩ := Option.map_eq_some_iff.1 h3
      obtain ⟨t, ht⟩ := parse_ext h n (by omega) q hq
      exact ⟨t ++ [x.1], by simp only; rw [ht, List.append_assoc]⟩
    · obtain rfl : i = n + 1 := by omega
      rw [h] at hs; cases hs; exact ⟨[], by simp⟩
theorem pGood_iff {l : List Mb} : pGood l = true ↔ l.length ≤ 8192 ∧ ∀ j m, l[j]? = some m → addAt l j m = true := by
  rw [pGood, Bool.and_eq_true, decide_eq_true_eq, List.all_eq_true]
  constructor
  · rintro ⟨h1, h2⟩
    refine ⟨h1, fun j m hj => ?_⟩
    have := h2 j (List.mem_range.2 (List.getElem?_eq_some_iff.1 hj).1)
    rw [hj] at this
    exact this
  · rintro ⟨h1, h2⟩
    refine ⟨h1, fun j hj => ?_⟩
    rw [List.mem_range] at hj
    rw [List.getElem?_eq_getElem hj]
    exact h2 j _ (List.getElem?_eq_getElem hj)
theorem open_bad {b : List UInt8} (h : AllBad b BdB) : pOpen b = none := by
  rcases h with h | ⟨h, i, pre, k, hi, hp, hm⟩
  · rw [pOpen, if_neg (by rw [h]; simp)]
  · rw [pOpen, if_pos h]
    cases hn : parse b (numN b 8) with
    | none => rfl
    | some s =>
      rw [Option.bind_some, if_neg]
      rintro ⟨hg, _⟩
      have hlen := parse_le (headOk_len h) hp
      rcases hm with hm | ⟨m, k', hm, hb⟩
      · have : parse b (i + 1) = none := by rw [parse, hp, Option.bind_some]; simp only; rw [hm]; rfl
        rw [parse_none this _ hi] at hn; cases hn
      · obtain ⟨t, ht⟩ := parse_ext (parse_step hp hm) _ hi s hn
        rw [ht] at hg
        obtain ⟨g1, g2⟩ := pGood_iff.1 hg
        simp only [List.length_append, List.length_cons, List.length_nil] at g1
        rcases hb with hb | hb
        · have h1 := g2 pre.length m (by simp)
          rw [List.append_assoc, addAt_app (Nat.le_refl _), hb] at h1
          cases h1
        · omega
theorem open_yes {b : List UInt8} {ms : List Mb} (h : headOk b = true) (hp : parse b (numN b 8) = some (ms, b.length)) (hl : ms.length ≤ 8192) (ha : ∀ j m, ms[j]? = some m → addAt ms j m = true) : pOpen b = some ms := by
  rw [pOpen, if_pos h, hp, Option.bind_some, if_pos ⟨pGood_iff.2 ⟨hl, ha⟩, rfl⟩]
theorem open_end {b : List UInt8} {ms : List Mb} {k : Nat} (hp : parse b (numN b 8) = some (ms, k)) (hk : k ≠ b.length) : pOpen b = none := by
  rw [pOpen]
  split
  · rw [hp, Option.bind_some, if_neg]
    rintro ⟨_, h⟩; exact hk h
  · rfl

/-- what Open answers -/
def OpenPost (w : World) (b : List UInt8) (e : Ending) (w' : World) : Prop :=
  Below w.heap.size w w' ∧ match pOpen b with
  | some ms => ∃ v L, e = .returned (.tuple #[v, .int .i64 0]) ∧ MemS w.heap.size w' v ms L
  | none => e = .returned (.tuple #[.slice none 0 0, .int .i64 210])
theorem OpenPost.no {w w' : World} {b : List UInt8} (h : pOpen b = none) (hb : Below w.heap.size w w') : OpenPost w b (.returned (.tuple #[.slice none 0 0, .int .i64 210])) w' := ⟨hb, by rw [h]⟩
theorem OpenPost.yes {w w' : World} {b : List UInt8} {ms : List Mb} {v : Value} {L : List MV} (h : pOpen b = some ms) (hb : Below w.heap.size w w') (hm : MemS w.heap.size w' v ms L) : OpenPost w b (.returned (.tuple #[v, .int .i64 0])) w' := ⟨hb, by rw [h]; exact ⟨v, L, rfl, hm⟩⟩

theorem inv47 (p q : Value) (w : World) : (invoke (.fn (.func 32) #[p, q]) #[]).run Tryz.prog w = .ok (.enter 32 #[p, q]) w := by
  simp [invoke, go_sem, enters_of Tryz.func32 (by kernel_rfl) rfl]
/-- the two deferred calls, left by a panic -/
theorem leave_bad {w0 W : World} {x : OpB} {b : List UInt8} {D : Nat} {tmps : Array Value} (h : OpQ w0 x W) (hD : W.heap[D]? = some (.deferred (some []))) (hlo : w0.heap.size ≤ D) (hb : pOpen b = none) (t2 : tmps[2]?.getD undef = .pointer (some ⟨x.A, 0, none⟩)) (t3 : tmps[3]?.getD undef = .pointer (some ⟨x.Bq, 0, none⟩)) :
    LeavesInM Fence.wide 9 Tryz.prog Tryz.f15 tmps (OpenPost w0 b) [{ target := .collected D, args := #[] }, { target := .fn (.func 32) #[.pointer (some ⟨x.A, 0, none⟩), .pointer (some ⟨x.Bq, 0, none⟩)], args := #[] }] (.panicking giveUp) W := by
  refine ⟨by simp, .inl ⟨_, _, rfl, run_takeDeferred hD, ?_⟩⟩
  have hq := h.obj hD rfl rfl hlo (.deferred none)
  obtain ⟨v0, hv0⟩ := hq.mem
  obtain ⟨v1, hv1⟩ := hq.err
  refine ⟨by simp, .inr ⟨(fun h => by cases h), Fn.func 32, _, 32, _, rfl, inv47 _ _ _, (fun _ _ => trivial), (caught 8 x.A x.Bq v0 v1 _ hv0 hv1 hq.ne).mono ?_⟩⟩
  rintro e u' w' ⟨rfl, hu, hA, hB, hbel⟩
  have a0 := hA.cell 0
  have b0 := hB.cell 0
  simp only [List.getElem?_cons_zero] at a0 b0
  show LeavesInM _ _ _ _ _ _ [] (settle u') w'
  rw [hu]
  refine ⟨.tuple #[.slice none 0 0, .int .i64 210], ?_, OpenPost.no hb (hq.below.trans (hbel _ hq.loA hq.loB))⟩
  simp [results, Tryz.results15, go_sem, t2, t3, a0, b0]

theorem leave_good {w0 W : World} {x : OpB} {vb : Value} {b : List UInt8} {k : Nat} {ms : List Mb} {D : Nat} {tmps : Array Value} (h : OpS w0 x vb b ms k W) (hD : W.heap[D]? = some (.deferred (some []))) (hlo : w0.heap.size ≤ D) (hb : pOpen b = some ms) (t2 : tmps[2]?.getD undef = .pointer (some ⟨x.A, 0, none⟩)) (t3 : tmps[3]?.getD undef = .pointer (some ⟨x.Bq, 0, none⟩)) :
    LeavesInM Fence.wide 9 Tryz.prog Tryz.f15 tmps (OpenPost w0 b) [{ target := .collected D, args := #[] }, { target := .fn (.func 32) #[.pointer (some ⟨x.A, 0, none⟩), .pointer (some ⟨x.Bq, 0, none⟩)], args := #[] }] .returning W := by
  refine ⟨by simp, .inl ⟨_, _, rfl, run_takeDeferred hD, ?_⟩⟩
  have hq := h.obj hD rfl rfl hlo (.deferred none)
  generalize W.putObj D (.deferred none) = W' at hq ⊢
  obtain ⟨v, L, hA, hM⟩ := hq.mem
  have hB := hq.err
  refine ⟨by simp, .inr ⟨(fun h => by cases h), Fn.func 32, _, 32, _, rfl, inv47 _ _ _, (fun _ _ => trivial), (caught_idle 8 ⟨x.A, 0, none⟩ ⟨x.Bq, 0, none⟩ W').mono ?_⟩⟩
  rintro e u' w' ⟨rfl, rfl, rfl⟩
  have a0 := hA.cell 0
  have b0 := hB.cell 0
  simp only [List.getElem?_cons_zero] at a0 b0
  show LeavesInM _ _ _ _ _ _ [] (settle .returning) w'
  refine ⟨.tuple #[v, .int .i64 0], ?_, OpenPost.yes hb hq.below hM⟩
  simp [results, Tryz.results15, go_sem, t2, t3, a0, b0]

end Go.Proofs.YtlecpjfggoehdaaGreatDoor.Ar
