
/- Archive: the range over the members. Archive: one member taken over. -/
import Derived.Test.YtlecpjfggoehdaaGreatDoorOpE
set_option linter.unusedVariables false
set_option linter.unusedSimpArgs false
set_option maxRecDepth 100000
namespace Go.Proofs.YtlecpjfggoehdaaGreatDoor.Ar
open Go.RowKit Go.Sort Go.Lib Go.Proofs.YtlecpjfggoehdaaGreatDoor.Rs

/-- records and blocks of deferred calls lie as they lay -/
structure KeepsRec (W W' : World) : Prop where
  same : ∀ (k : Nat) (o : Obj), W.heap[k]? = some o → o.isCells = false → o.isWalk = false → W'.heap[k]? = some o
theorem KeepsRec.refl (W : World) : KeepsRec W W := ⟨fun _ _ h _ _ => h⟩
theorem KeepsRec.trans {A B C : World} (h : KeepsRec A B) (k : KeepsRec B C) : KeepsRec A C := ⟨fun i o hi h1 h2 => k.same i o (h.same i o hi h1 h2) h1 h2⟩
theorem KeepsRec.below {A B : World} (h : Below A.heap.size A B) : KeepsRec A B := ⟨fun i o hi _ _ => (h.block i (Array.getElem?_eq_some_iff.1 hi).1).trans hi⟩
theorem KeepsRec.set (W : World) (a : Addr) (v : Value) : KeepsRec W (W.setCell a v) := ⟨fun i o hi h1 _ => (KeepsOthers.setCell W a v).same i o hi h1⟩
theorem KeepsRec.grown {W W' : World} {X : Option Nat} (hg : W.grownBy W' X) (hX : ∀ j o, X = some j → W.heap[j]? = some o → o.isCells = true ∨ o.isWalk = true) : KeepsRec W W' := ⟨fun i o hi h1 h2 => (hg.block i (Array.getElem?_eq_some_iff.1 hi).1 (fun e => by
  rcases hX i o e.symm hi with h | h
  · rw [h] at h1; cases h1
  · rw [h] at h2; cases h2)).trans hi⟩
theorem KeepsRec.own {W W' : World} {base e size n : Nat} {v : Value} {xs : List Value} (h : W.ownsRow base e size v n xs) (hg : W.grownBy W' v.ownBlock) : KeepsRec W W' := KeepsRec.grown hg (fun j o hj ho => by
  rcases h.2 with ⟨rfl, _⟩ | ⟨g, cap, cur, rfl, _, hh, _⟩
  · cases hj
  · cases hj; rw [ho] at hh; cases hh; exact .inl rfl)
theorem KeepsRec.touch {W W' : World} {lo B b1 b2 n : Nat} {vl : Value} {last : Option (List (List UInt8))} {fk fl : List UInt8 → Int} (h : Touch W W' B b1 b2) (hl : LstV W lo B b1 b2 n vl last fk fl) : KeepsRec W W' := ⟨fun i o hi h1 h2 => by
  refine (h.block i (Array.getElem?_eq_some_iff.1 hi).1 ?_ ?_ ?_).trans hi
  · intro e; subst e
    have h' : W.heap[i]? = some (.cells _ 94 (0, 0)) := hl.row
    rw [hi] at h'; cases h'; cases h1
  · intro e; subst e
    obtain ⟨D, ⟨es, clock, hb, _⟩, _⟩ := hl.kinds
    rw [hi] at hb; cases hb; cases h2
  · intro e; subst e
    obtain ⟨D, ⟨es, clock, hb, _⟩, _⟩ := hl.links
    rw [hi] at hb; cases hb; cases h2⟩

/-! ### code of one function -/
def WpAt (f0 : FuncId) (P : Program) (c : Code) (Q : Exit → Act → World → Prop) (a : Act) (w : World) : Prop :=
  ∀ (b : Frame) (k : List Item) (cs : List Frame), b.roundOf = none → b.fn = f0 →
    ∃ e a' w', Q e a' w' ∧ ArrivesIn (Machine.fenced P Fence.wide) P (lone (b.atR a (.code c :: k)) cs w) b k cs e a' w'
section
variable {f0 : FuncId} {P : Program} {n : Nat} {Q : Exit → Act → World → Prop} {a : Act} {w : World}
theorem wpAt_of {c : Code} (h : c.wpIn Fence.wide n P Q a w) : WpAt f0 P c Q a w := fun b k cs hro hb => h b k cs hro trivial (room_wide _)
theorem wpAt_seq {x y : Code} (h : WpAt f0 P x (Exit.then (WpAt f0 P y Q) Q) a w) : WpAt f0 P (Code.seq x y) Q a w := by
  intro b k cs hro hb
  have h0 : (lone (b.atR a (.code (.seq x y) :: k)) cs w).fenced P Fence.wide := fenced_calm trivial (room_wide (cs.length + 1 + 0)) rfl
  obtain ⟨e, a₁, w₁, hq, harr⟩ := h b (.code y :: k) cs hro hb
  cases e with
  | normal =>
    obtain ⟨e₂, a₂, w₂, hq₂, harr₂⟩ := hq b k cs hro hb
    exact ⟨e₂, a₂, w₂, hq₂, .of_steps (.head h0 stepR_seq harr) harr₂⟩
  | exit id => exact ⟨_, a₁, w₁, hq, .of_steps (.one h0 stepR_seq) (.pass (x := .code y) rfl (fun _ _ => .inl (by simp)) harr)⟩
  | goto l => exact ⟨_, a₁, w₁, hq, .of_steps (.one h0 stepR_seq) (.pass (x := .code y) rfl (fun _ _ => .inl (by simp)) harr)⟩
  | ret => exact ⟨_, a₁, w₁, hq, .of_steps (.one h0 stepR_seq) (.pass (x := .code y) rfl (fun _ _ => .inl (by simp)) harr)⟩
  | panic ch => exact ⟨_, a₁, w₁, hq, .of_steps (.one h0 stepR_seq) (.pass (x := .code y) rfl (fun _ _ => .inl (by simp)) harr)⟩
  | outgrown => exact ⟨_, a₁, w₁, hq, .of_steps (.one h0 stepR_seq) (.pass (x := .code y) rfl (fun _ _ => .inl (by simp)) harr)⟩
theorem wpAt_block {id : Nat} {c : Code} (h : WpAt f0 P c (Exit.inBlock id Q) a w) : WpAt f0 P (Code.block id c) Q a w := by
  intro b k cs hro hb
  have h0 : (lone (b.atR a (.code (.block id c) :: k)) cs w).fenced P Fence.wide := fenced_calm trivial (room_wide (cs.length + 1 + 0)) rfl
  obtain ⟨e, a₁, w₁, hq, harr⟩ := h b (.inBlock id :: k) cs hro hb
  cases e with
  | normal => exact ⟨.normal, a₁, w₁, hq, .head h0 stepR_block (StepsIn.trans harr (.one (fenced_calm trivial (room_wide (cs.length + 1 + 0)) rfl) stepR_inBlock))⟩
  | exit id' =>
    by_cases hid : id' = id
    · simp only [Exit.inBlock, hid, if_true] at hq
      exact ⟨.normal, a₁, w₁, hq, .head h0 stepR_block (harr.1 k (by simp [exitTo, hid]))⟩
    · simp only [Exit.inBlock, hid, if_false] at hq
      have this : (id == id') = false := by simp; exact fun h => hid h.symm
      have hx : exitTo id' (.inBlock id :: k) = exitTo id' k := by simp [exitTo, this]
      exact ⟨.exit id', a₁, w₁, hq, fun k' hk => .head h0 stepR_block (harr.1 k' (by rw [hx]; exact hk)),
        fun hr' hk => let ⟨k₁, h1, h2⟩ := harr.2 hr' (by rw [hx]; exact hk); ⟨k₁, h1, .head h0 stepR_block h2⟩⟩
  | goto l =>
    have hx : gotoIn l (.inBlock id :: k) = gotoIn l k := by simp [gotoIn]
    exact ⟨_, a₁, w₁, hq, fun k' hk => .head h0 stepR_block (harr.1 k' (by rw [hx]; exact hk)),
      fun hr' hk => let ⟨k₁, h1, h2⟩ := harr.2 hr' (by rw [hx]; exact hk); ⟨k₁, h1, .head h0 stepR_block h2⟩⟩
  | ret => exact ⟨_, a₁, w₁, hq, .of_steps (.one h0 stepR_block) harr⟩
  | panic ch => exact ⟨_, a₁, w₁, hq, .of_steps (.one h0 stepR_block) harr⟩
  | outgrown => exact ⟨_, a₁, w₁, hq, .of_steps (.one h0 stepR_block) harr⟩
theorem wpAt_rangeFunc {g : Operand} {ps : Array Tmp} {assign body : Code}
    (h : ∃ (l : Nat) (mark : List Deferred) (w₁ : World) (d : Deferred) (w₁' : World) (f : FuncId) (args : Array Value) (w₂ : World),
      (Instr.enterLoop f0 a.tmps ps assign body none).run P w = .ok (l, mark) w₁ ∧
      (resolve a.eval (rangeCall g l) 0).run P w₁ = .ok d w₁' ∧
      (invoke d.target d.args).run P w₁' = .ok (.enter f args) w₂ ∧
      CallsIn Fence.wide (n - 1) P f args w₂ (rangePost Fence.wide n P l Q { a with defers := mark ++ a.defers })) :
    WpAt f0 P (Code.rangeFunc g ps assign body) Q a w := by
  intro b k cs hro hb
  obtain ⟨l, mark, w₁, d, w₁', f, args, w₂, he, hres, hinv, hF, hcall⟩ := h
  rw [← hro, ← hb] at he
  have h0 : (lone (b.atR a (.code (.rangeFunc g ps assign body) :: k)) cs w).fenced P Fence.wide := fenced_wide _ _
  have henter := stepR_rangeFunc (P := P) (b := b) (a := a) (k := k) (cs := cs) (w := w) he hres hinv
  obtain ⟨e, w₃, fr, hR, hsteps, hfn, hleave⟩ := hcall (b.atR { a with defers := mark ++ a.defers } (.inRangeFunc l :: k) :: cs) (room_wide _)
  cases e with
  | outgrown =>
    obtain ⟨a₀, w₀, hq⟩ := hR
    exact ⟨.outgrown, a₀, w₀, hq, .inr (Outgrown.of_steps (.one henter) hsteps)⟩
  | returned v =>
    have hl : (lone fr (b.atR { a with defers := mark ++ a.defers } (.inRangeFunc l :: k) :: cs) w₃).fenced P Fence.wide := fenced_wide _ _
    obtain ⟨jump, w₄, hend, hj⟩ := hR
    have sback : StepsIn (Machine.fenced P Fence.wide) P (lone (b.atR a (.code (.rangeFunc g ps assign body) :: k)) cs w) (lone (b.atR { a with defers := mark ++ a.defers } ((jump.map Item.code).toList ++ k)) cs w₄) := by
      refine .head h0 henter (StepsIn.trans hsteps (.head hl ?_ (.one (fenced_wide _ _) (stepR_endRangeFunc hend))))
      rw [← finish_atR_inRangeFunc l v]; exact step_leave_returned hleave
    cases jump with
    | none => exact ⟨.normal, _, w₄, hj, sback⟩
    | some c =>
      obtain ⟨e', a'', w₅, hq, harr⟩ := hj b k cs hro trivial (room_wide _)
      exact ⟨e', a'', w₅, hq, .of_steps sback harr⟩
  | panicked chain =>
    have hl : (lone fr (b.atR { a with defers := mark ++ a.defers } (.inRangeFunc l :: k) :: cs) w₃).fenced P Fence.wide := fenced_wide _ _
    refine ⟨.panic chain, _, w₃, hR, .inRangeFunc l :: k, .head h0 henter (StepsIn.trans hsteps (.one hl ?_))⟩
    rw [← Frame.raise_atR]; exact step_leave_panicked hleave
theorem callsIn_of_wpAt_marks {f : FuncId} {fn : Func} {c : Code} {args : Array Value} {R : Ending → World → Prop}
    (hf : P.funcs[f]? = some fn) (hb : fn.body = some c)
    (h : WpAt f P c (bodyPostM Fence.wide n P fn R) { tmps := args ++ Array.replicate (fn.ntmps - args.size) undef, defers := [] } w) : CallsIn Fence.wide n P f args w R := by
  refine ⟨trivial, fun cs hr => ?_⟩
  let b : Frame := { (default : Frame) with fn := f, kind := .normal, roundOf := none }
  have henter : Frame.enter P f args .normal =
      b.atR { tmps := args ++ Array.replicate (fn.ntmps - args.size) undef, defers := [] } [.code c] := by
    simp [Frame.enter, Frame.atR, hf, hb, b]
  obtain ⟨e, a', w', hq, harr⟩ := h b [] cs rfl rfl
  rw [← henter] at harr
  cases e with
  | normal =>
    obtain ⟨e', w'', fr', hR, hs, hfn, hl⟩ := leaves_stepsInM a'.defers .returning w' { b.atR a' [] with mode := .returning } cs rfl rfl rfl hf rfl trivial hr hq
    exact ⟨e', w'', fr', hR, ComesIn.of_steps (StepsIn.trans harr (.one (fenced_wide _ _) (stepR_end rfl))) hs, hfn, hl⟩
  | ret =>
    obtain ⟨todo, hs₀⟩ := harr.1 rfl
    obtain ⟨e', w'', fr', hR, hs, hfn, hl⟩ := leaves_stepsInM a'.defers .returning w' { b.atR a' todo with mode := .returning } cs rfl rfl rfl hf rfl trivial hr hq
    exact ⟨e', w'', fr', hR, ComesIn.of_steps hs₀ hs, hfn, hl⟩
  | panic chain =>
    obtain ⟨todo, hs₀⟩ := harr
    obtain ⟨e', w'', fr', hR, hs, hfn, hl⟩ := leaves_stepsInM a'.defers (.panicking chain) w' { b.atR a' todo with mode := .panicking chain } cs rfl rfl rfl hf rfl trivial hr hq
    exact ⟨e', w'', fr', hR, ComesIn.of_steps hs₀ hs, hfn, hl⟩
  | exit id => exact hq.elim
  | goto l => exact hq.elim
  | outgrown => exact ⟨.outgrown, w', b, hq, harr.resolve_left (by simp [b]), rfl, trivial⟩
end

theorem rec_stay {W W' : World} {R k j : Nat} {vb : Value} {b : List UInt8} {o : Obj} (h : Rd W R vb b k) (ho : W.heap[j]? = some o) (hc : o.isCells = false) (hg : W.grownBy W' (some R)) : W'.heap[j]? = some o :=
  (hg.block j (Array.getElem?_eq_some_iff.1 ho).1 (fun e => by
    cases e
    have h' : W.heap[R]? = some (.cells _ 76 (0, 0)) := h.row
    rw [ho] at h'; cases h'; cases hc)).trans ho
theorem num_i64 (b : List UInt8) (k : Nat) : I64 (numAt b k) := by
  have h1 := num4_lo (byteD b k) (byteD b (k + 1)) (byteD b (k + 2)) (byteD b (k + 3))
  have h2 := num4_hi (byteD b k) (byteD b (k + 1)) (byteD b (k + 2)) (byteD b (k + 3))
  exact ⟨by unfold numAt; omega, by unfold numAt; omega⟩
theorem rawPcs_i64 {b : List UInt8} : ∀ {n k : Nat} {r : List Pc × Nat}, rawPcs b n k = some r → ∀ p ∈ r.1, I64 p.off
  | 0, k, r, h => by cases h; simp
  | n + 1, k, r, h => by
    rw [rawPcs] at h
    split at h
    · obtain ⟨q, hq, rfl⟩ := Option.map_eq_some_iff.1 h
      intro p hp
      rcases List.mem_cons.1 hp with rfl | hp
      · exact num_i64 _ _
      · exact rawPcs_i64 hq p hp
    · cases h
theorem pMem_raw {b : List UInt8} {k k' : Nat} {m : Mb} (h : pMem b k = some (m, k')) : ∃ K, rawMem b k = some (m, K) ∧ k' = K + 4 ∧ sumOk b k (m, K) = true := by
  rw [pMem] at h
  obtain ⟨x, hx, h2⟩ := Option.bind_eq_some_iff.1 h
  split at h2
  · rename_i hs
    cases h2
    exact ⟨x.2, hx, rfl, hs⟩
  · cases h2
theorem pMem_i64 {b : List UInt8} {k k' : Nat} {m : Mb} (h : pMem b k = some (m, k')) : I64 m.kind ∧ I64 m.size ∧ ∀ p ∈ m.pieces, I64 p.off := by
  obtain ⟨K, hr, _, _⟩ := pMem_raw h
  rw [rawMem] at hr
  split at hr
  · obtain ⟨r, hp, h3⟩ := Option.bind_eq_some_iff.1 hr
    split at h3
    · cases h3
      exact ⟨num_i64 _ _, num_i64 _ _, rawPcs_i64 hp⟩
    · cases h3
  · cases hr

/-- how a round's body may be left -/
def bodyQ (w0 : World) (x : OpB) (vb : Value) (b : List UInt8) (pre : List Mb) (m : Mb) (k : Nat) (W : World) : Exit → Act → World → Prop
  | .normal, _, W' => KeepsRec W W' ∧ OpS w0 x vb b (pre ++ [m]) k W'
  | .panic chain, a, W' => chain = giveUp ∧ a.defers = [] ∧ KeepsRec W W' ∧ BdB pre m ∧ OpQ w0 x W'
  | _, _, _ => False

set_option maxHeartbeats 1000000 in
theorem wpIn_range_open {g : Operand} {ps : Array Tmp} {assign body : Code} {Q : Exit → Act → World → Prop} {a : Act} {w0 W0 : World} {x : OpB} {vb : Value} {b : List UInt8}
    (hg : a.eval g = .func (.func 52) #[] #[.pointer (some ⟨x.Bx, 0, none⟩)]) (hps : ps.size = 1) (h0 : OpS w0 x vb b [] 0 W0) (hp : Stp w0)
    (hsm : ∀ i pre k m k', i < numN b 8 → parse b i = some (pre, k) → pMem b k = some (m, k') → MbSm m)
    (a₁ : Value → Nat → Act)
    (hassign : ∀ (l : Nat) (m : Mb) (vp : Value) (W : World) (K : Act → World → Prop), IsSl vp → K (a₁ (.agg (mbCells m vp).toArray) W.heap.size) (W.alloc (.cells (mbCells m vp).toArray 58)) →
      assign.wpIn (Fence.wide.inRound l) 7 Tryz.prog (Exit.then K (fun _ _ _ => False)) { tmps := (ps.zip #[.agg (mbCells m vp).toArray]).foldl (fun t (p, v) => t.setIfInBounds p v) a.tmps, defers := [] } W)
    (hbody : ∀ (l : Nat) (pre : List Mb) (k : Nat) (m : Mb) (vp : Value) (M : Nat) (W : World), OpS w0 x vb b pre k W → OwnP w0.heap.size W vp m.pieces → (∀ p ∈ m.pieces, I64 p.off) → I64 m.kind → I64 m.size → MbSm m → Row W M 58 (mbCells m vp) → w0.heap.size ≤ M → MemF w0 x pre vp W →
      body.wpIn (Fence.wide.inRound l) 7 Tryz.prog (bodyQ w0 x vb b pre m k W) (a₁ (.agg (mbCells m vp).toArray) M) W)
    (hdone : ∀ (D : Nat) (ms : List Mb) (k : Nat) (W : World), OpS w0 x vb b ms k W → headOk b = true → parse b (numN b 8) = some (ms, k) → W.heap[D]? = some (.deferred (some [])) → w0.heap.size ≤ D → Q .normal { a with defers := { target := .collected D, args := #[] } :: a.defers } W)
    (hbad : ∀ (D : Nat) (W : World), OpQ w0 x W → pOpen b = none → W.heap[D]? = some (.deferred (some [])) → w0.heap.size ≤ D → Q (.panic giveUp) { a with defers := { target := .collected D, args := #[] } :: a.defers } W) :
    WpAt 15 Tryz.prog (Code.rangeFunc g ps assign body) Q a W0 := by
  refine wpAt_rangeFunc (n := 9) ?_
  obtain ⟨rec, hrec⟩ : ∃ rec : LoopState → Option Code → Loop, rec = fun st pe => { state := st, pending := pe, fn := 15, tmps := a.tmps, params := ps, assign, body, defers := W0.heap.size } := ⟨_, rfl⟩
  obtain ⟨W1, hW1⟩ : ∃ W1, (W0.alloc (.deferred (some []))).alloc (.loop (rec .ready none)) = W1 := ⟨_, rfl⟩
  have hL1 : W1.heap[W0.heap.size + 1]? = some (.loop (rec .ready none)) := by
    rw [← hW1]; have := World.alloc_heap_new (W0.alloc (.deferred (some []))) (.loop (rec .ready none)); rwa [World.size_alloc] at this
  have hK1 : W1.heap[W0.heap.size]? = some (.deferred (some [])) := by
    rw [← hW1]; exact (Below.heap_alloc _ _ _ (by simp)).trans (World.alloc_heap_new W0 _)
  have hI1 : OpS w0 x vb b [] 0 W1 := by rw [← hW1]; exact (h0.fresh (below_alloc1 _ _)).fresh (below_alloc1 _ _)
  have hlo : w0.heap.size ≤ W0.heap.size := h0.below.size
  refine ⟨W0.heap.size + 1, [{ target := .collected W0.heap.size, args := #[] }], W1, { target := .fn (.func 52) #[.pointer (some ⟨x.Bx, 0, none⟩)], args := #[.func (.yield (W0.heap.size + 1)) #[] #[]] }, W1, 52,
    #[.func (.yield (W0.heap.size + 1)) #[] #[]] ++ #[.pointer (some ⟨x.Bx, 0, none⟩)], W1, ?_, ?_, ?_, ?_⟩
  · rw [← hW1, hrec]; exact run_enterLoop_outer _ _ _ _ _
  · simp only [resolve, hg]
    simp [go_sem]
  · simp [invoke, go_sem, enters_of Tryz.func52 (by kernel_rfl) rfl]
  · refine (call_all 8 (W0.heap.size + 1) x.R x.Bx vb b
      (fun pre k W => OpS w0 x vb b pre k W ∧ W.heap[W0.heap.size + 1]? = some (.loop (rec .ready none)) ∧ W.heap[W0.heap.size]? = some (.deferred (some [])))
      (fun W => OpQ w0 x W ∧ W.heap[W0.heap.size]? = some (.deferred (some [])))
      BdB ?_ ?_ ?_ ?_ W1 ⟨hI1, hL1, hK1⟩).mono ?_
    · rintro pre k W ⟨h, _⟩
      exact ⟨h.rd, by have := h.bx.cell 0; exact this, hp.below h.below⟩
    · rintro pre k k' W W' ⟨h, hl, hd⟩ hg2 hr
      exact ⟨h.away (away_rd h.rd) hg2 h.loR hr, rec_stay h.rd hl rfl hg2, rec_stay h.rd hd rfl hg2⟩
    · rintro pre k W W' ⟨h, hl, hd⟩ hg2
      exact ⟨h.q.away (away_rd h.rd) hg2 h.loR, rec_stay h.rd hd rfl hg2⟩
    · rintro i pre k m k' Wa Wb vp hin hpa ⟨h, hl, hd⟩ hm hg2 ho ⟨h', hl', hd'⟩
      have hy := run_yield (P := Tryz.prog) (args := #[.agg (mbCells m vp).toArray]) hl' (by rw [hrec]; simp [hps])
      rw [hrec] at hy
      have ho' : OwnP w0.heap.size Wb vp m.pieces := by
        refine ⟨ho.1, ?_⟩
        rcases ho.2 with h3 | ⟨g3, c3, u3, e3, b3, r3⟩
        · exact .inl h3
        · exact .inr ⟨g3, c3, u3, e3, Nat.le_trans h.below.size b3, r3⟩
      refine ⟨15, _, assign, body, hy, roundIn_may trivial ⟨_, Tryz.func15⟩ (hassign _ m vp Wb _ (own_isSl ho) ?_)⟩
      have hx0 : OpS w0 x vb b pre k' (Wb.alloc (.cells (mbCells m vp).toArray 58)) := h'.fresh (below_alloc1 _ _)
      have hl0 : (Wb.alloc (.cells (mbCells m vp).toArray 58)).heap[W0.heap.size + 1]? = some (.loop (rec .ready none)) := (KeepsRec.below (below_alloc1 Wb _)).same _ _ hl' rfl rfl
      have hd0 : (Wb.alloc (.cells (mbCells m vp).toArray 58)).heap[W0.heap.size]? = some (.deferred (some [])) := (KeepsRec.below (below_alloc1 Wb _)).same _ _ hd' rfl rfl
      have hM0 : Row (Wb.alloc (.cells (mbCells m vp).toArray 58)) Wb.heap.size 58 (mbCells m vp) := Row.new Wb 58 _
      have hP0 : OwnP w0.heap.size (Wb.alloc (.cells (mbCells m vp).toArray 58)) vp m.pieces := own_below ho' (below_alloc1 _ _)
      have hMl : w0.heap.size ≤ Wb.heap.size := h'.below.size
      have hF0 : MemF w0 x pre vp (Wb.alloc (.cells (mbCells m vp).toArray 58)) := (h.memF hg2 ho).fresh (below_alloc1 _ _)
      generalize (Wb.alloc (.cells (mbCells m vp).toArray 58)) = Wc at hx0 hl0 hd0 hM0 hP0 hF0 ⊢
      refine ⟨_, run_beginRound hl0 (by rw [hrec]), ?_⟩
      have hlt := (Array.getElem?_eq_some_iff.1 hl0).1
      have hl2 : (Wc.putObj (W0.heap.size + 1) (.loop { rec .ready none with state := .busy })).heap[W0.heap.size + 1]? = some (.loop { rec .ready none with state := .busy }) := World.putObj_heap_same hlt
      have hd2 : (Wc.putObj (W0.heap.size + 1) (.loop { rec .ready none with state := .busy })).heap[W0.heap.size]? = some (.deferred (some [])) := (World.putObj_heap_other (by omega)).trans hd0
      have hx2 := hx0.obj hl0 rfl rfl (by omega) (.loop { rec .ready none with state := .busy })
      have ha2 := away_obj hl0 rfl rfl
      have hg3 := grownBy_putObj' Wc (W0.heap.size + 1) (.loop { rec .ready none with state := .busy })
      have hM2 := Row.away ha2 hg3 hM0 (by decide)
      have hP2 := own_away ha2 hg3 hP0 (by decide)
      obtain ⟨g1, g2, g3⟩ := pMem_i64 hm
      refine wpIn_mono (hbody _ pre k' m vp _ _ hx2 hP2 g3 g1 g2 (hsm i pre k m k' hin hpa hm) hM2 hMl (hF0.away ha2 hg3)) ?_
      rintro e a3 W3 hq3
      cases e with
      | normal =>
        obtain ⟨hk3, hi3⟩ := hq3
        have hl3 := hk3.same _ _ hl2 rfl rfl
        have hd3 := hk3.same _ _ hd2 rfl rfl
        have he := run_endRound (P := Tryz.prog) none hl3
        rw [hrec] at he
        refine ⟨_, _, he, .inl ⟨rfl, hi3.obj hl3 rfl rfl (by omega) _, ?_, (World.putObj_heap_other (by omega)).trans hd3⟩⟩
        rw [hrec]
        exact World.putObj_heap_same (Array.getElem?_eq_some_iff.1 hl3).1
      | panic ch =>
        obtain ⟨rfl, hdf, hk3, hb3, hq4⟩ := hq3
        exact ⟨hdf, .inr ⟨rfl, hb3, hq4, hk3.same _ _ hd2 rfl rfl⟩⟩
      | exit id => exact hq3.elim
      | goto t => exact hq3.elim
      | ret => exact hq3.elim
      | outgrown => exact hq3.elim
    · rintro e W2 (⟨rfl, hb, hq, hd⟩ | ⟨v, ms, k, rfl, hok, hpa, hs, hl, hd⟩)
      · exact hbad _ _ hq (open_bad hb) hd hlo
      · exact ⟨none, _, by have := run_endLoop (P := Tryz.prog) hl (by rw [hrec]; simp); rw [hrec] at this; exact this, hdone _ ms k _ (hs.obj hl rfl rfl (by omega) _) hok hpa ((World.putObj_heap_other (by omega)).trans hd) hlo⟩
end Go.Proofs.YtlecpjfggoehdaaGreatDoor.Ar

set_option linter.unusedVariables false
set_option linter.unusedSimpArgs false
set_option maxRecDepth 100000
namespace Go.Proofs.YtlecpjfggoehdaaGreatDoor.Ar
open Go.RowKit Go.Sort Go.Lib Go.Proofs.YtlecpjfggoehdaaGreatDoor.Rs

theorem LstV.lo {w : World} {lo lo' B b1 b2 n : Nat} {vl : Value} {last : Option (List (List UInt8))} {fk fl : List UInt8 → Int} (h : LstV w lo B b1 b2 n vl last fk fl) (hl : lo' ≤ lo) : LstV w lo' B b1 b2 n vl last fk fl :=
  ⟨h.row, h.last, h.kinds, h.links, Nat.le_trans hl h.lo1, Nat.le_trans hl h.lo2, Nat.le_trans hl h.loB, h.ne⟩
theorem row_of_own {w : World} {base e size n : Nat} {v : Value} {xs : List Value} (h : w.ownsRow base e size v n xs) {g : Nat} (hg : v.ownBlock = some g) : ∃ cur, Row w g e cur := by
  rcases h.2 with ⟨rfl, _⟩ | ⟨g', cap, cur, rfl, _, hh, _⟩
  · cases hg
  · cases hg
    exact ⟨cur.toList, by show _ = _; rw [Array.toArray_toList]; exact hh⟩
/-- blocks that a step turns: the list's, the members' row, the members' variable -/
structure Turns (W W' : World) (x : OpB) (v : Value) : Prop where
  os : W'.os = W.os
  tape : W'.tape = W.tape
  output : W'.output = W.output
  size : W.heap.size ≤ W'.heap.size
  block : ∀ k, k < W.heap.size → k ≠ x.LB → k ≠ x.b1 → k ≠ x.b2 → v.ownBlock ≠ some k → k ≠ x.A → W'.heap[k]? = W.heap[k]?
section
variable {w0 W W' : World} {x : OpB} {vb : Value} {b : List UInt8} {pre : List Mb} {k : Nat} {v : Value} {L : List MV} {n : Nat} {vl : Value} {last : Option (List (List UInt8))} {fk fl : List UInt8 → Int}
theorem Turns.row (h : Turns W W' x v) (hl : LstV W w0.heap.size x.LB x.b1 x.b2 n vl last fk fl) (hA : Row W x.A 33 [v]) (hM : OwnM w0.heap.size W v L) {B T : Nat} {cur : List Value} (hr : Row W B T cur) (h1 : T ≠ 94) (h2 : T ≠ 58) (h3 : T ≠ 33) : Row W' B T cur :=
  (h.block B hr.lt (row_apart hr hl.row h1) (Row.ne_map hr hl.kinds) (Row.ne_map hr hl.links) (fun e => by obtain ⟨c, hc⟩ := row_of_own hM e; exact row_apart hr hc h2 rfl) (row_apart hr hA h3)).trans hr
theorem Turns.own (h : Turns W W' x v) (hl : LstV W w0.heap.size x.LB x.b1 x.b2 n vl last fk fl) (hA : Row W x.A 33 [v]) (hM : OwnM w0.heap.size W v L) {base e size m : Nat} {u : Value} {xs : List Value} (hr : W.ownsRow base e size u m xs) (h1 : e ≠ 94) (h2 : e ≠ 58) (h3 : e ≠ 33) : W'.ownsRow base e size u m xs :=
  own_keep hr (fun g hg => by
    obtain ⟨c, hc⟩ := row_of_own hr hg
    have := h.row hl hA hM hc h1 h2 h3
    exact (show W'.heap[g]? = _ from this).trans (show W.heap[g]? = _ from hc).symm)
theorem Turns.below (h : Turns W W' x v) (hl : LstV W w0.heap.size x.LB x.b1 x.b2 n vl last fk fl) (hA : w0.heap.size ≤ x.A) (hM : OwnM w0.heap.size W v L) (hb : Below w0.heap.size w0 W) : Below w0.heap.size w0 W' :=
  hb.trans ⟨h.os, h.tape, h.output, h.size, fun j hj => h.block j (Nat.lt_of_lt_of_le hj hb.size) (by have := hl.loB; omega) (by have := hl.lo1; omega) (by have := hl.lo2; omega) (fun e => by have := (hM.lt j e).1; omega) (by omega)⟩
theorem OpS.turn (h : OpS w0 x vb b pre k W) (ht : Turns W W' x v) (hvb : Sl RByte 1 w0 vb b) (hA : Row W x.A 33 [v]) (hMM : MemS w0.heap.size W v pre L) {v' : Value} {m : Mb} {vp : Value} (hA' : Row W' x.A 33 [v']) (hM' : OwnM w0.heap.size W' v' (L ++ [(m, vp)]))
    (hP : OwnP w0.heap.size W vp m.pieces) (hsm : MbSm m) (hdis : ∀ y ∈ L, ∀ u, y.2.ownBlock = some u → vp.ownBlock ≠ some u) (had : addAt pre pre.length m = true) (hlen : pre.length < 8192) {n' : Nat} {vl' : Value} (hn' : n' ≤ 2 * pre.length + 2)
    (hl' : LstV W' w0.heap.size x.LB x.b1 x.b2 n' vl' (namesB m.path) (updI (fkAt pre pre.length) m.path m.kind) (linksP (flAt pre pre.length) m)) : OpS w0 x vb b (pre ++ [m]) k W' := by
  obtain ⟨n, vl, hn, hl⟩ := h.lst
  have hM := hMM.own
  have hbel := ht.below hl h.loA hM h.below
  have hk : (pre ++ [m])[pre.length]? = some m := by simp
  obtain ⟨s1, s2, s3⟩ := lstAt_succ hk
  obtain ⟨_, t2, t3⟩ := lsts_app pre [m] pre.length (Nat.le_refl _)
  refine ⟨hbel, ⟨v', L ++ [(m, vp)], hA', hM', by rw [List.map_append, hMM.fst]; rfl, fun y hy => ?_, List.pairwise_append.2 ⟨hMM.dis, List.pairwise_singleton _ _, fun y hy z hz => by rw [List.mem_singleton.1 hz]; exact hdis y hy⟩⟩, ht.row hl hA hM h.err (by decide) (by decide) (by decide),
    ⟨ht.row hl hA hM h.rd.row (by decide) (by decide) (by decide), hvb.keep RByte.stays (keeps_below hbel), h.rd.len, h.rd.cap, h.rd.le⟩, ht.row hl hA hM h.bx (by decide) (by decide) (by decide), ht.row hl hA hM h.vx (by decide) (by decide) (by decide), ht.row hl hA hM h.lx (by decide) (by decide) (by decide),
    ⟨n', vl', by rw [List.length_append]; simp only [List.length_cons, List.length_nil]; omega, ?_⟩, fun j m' hj => ?_, by rw [List.length_append]; simp only [List.length_cons, List.length_nil]; omega, fun y hy => ?_, h.loA, h.loB, h.loR⟩
  · rcases List.mem_append.1 hy with hy | hy
    · exact ht.own hl hA hM (hMM.pcs y hy) (by decide) (by decide) (by decide)
    · rw [List.mem_singleton.1 hy]
      exact ht.own hl hA hM hP (by decide) (by decide) (by decide)
  · rw [show (pre ++ [m]).length = pre.length + 1 by simp, s1, s2, s3, t2, t3]
    exact hl'
  · rcases Nat.lt_or_ge j pre.length with hj' | hj'
    · rw [List.getElem?_append_left hj'] at hj
      rw [addAt_app (by omega)]
      exact h.adds j m' hj
    · have hjl := (List.getElem?_eq_some_iff.1 hj).1
      simp only [List.length_append, List.length_cons, List.length_nil] at hjl
      obtain rfl : j = pre.length := by omega
      rw [hk] at hj; cases hj
      rw [addAt_app (Nat.le_refl _)]
      exact had
  · rcases List.mem_append.1 hy with hy | hy
    · exact h.sm y hy
    · rw [List.mem_singleton.1 hy]; exact hsm
end
theorem setCell_id {W : World} {A T j : Nat} {cur : List Value} {v : Value} (h : Row W A T cur) (hj : cur[j]? = some v) : W.setCell ⟨A, j, none⟩ v = W := by
  have hh : (W.setCell ⟨A, j, none⟩ v).heap = W.heap := by
    apply Array.ext_getElem?
    intro k
    by_cases e : k = A
    · subst e
      have h2 : Row (W.setCell ⟨k, j, none⟩ v) k T (cur.set j v) := h.set j v
      have h3 : cur.set j v = cur := by
        apply List.ext_getElem?
        intro i
        rw [List.getElem?_set]
        split
        · rename_i e; subst e
          split
          · exact hj.symm
          · rename_i hn; rw [List.getElem?_eq_none (by omega)] at hj; cases hj
        · rfl
      rw [h3] at h2
      exact (show _ = _ from h2).trans (show W.heap[k]? = _ from h).symm
    · exact Below.heap_setCell W ⟨A, j, none⟩ v k e
  show { W with heap := (W.setCell ⟨A, j, none⟩ v).heap } = W
  rw [hh]
theorem own_touch {w w' : World} {lo B b1 b2 n : Nat} {vl : Value} {last : Option (List (List UInt8))} {fk fl : List UInt8 → Int} (h : Touch w w' B b1 b2) (hl : LstV w lo B b1 b2 n vl last fk fl) {base e size m : Nat} {v : Value} {xs : List Value} (ho : w.ownsRow base e size v m xs) (he : e ≠ 94) : w'.ownsRow base e size v m xs :=
  own_keep ho (fun g hg => by
    obtain ⟨c, hc⟩ := row_of_own ho hg
    exact (show w'.heap[g]? = _ from h.row hl hc he).trans (show w.heap[g]? = _ from hc).symm)
theorem OpS.turn4 {w0 W W1 W2 W3 : World} {x : OpB} {vb : Value} {b : List UInt8} {pre : List Mb} {k : Nat} {v : Value} {L : List MV} {n : Nat} {vl : Value} {v' : Value} {m : Mb} {vp : Value} {n7 : Nat} {vl7 : Value} (h : OpS w0 x vb b pre k W) (hvb : Sl RByte 1 w0 vb b) (hA : Row W x.A 33 [v]) (hMM : MemS w0.heap.size W v pre L)
    (hl : LstV W w0.heap.size x.LB x.b1 x.b2 n vl (lastAt pre pre.length) (fkAt pre pre.length) (flAt pre pre.length)) (hn : n ≤ 2 * pre.length) (hP : OwnP w0.heap.size W vp m.pieces) (hsm : MbSm m) (hdis : ∀ y ∈ L, ∀ u, y.2.ownBlock = some u → vp.ownBlock ≠ some u) (had : addOk (lastAt pre pre.length) (fkAt pre pre.length) (flAt pre pre.length) m = true) (hlen : pre.length < 8192)
    (ht : Touch W W1 x.LB x.b1 x.b2) (hl7 : LstV W1 w0.heap.size x.LB x.b1 x.b2 n7 vl7 (namesB m.path) (updI (fkAt pre pre.length) m.path m.kind) (linksP (flAt pre pre.length) m)) (hn7 : n7 ≤ n + 2) (hf7 : ∀ b, vl7.ownBlock = some b → W.heap.size ≤ b)
    (hb : Below W1.heap.size W1 W2) (h1 : W3.ownsRow w0.heap.size 58 5 v' (L.length + 1) (mvCells L ++ mvCells [(m, vp)])) (hg : W2.grownBy W3 v.ownBlock) :
    KeepsRec W (W3.setCell ⟨x.A, 0, none⟩ v') ∧ OpS w0 x vb b (pre ++ [m]) k (W3.setCell ⟨x.A, 0, none⟩ v') := by
  have o1 := own_touch ht hl hMM.own (by decide)
  have o2 := own_below o1 hb
  have a1 := ht.row hl hA (by decide)
  have a2 := a1.below hb a1.lt
  have a3 := a2.grown hg (own_row_ne o2 a2 (by decide))
  have l2 := hl7.below hb
  have hvA : ∀ u, v.ownBlock = some u → u < W.heap.size := fun u hu => (hMM.own.lt u hu).2
  have l3 : LstV W3 w0.heap.size x.LB x.b1 x.b2 n7 vl7 (namesB m.path) (updI (fkAt pre pre.length) m.path m.kind) (linksP (flAt pre pre.length) m) :=
    l2.rest (v := v) (fun B hB hne => hg.block B hB (Ne.symm hne)) (Ne.symm (own_row_ne o2 l2.row (by decide)))
      (fun e => by obtain ⟨c, hc⟩ := row_of_own o2 e; exact Row.ne_map hc l2.kinds rfl) (fun e => by obtain ⟨c, hc⟩ := row_of_own o2 e; exact Row.ne_map hc l2.links rfl)
      (fun u hu e => by have := hf7 u hu; have := hvA u e; omega)
  have l4 : LstV (W3.setCell ⟨x.A, 0, none⟩ v') w0.heap.size x.LB x.b1 x.b2 n7 vl7 (namesB m.path) (updI (fkAt pre pre.length) m.path m.kind) (linksP (flAt pre pre.length) m) :=
    l3.rest (v := .slice (some ⟨x.A, 0, none⟩) 0 0) (fun B _ hne => Below.heap_setCell W3 ⟨x.A, 0, none⟩ v' B (fun e => hne (by rw [e]; rfl))) (fun e => by injection e with e; exact row_apart a3 l3.row (by decide) e)
      (fun e => by injection e with e; exact Row.ne_map a3 l3.kinds e) (fun e => by injection e with e; exact Row.ne_map a3 l3.links e)
      (fun u hu e => by injection e with e; have h2 : x.A = u := e; have := hf7 u hu; have := hA.lt; omega)
  have hL1 : pre.length = L.length := by rw [← hMM.fst, List.length_map]
  have m3 : OwnM w0.heap.size W3 v' (L ++ [(m, vp)]) := by
    show World.ownsRow _ _ _ _ _ (L ++ [(m, vp)]).length _
    rw [List.length_append, mvCells_app]
    exact h1
  have m4 : OwnM w0.heap.size (W3.setCell ⟨x.A, 0, none⟩ v') v' (L ++ [(m, vp)]) := own_keep m3 (fun u hu => Below.heap_setCell W3 _ _ u (by intro e; subst e; exact own_row_ne m3 a3 (by decide) hu.symm))
  have hs12 : W.heap.size ≤ W2.heap.size := Nat.le_trans ht.size hb.size
  have T : Turns W (W3.setCell ⟨x.A, 0, none⟩ v') x v := ⟨hg.os.trans (hb.os.trans ht.os), hg.tape.trans (hb.tape.trans ht.tape), hg.output.trans (hb.output.trans ht.output), by have := hg.size; simp [World.setCell]; omega, fun j hj n0 n1 n2 nv nA =>
    (Below.heap_setCell W3 ⟨x.A, 0, none⟩ v' j nA).trans ((hg.block j (by omega) (Ne.symm nv)).trans ((hb.block j (Nat.lt_of_lt_of_le hj ht.size)).trans (ht.block j hj n0 n1 n2)))⟩
  refine ⟨(((KeepsRec.touch ht hl).trans (KeepsRec.below hb)).trans (KeepsRec.own o2 hg)).trans (KeepsRec.set _ _ _), OpS.turn h T hvb hA hMM (by have h2 := a3.set 0 v'; exact h2) m4 hP hsm hdis had hlen (by omega) l4⟩
theorem OpS.touchQ {w0 W W' : World} {x : OpB} {vb : Value} {b : List UInt8} {pre : List Mb} {k n : Nat} {vl : Value} {last : Option (List (List UInt8))} {fk fl : List UInt8 → Int} (h : OpS w0 x vb b pre k W) (hl : LstV W w0.heap.size x.LB x.b1 x.b2 n vl last fk fl) (ht : Touch W W' x.LB x.b1 x.b2) : OpQ w0 x W' := by
  obtain ⟨v, L, hv, _⟩ := h.mem
  have hv' := ht.row hl hv (by decide)
  have he' := ht.row hl h.err (by decide)
  exact ⟨h.below.trans (ht.below hl.loB hl.lo1 hl.lo2 h.below.size), ⟨v, hv'⟩, ⟨_, he'⟩, h.loA, h.loB, row_apart hv' he' (by decide)⟩
end Go.Proofs.YtlecpjfggoehdaaGreatDoor.Ar
