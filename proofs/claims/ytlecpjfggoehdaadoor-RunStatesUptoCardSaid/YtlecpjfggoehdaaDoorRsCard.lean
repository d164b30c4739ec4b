/-
  Proved: the statement RunStatesUptoCardSaid: for every State of bulk at most 1048576 that can be read as data, whatever its fields hold, the law furrowlaw20.RunStates returns true (the program's lines of a state are the document's, asked twice), and the State reads afterwards as it did.
  Conditions: the bound on the bulk (the second form of the statement); four listed package variables (three tables of Go's library and run.kinds), tied to the program's text by the given card.
-/
import Derived.Test.YtlecpjfggoehdaaDoorCards
import Derived.Test.YtlecpjfggoehdaaDoorTie
import Derived.Test.YtlecpjfggoehdaaDoorRsO
import Derived.WalkKit
import Derived.ProofKit
import Derived.OpenShut
import Derived.Deep.DeepHandedRow
import Derived.Lib.LaidTab
set_option linter.unusedVariables false
set_option linter.unusedSimpArgs false
namespace Go.Proofs.YtlecpjfggoehdaaDoor.RsCard
open Go.ChangeShapes Go.WideShapes Go.ChangeAt Go.RowKit Go.Proofs.YtlecpjfggoehdaaDoor.Rs
set_option maxRecDepth 100000

theorem own : ownKnob Tryd.prog.godebug = none := by kernel_rfl
theorem laidOut : laidOutB Tryd.prog = true := by kernel_rfl

/-- A listed variable's cells, as it reads. -/
theorem laid_entry {w : World} : ∀ {l : List (String × DataW Unit)} {ps : List MemPlace}, DataW.LaidVars Tryd.prog w l ps → ∀ {n : String} {d : DataW Unit}, (n, d) ∈ l →
    ∃ g t cs fuel p, Tryd.prog.globalNamed n = some g ∧ (Tryd.prog.globals[g]?).map (·.type) = some t ∧ w.var? Tryd.prog n = some cs ∧ DataW.trod (fun _ => ()) Tryd.prog w 0 (fun _ => true) false fuel t cs.toList = some (d, p)
  | [], _, _, _, _, hm => by cases hm
  | (n0, d0) :: r, ps, h, n, d, hm => by
    obtain ⟨g, t, cs, fuel, p, q, h1, h2, h3, h4, h5, _⟩ := h
    rcases List.mem_cons.1 hm with e | e
    · cases e; exact ⟨g, t, cs, fuel, p, h1, h2, h3, h4⟩
    · exact laid_entry h5 e

theorem g0 : Tryd.prog.globalNamed "furrow/run.kinds" = some 0 := by kernel_rfl
theorem g0t : (Tryd.prog.globals[0]?).map (·.type) = some 144 := by kernel_rfl
theorem g3 : Tryd.prog.globalNamed "internal/strconv.uint64pow10" = some 3 := by kernel_rfl
theorem g3t : (Tryd.prog.globals[3]?).map (·.type) = some 187 := by kernel_rfl
theorem c124 : Tryd.prog.cellsOf 124 = 1 := by kernel_rfl
theorem c187 : Tryd.prog.cellsOf 187 = 20 := by kernel_rfl
theorem c144 : Tryd.prog.cellsOf 144 = 3 := by kernel_rfl

theorem pow_of {w : World} (h : laidMet Tryd.prog Rows.runStatesRow.laid w) : Rs.Pow w := by
  obtain ⟨ps, hl, _⟩ := h
  obtain ⟨g, t, cs, fuel, p, h1, h2, h3, h4⟩ := laid_entry hl (n := "internal/strconv.uint64pow10") (d := Rows.laid_internal_strconv_uint64pow10) (by simp [Rows.runStatesRow])
  obtain rfl := Option.some.inj (g3.symm.trans h1)
  obtain rfl := Option.some.inj (g3t.symm.trans h2)
  have e := Lib.cells_of_tab (zs := Lib.pow10Tab) Tryd.underlying187 Tryd.underlying124 c124 c187 h4
  unfold Rs.Pow Lib.TabIs
  rw [h3, ← e]

theorem str_of {w : World} {sp : Nat → Bool} {held : Bool} {fuel : Nat} {c : Value} {y : DataW Unit × List MemPlace} {b : List UInt8} (h : DataW.trod (fun _ => ()) Tryd.prog w 0 sp held fuel 9 [c] = some y) (hy : y.1 = .lit (.string b)) : c = .string (bs b) := by
  obtain ⟨s, hs, e, _⟩ := DataW.trod_string Tryd.underlying9 h
  cases hs
  subst e
  simp only [DataW.lit.injEq, Lit.string.injEq] at hy
  rw [← hy, show bs s.data.toList = s by simp [bs]]

theorem kinds_of {w : World} (h : laidMet Tryd.prog Rows.runStatesRow.laid w) : KindTab w := by
  obtain ⟨ps, hl, _⟩ := h
  obtain ⟨g, t, cs, fuel, p, h1, h2, h3, h4⟩ := laid_entry hl (n := "furrow/run.kinds") (d := Rows.laid_furrow_run_kinds) (by simp [Rows.runStatesRow])
  obtain rfl := Option.some.inj (g0.symm.trans h1)
  obtain rfl := Option.some.inj (g0t.symm.trans h2)
  obtain ⟨xs, m, _, hx, hlen, hxl, hf⟩ := DataW.trod_array Tryd.underlying144 h4
  rw [c144] at hlen
  have hv := fun j => World.var?_cell g0 h3 j
  obtain ⟨cl⟩ := cs
  match cl, hlen, xs, hxl with
  | [k0, k1, k2], _, [y0, y1, y2], _ =>
    simp only [Prod.mk.injEq, List.map_cons, List.map_nil, Rows.laid_furrow_run_kinds, DataW.agg.injEq, List.cons.injEq, and_true] at hx
    have e0 := str_of (c := k0) (y := y0) (by simpa [c9] using hf 0 (by omega)) hx.1.1.symm
    have e1 := str_of (c := k1) (y := y1) (by simpa [c9] using hf 1 (by omega)) hx.1.2.1.symm
    have e2 := str_of (c := k2) (y := y2) (by simpa [c9] using hf 2 (by omega)) hx.1.2.2.symm
    subst e0 e1 e2
    exact ⟨by simpa using hv 0, by simpa using hv 1, by simpa using hv 2⟩

theorem contract (H : Type) (enc : TypeId × Value → H) (W : World) (base : Nat) (args : Array Value) (ds gs : List (DataW H)) (before : List MemPlace)
    (hval : ∀ (j : Nat) t v, Tryd.f3.params[j]? = some t → args[j]? = some v → Value.okWide Tryd.prog W .any base t v)
    (hW : DataW.Whole enc Tryd.prog Tryd.f3.params.toList Rows.runStatesSpec.vars false W args.toList ds gs before) (hL : laidMetH Tryd.prog Rows.runStatesRow.laid W) (hk : Rows.uptoSmall H (ds ++ gs) = true) :
    Calls Tryd.prog 3 args W fun e W' => ∃ v, e = .returned v ∧ Rows.runStatesSpec.post enc Tryd.prog Tryd.f3 false true false false W args v W' := by
  have hW' := hW
  obtain ⟨p, q, hA0, hV, rfl, hfz, hnd⟩ := hW
  have hA : DataW.TrodAll enc Tryd.prog W 0 (fun _ => true) true Tryd.f3.params.toList args.toList ds p := hA0
  rw [Tryd.params3] at hA hval
  obtain ⟨v0, vs0, d0, ds0, p0, q0, hargs, rfl, rfl, h0, r0⟩ := trodAll_cons hA
  obtain ⟨rfl, rfl, rfl⟩ := trodAll_nil r0
  obtain rfl : args = #[v0] := by cases args; simp_all
  obtain ⟨rfl, rfl⟩ := trodVars_none hV
  clear hA0
  simp only [List.append_nil] at hW' hk
  have h0k := h0
  have hlt : ∀ x ∈ p0, x.block < W.heap.size := fun x hx => hW'.lt x (by simpa using hx)
  have hb : Rows.uptoBulk d0 ≤ 1048576 := by
    have h : Rows.uptoBulkAll [d0] ≤ 1048576 := of_decide_eq_true hk
    simpa [Rows.uptoBulkAll] using h
  obtain ⟨cs, rfl, hsz⟩ := okWide_struct Tryd.underlying27 (hval 0 27 v0 rfl rfl)
  obtain ⟨fuel, hf⟩ := h0
  obtain ⟨t, vn, vf, hcs, hst⟩ := open_state hf hb
  have hcs' : cs = #[.int .i64 t.pages, .int .i64 t.inodes, .int .i64 t.cores, .int .i64 t.data, vn, vf] := by
    apply Array.toList_inj.1
    simpa [Value.cells] using hcs
  subst hcs'
  refine (call_law t vn vf W hst (pow_of hL) (kinds_of hL)).mono fun e W' ⟨he, hg⟩ => ?_
  subst he
  exact ⟨_, rfl, ⟨[d0], [], p0, [], p0, [], by simpa using hW', trodAll_cons_mk (shut_bool Tryd.underlying4 _) trodAll_mk0, (by have h := trodAll_cons_mk (Below.trod laidOut (by kernel_rfl) (of_decide_eq_true (by kernel_rfl)) h0k hg hlt) trodAll_mk0; simp only [List.append_nil] at h; exact h), rfl, hg.frame _, fun h => by cases h⟩⟩

/-- What a listed variable holds, for the witness: the settled world, the variables holding what their initialisers lay. -/
def setCells (cs : Array Value) : Obj → Obj
  | .cells _ t frozen => .cells cs t frozen
  | o => o
noncomputable def laidWorld (os : Os) : World :=
  { World.holding Tryd.prog os ⟨#[], #[], []⟩ with heap := ((((World.holding Tryd.prog os ⟨#[], #[], []⟩).heap.modify 0 (setCells #[.string ⟨#[102, 114, 101, 101]⟩, .string ⟨#[102, 105, 108, 101]⟩, .string ⟨#[100, 105, 114]⟩])).modify 3 (setCells #[.int .u64 1, .int .u64 10, .int .u64 100, .int .u64 1000, .int .u64 10000, .int .u64 100000, .int .u64 1000000, .int .u64 10000000, .int .u64 100000000, .int .u64 1000000000, .int .u64 10000000000, .int .u64 100000000000, .int .u64 1000000000000, .int .u64 10000000000000, .int .u64 100000000000000, .int .u64 1000000000000000, .int .u64 10000000000000000, .int .u64 100000000000000000, .int .u64 1000000000000000000, .int .u64 10000000000000000000])).modify 5 (setCells #[.int .u8 0, .int .u8 1, .int .u8 28, .int .u8 2, .int .u8 29, .int .u8 14, .int .u8 24, .int .u8 3, .int .u8 30, .int .u8 22, .int .u8 20, .int .u8 15, .int .u8 25, .int .u8 17, .int .u8 4, .int .u8 8, .int .u8 31, .int .u8 27, .int .u8 13, .int .u8 23, .int .u8 21, .int .u8 19, .int .u8 16, .int .u8 7, .int .u8 26, .int .u8 12, .int .u8 18, .int .u8 6, .int .u8 11, .int .u8 5, .int .u8 10, .int .u8 9])).modify 6 (setCells #[.int .u8 0, .int .u8 1, .int .u8 56, .int .u8 2, .int .u8 57, .int .u8 49, .int .u8 28, .int .u8 3, .int .u8 61, .int .u8 58, .int .u8 42, .int .u8 50, .int .u8 38, .int .u8 29, .int .u8 17, .int .u8 4, .int .u8 62, .int .u8 47, .int .u8 59, .int .u8 36, .int .u8 45, .int .u8 43, .int .u8 51, .int .u8 22, .int .u8 53, .int .u8 39, .int .u8 33, .int .u8 30, .int .u8 24, .int .u8 18, .int .u8 12, .int .u8 5, .int .u8 63, .int .u8 55, .int .u8 48, .int .u8 27, .int .u8 60, .int .u8 41, .int .u8 37, .int .u8 16, .int .u8 46, .int .u8 35, .int .u8 44, .int .u8 21, .int .u8 52, .int .u8 32, .int .u8 23, .int .u8 11, .int .u8 54, .int .u8 26, .int .u8 40, .int .u8 15, .int .u8 34, .int .u8 20, .int .u8 31, .int .u8 10, .int .u8 25, .int .u8 14, .int .u8 19, .int .u8 9, .int .u8 13, .int .u8 8, .int .u8 7, .int .u8 6]) }
noncomputable def arg : Value := .agg #[.int .i64 0, .int .i64 0, .int .i64 0, .int .i64 0, .slice none 0 0, .slice none 0 0]
theorem laid_met (os : Os) : laidMet Tryd.prog Rows.runStatesRow.laid ((laidWorld os).forCall (fun _ _ => 0) ⟨#[], #[arg], []⟩).memory :=
  laidMet_of_run' 8 (by kernel_rfl) (by kernel_rfl)
theorem reads (os : Os) {H : Type} (enc : TypeId × Value → H) : ∃ places, DataW.whole enc Tryd.prog ((laidWorld os).forCall (fun _ _ => 0) ⟨#[], #[arg], []⟩).memory Tryd.f3.params.toList Rows.runStatesSpec.vars false #[arg].toList 8 = some ([.agg [.agg [.lit (.int .i64 0), .lit (.int .i64 0), .lit (.int .i64 0), .lit (.int .i64 0)], .nil, .nil]], [], places) :=
  ⟨[], by kernel_rfl⟩

theorem liftedUpto (os : Os) (started : os.Started) (H : Type) (enc : TypeId × Value → H) (F : Stop.Interp) :
    ReturnsInHanded {} Tryd.checked os 3 .any ((Rows.OpenSpec.upto Rows.runStatesSpec).preRow enc Tryd.prog Tryd.f3 Rows.runStatesUptoRow.domain false Rows.runStatesUptoRow.laid) (((Rows.OpenSpec.upto Rows.runStatesSpec).at F).post enc Tryd.prog Tryd.f3 false true false false) := by
  obtain ⟨places, hx⟩ := reads os enc
  refine returnsInHanded_of_row (C := Tryd.checked) (s := Rows.OpenSpec.upto Rows.runStatesSpec) own started (by kernel_rfl) Tryd.func3
    (witness_row_at (enc := enc) (C := Tryd.checked) false (laidWorld os) #[arg] rfl (by kernel_rfl) (by kernel_rfl) (by kernel_rfl)
      (OpenSpec.preRow_of_cond 8 hx (by kernel_rfl) (fun k hk => by cases hk; kernel_rfl) (by kernel_rfl) (laid_met os))) ?_
  intro W base args ds gs before hval hW _ hcond _ hL _ _
  exact contract H enc W base args ds gs before hval hW hL (hcond _ rfl)

theorem saidUpto : Rows.RunStatesUptoSaid :=
  OpenClaim.holds_of_cond 3 Tryd.f3 rfl rfl rfl rfl rfl rfl rfl ⟨rfl, rfl, rfl, rfl, rfl⟩ rfl rfl rfl rfl rfl (by kernel_rfl) Tryd.func3 (by kernel_rfl)
    (of_decide_eq_true (by kernel_rfl)) (by unfold Func.isWrapper; first | (rw [if_pos (by decide +kernel)]; kernel_rfl) | (rw [if_neg (by decide +kernel)]; exact ⟨rfl, rfl⟩))
    (fun os started H enc _ F => by rw [OpenClaim.pre_eq_preRow]; exact liftedUpto os started H enc F)

/-- No parameter wants a stand-in; the program's own looks are off: what both cards ask. -/
theorem plain (f : FuncId) (fn : Func) (hf : Tryd.pinned.checked.prog.funcNamed "furrow/furrowlaw20.RunStates" = some f) (hfn : Tryd.pinned.checked.prog.funcs[f]? = some fn) :
    true = Tryd.pinned.checked.prog.looks [] ∧ ∀ (j : Nat) t, fn.params[j]? = some t → Tryd.pinned.checked.prog.wantsStandIn t = false := by
  obtain rfl : f = 3 := Option.some.inj ((show Tryd.prog.funcNamed "furrow/furrowlaw20.RunStates" = some 3 by kernel_rfl).symm.trans hf) |>.symm
  obtain rfl : fn = Tryd.f3 := (Option.some.inj (Tryd.func3.symm.trans hfn)).symm
  refine ⟨by kernel_rfl, fun j t ht => ?_⟩
  rw [Tryd.params3] at ht
  obtain rfl : t = 27 := by simpa using Array.mem_of_getElem? ht
  exact (show Tryd.prog.wantsStandIn 27 = false by kernel_rfl)

/-- THE SECOND FORM's CARD -/
theorem card : Rows.RunStatesUptoCardSaid :=
  Claim7.holds_tied_plain_at .later [] _ _ _ _ saidUpto (fun _ h => by cases h) (by kernel_rfl) (fun _ h => by cases h) runStatesUpto_row_tie rfl ⟨rfl, rfl⟩ (by kernel_rfl) rfl plain (by kernel_rfl)
#print axioms card
end Go.Proofs.YtlecpjfggoehdaaDoor.RsCard
