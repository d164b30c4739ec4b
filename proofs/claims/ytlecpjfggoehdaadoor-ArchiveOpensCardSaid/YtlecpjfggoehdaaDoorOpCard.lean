/-
  Proved: the statement ArchiveOpensCardSaid: for every list of bytes that can be read as data, the law furrowlaw21.ArchiveOpens returns true (archive.Open answers what the document's Open answers: the members, or the number of the refusal; the bytes that were handed in, and what lies behind them, stay), and the bytes read afterwards as they did.
  Conditions: three listed package variables (two tables of Go's library and codec.steps), tied to the program's text by the given card. No bound on the bytes.
-/
import Derived.Test.YtlecpjfggoehdaaDoorKit
import Derived.Test.YtlecpjfggoehdaaDoorOpS
set_option linter.unusedVariables false
set_option linter.unusedSimpArgs false
namespace Go.Proofs.YtlecpjfggoehdaaDoor.OpCard
open Go.ChangeShapes Go.WideShapes Go.ChangeAt Go.RowKit Go.Proofs.YtlecpjfggoehdaaDoor.Ar Go.Proofs.YtlecpjfggoehdaaDoor.Kit
set_option maxRecDepth 100000

theorem contract (H : Type) (enc : TypeId × Value → H) (W : World) (base : Nat) (args : Array Value) (ds gs : List (DataW H)) (before : List MemPlace)
    (hval : ∀ (j : Nat) t v, Tryd.f5.params[j]? = some t → args[j]? = some v → Value.okWide Tryd.prog W .any base t v)
    (hW : DataW.Whole enc Tryd.prog Tryd.f5.params.toList Rows.archiveOpensSpec.vars false W args.toList ds gs before) (hL : laidMetH Tryd.prog Rows.archiveOpensRow.laid W) (hSh : W.ShapedOpen Tryd.prog) :
    Calls Tryd.prog 5 args W fun e W' => ∃ v, e = .returned v ∧ Rows.archiveOpensSpec.post enc Tryd.prog Tryd.f5 false true false false W args v W' := by
  have hW' := hW
  obtain ⟨p, q, hA0, hV, rfl, hfz, hnd⟩ := hW
  have hA : DataW.TrodAll enc Tryd.prog W 0 (fun _ => true) true Tryd.f5.params.toList args.toList ds p := hA0
  rw [Tryd.params5] at hA hval
  obtain ⟨v0, vs0, d0, ds0, p0, q0, hargs, rfl, rfl, h0, r0⟩ := trodAll_cons hA
  obtain ⟨rfl, rfl, rfl⟩ := trodAll_nil r0
  obtain rfl : args = #[v0] := by cases args; simp_all
  obtain ⟨rfl, rfl⟩ := trodVars_none hV
  clear hA0
  simp only [List.append_nil] at hW'
  have h0k := h0
  have hlt : ∀ x ∈ p0, x.block < W.heap.size := fun x hx => hW'.lt x (by simpa using hx)
  obtain ⟨av, nv, cv, rfl⟩ := okWide_slice Tryd.underlying31 (hval 0 31 v0 rfl rfl)
  obtain ⟨fuel, hf⟩ := h0
  obtain ⟨l, ⟨h1, h2, h3⟩, _⟩ := open_bytes (y := (d0, _)) (c := .slice av nv cv) (by simpa [Value.cells] using hf)
  refine (call_archiveOpens _ l W ⟨h1, h2, h3⟩ (stp_of hL (by simp [Rows.archiveOpensRow])) (max_of hSh)).mono fun e W' ⟨he, hg⟩ => ?_
  subst he
  exact ⟨_, rfl, ⟨[d0], [], p0, [], p0, [], by simpa using hW', trodAll_cons_mk (shut_bool Tryd.underlying4 _) trodAll_mk0, (by have h := trodAll_cons_mk (Below.trod laidOut (by kernel_rfl) (of_decide_eq_true (by kernel_rfl)) h0k hg hlt) trodAll_mk0; simp only [List.append_nil] at h; exact h), rfl, hg.frame _, fun h => by cases h⟩⟩

noncomputable def arg : Value := .slice none 0 0
theorem laid_met (os : Os) : laidMet Tryd.prog Rows.archiveOpensRow.laid ((laidWorld os).forCall (fun _ _ => 0) ⟨#[], #[arg], []⟩).memory :=
  laidMet_of_run' 8 (by kernel_rfl) (by kernel_rfl)
theorem reads (os : Os) {H : Type} (enc : TypeId × Value → H) : ∃ places, DataW.whole enc Tryd.prog ((laidWorld os).forCall (fun _ _ => 0) ⟨#[], #[arg], []⟩).memory Tryd.f5.params.toList Rows.archiveOpensSpec.vars false #[arg].toList 8 = some ([.nil], [], places) :=
  ⟨[], by kernel_rfl⟩

theorem lifted (os : Os) (started : os.Started) (H : Type) (enc : TypeId × Value → H) (F : Stop.Interp) :
    ReturnsInHanded {} Tryd.checked os 5 .any ((OpenSpec.ofChange Rows.archiveOpensSpec).preRow enc Tryd.prog Tryd.f5 Rows.archiveOpensRow.domain false Rows.archiveOpensRow.laid) (((OpenSpec.ofChange Rows.archiveOpensSpec).at F).post enc Tryd.prog Tryd.f5 false true false false) := by
  obtain ⟨places, hx⟩ := reads os enc
  refine returnsInHanded_of_row (C := Tryd.checked) (s := OpenSpec.ofChange Rows.archiveOpensSpec) own started (by kernel_rfl) Tryd.func5
    (witness_row_at (enc := enc) (C := Tryd.checked) false (laidWorld os) #[arg] rfl (by kernel_rfl) (by kernel_rfl) (by kernel_rfl)
      (OpenSpec.preRow_of_cond 8 hx (by kernel_rfl) (fun k hk => by cases hk) (by kernel_rfl) (laid_met os))) ?_
  intro W base args ds gs before hval hW _ _ _ hL hSh _
  exact contract H enc W base args ds gs before hval hW hL hSh

theorem said : Rows.ArchiveOpensSaid :=
  OpenClaim.holds_of_cond 5 Tryd.f5 rfl rfl rfl rfl rfl rfl rfl ⟨rfl, rfl, rfl, rfl, rfl⟩ rfl rfl rfl rfl rfl (by kernel_rfl) Tryd.func5 (by kernel_rfl)
    (of_decide_eq_true (by kernel_rfl)) (by unfold Func.isWrapper; first | (rw [if_pos (by decide +kernel)]; kernel_rfl) | (rw [if_neg (by decide +kernel)]; exact ⟨rfl, rfl⟩))
    (fun os started H enc _ F => by rw [OpenClaim.pre_eq_preRow]; exact lifted os started H enc F)

/-- No parameter wants a stand-in; the program's own looks are off: what both cards ask. -/
theorem plain (f : FuncId) (fn : Func) (hf : Tryd.pinned.checked.prog.funcNamed "furrow/furrowlaw21.ArchiveOpens" = some f) (hfn : Tryd.pinned.checked.prog.funcs[f]? = some fn) :
    true = Tryd.pinned.checked.prog.looks [] ∧ ∀ (j : Nat) t, fn.params[j]? = some t → Tryd.pinned.checked.prog.wantsStandIn t = false := by
  obtain rfl : f = 5 := Option.some.inj ((show Tryd.prog.funcNamed "furrow/furrowlaw21.ArchiveOpens" = some 5 by kernel_rfl).symm.trans hf) |>.symm
  obtain rfl : fn = Tryd.f5 := (Option.some.inj (Tryd.func5.symm.trans hfn)).symm
  refine ⟨by kernel_rfl, fun j t ht => ?_⟩
  rw [Tryd.params5] at ht
  obtain rfl : t = 31 := by simpa using Array.mem_of_getElem? ht
  exact (show Tryd.prog.wantsStandIn 31 = false by kernel_rfl)

/-- THE CARD -/
theorem card : Rows.ArchiveOpensCardSaid :=
  Claim7.holds_tied_plain_at .later [] _ _ _ _ said (fun _ h => by cases h) (by kernel_rfl) (fun _ h => by cases h) archiveOpens_row_tie rfl ⟨rfl, rfl⟩ (by kernel_rfl) rfl plain (by kernel_rfl)
#print axioms card
end Go.Proofs.YtlecpjfggoehdaaDoor.OpCard
