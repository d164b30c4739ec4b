/-
  Proved: the statement ArchiveWholeUptoCardSaid: for every list of members, every cut and all bytes behind, together of bulk at most 1048576, that can be read as data, the law furrowlaw21.ArchiveWhole returns true (the bytes of a good list that are cut, or have more behind them, are refused by archive.Open), and all three read afterwards as they did.
  Conditions: the bound on the bulk (the second form of the statement); three listed package variables (two tables of Go's library and codec.steps), tied to the program's text by the given card.
-/
import Derived.Test.YtlecpjfggoehdaaDoorKit
import Derived.Test.YtlecpjfggoehdaaDoorBn
set_option linter.unusedVariables false
set_option linter.unusedSimpArgs false
namespace Go.Proofs.YtlecpjfggoehdaaDoor.WhCard
open Go.ChangeShapes Go.WideShapes Go.ChangeAt Go.RowKit Go.Proofs.YtlecpjfggoehdaaDoor.Ar Go.Proofs.YtlecpjfggoehdaaDoor.Kit
set_option maxRecDepth 100000
theorem contract (H : Type) (enc : TypeId × Value → H) (W : World) (base : Nat) (args : Array Value) (ds gs : List (DataW H)) (before : List MemPlace)
    (hval : ∀ (j : Nat) t v, Tryd.f8.params[j]? = some t → args[j]? = some v → Value.okWide Tryd.prog W .any base t v)
    (hW : DataW.Whole enc Tryd.prog Tryd.f8.params.toList Rows.archiveWholeSpec.vars false W args.toList ds gs before) (hL : laidMetH Tryd.prog Rows.archiveWholeRow.laid W) (hSh : W.ShapedOpen Tryd.prog) (hk : Rows.uptoSmall H (ds ++ gs) = true) :
    Calls Tryd.prog 8 args W fun e W' => ∃ v, e = .returned v ∧ Rows.archiveWholeSpec.post enc Tryd.prog Tryd.f8 false true false false W args v W' := by
  have hW' := hW
  obtain ⟨p, q, hA0, hV, rfl, hfz, hnd⟩ := hW
  have hA : DataW.TrodAll enc Tryd.prog W 0 (fun _ => true) true Tryd.f8.params.toList args.toList ds p := hA0
  rw [Tryd.params8] at hA hval
  obtain ⟨v0, vs0, d0, ds0, p0, q0, hargs, rfl, rfl, h0, r0⟩ := trodAll_cons hA
  obtain ⟨v1, vs1, d1, ds1, p1, q1, rfl, rfl, rfl, h1, r1⟩ := trodAll_cons r0
  obtain ⟨v2, vs2, d2, ds2, p2, q2, rfl, rfl, rfl, h2, r2⟩ := trodAll_cons r1
  obtain ⟨rfl, rfl, rfl⟩ := trodAll_nil r2
  obtain rfl : args = #[v0, v1, v2] := by cases args; simp_all
  obtain ⟨rfl, rfl⟩ := trodVars_none hV
  clear hA0
  simp only [List.append_nil] at hW' hk
  have h0k := h0
  have hlt0 : ∀ x ∈ p0, x.block < W.heap.size := fun x hx => hW'.lt x (by simp [hx])
  have h1k := h1
  have hlt1 : ∀ x ∈ p1, x.block < W.heap.size := fun x hx => hW'.lt x (by simp [hx])
  have h2k := h2
  have hlt2 : ∀ x ∈ p2, x.block < W.heap.size := fun x hx => hW'.lt x (by simp [hx])
  have hbulk : Rows.uptoBulkAll [d0, d1, d2] ≤ 1048576 := of_decide_eq_true hk
  simp only [Rows.uptoBulkAll] at hbulk
  obtain ⟨av0, nv0, cv0, rfl⟩ := okWide_slice Tryd.underlying30 (hval 0 30 v0 rfl rfl)
  obtain ⟨fuel0, hf0⟩ := h0
  obtain ⟨l0, hl0⟩ := open_list (y := (d0, _)) (c := .slice av0 nv0 cv0) (by simpa [Value.cells] using hf0) (by show Rows.uptoBulk d0 ≤ 1048576; omega)
  obtain ⟨n1, rfl, hd1, hp1, hw1⟩ := open_int Tryd.underlying3 (hval 1 3 v1 rfl rfl) h1
  simp only [Lit.wf, Bool.and_eq_true, decide_eq_true_eq] at hw1
  obtain ⟨av2, nv2, cv2, rfl⟩ := okWide_slice Tryd.underlying31 (hval 2 31 v2 rfl rfl)
  obtain ⟨fuel2, hf2⟩ := h2
  obtain ⟨l2, ⟨h21, h22, h23⟩, hw2⟩ := open_bytes (y := (d2, _)) (c := .slice av2 nv2 cv2) (by simpa [Value.cells] using hf2)
  have hstp : Ar.Stp W := stp_of hL (by simp [Rows.archiveWholeRow])
  have hmax := max_of hSh
  refine (call_archiveWhole _ _ l0 n1 l2 W hl0 ⟨h21, h22, h23⟩ hstp hmax).mono fun e W' ⟨he, hg⟩ => ?_
  subst he
  exact ⟨_, rfl, ⟨[d0, d1, d2], [], p0 ++ (p1 ++ p2), [], p0 ++ (p1 ++ p2), [], by simpa using hW', trodAll_cons_mk (shut_bool Tryd.underlying4 _) trodAll_mk0, (by have h := trodAll_cons_mk (Below.trod laidOut (by kernel_rfl) (of_decide_eq_true (by kernel_rfl)) h0k hg hlt0) (trodAll_cons_mk (Below.trod laidOut (by kernel_rfl) (of_decide_eq_true (by kernel_rfl)) h1k hg hlt1) (trodAll_cons_mk (Below.trod laidOut (by kernel_rfl) (of_decide_eq_true (by kernel_rfl)) h2k hg hlt2) trodAll_mk0)); simp only [List.append_nil] at h; exact h), rfl, hg.frame _, fun h => by cases h⟩⟩

noncomputable def argsW : Array Value := #[(.slice none 0 0 : Value), (.int .i64 0 : Value), (.slice none 0 0 : Value)]
theorem laid_met (os : Os) : laidMet Tryd.prog Rows.archiveWholeRow.laid ((laidWorld os).forCall (fun _ _ => 0) ⟨#[], argsW, []⟩).memory :=
  laidMet_of_run' 8 (by kernel_rfl) (by kernel_rfl)
theorem reads (os : Os) {H : Type} (enc : TypeId × Value → H) : ∃ places, DataW.whole enc Tryd.prog ((laidWorld os).forCall (fun _ _ => 0) ⟨#[], argsW, []⟩).memory Tryd.f8.params.toList Rows.archiveWholeSpec.vars false argsW.toList 8 = some ([.nil, .lit (.int .i64 0), .nil], [], places) :=
  ⟨[], by kernel_rfl⟩

theorem lifted (os : Os) (started : os.Started) (H : Type) (enc : TypeId × Value → H) (F : Stop.Interp) :
    ReturnsInHanded {} Tryd.checked os 8 .any ((Rows.OpenSpec.upto Rows.archiveWholeSpec).preRow enc Tryd.prog Tryd.f8 Rows.archiveWholeUptoRow.domain false Rows.archiveWholeUptoRow.laid) (((Rows.OpenSpec.upto Rows.archiveWholeSpec).at F).post enc Tryd.prog Tryd.f8 false true false false) := by
  obtain ⟨places, hx⟩ := reads os enc
  refine returnsInHanded_of_row (C := Tryd.checked) (s := Rows.OpenSpec.upto Rows.archiveWholeSpec) own started (by kernel_rfl) Tryd.func8
    (witness_row_at (enc := enc) (C := Tryd.checked) false (laidWorld os) argsW rfl (by kernel_rfl) (by kernel_rfl) (by kernel_rfl)
      (OpenSpec.preRow_of_cond 8 hx (by kernel_rfl) (fun k hk => by cases hk; kernel_rfl) (by kernel_rfl) (laid_met os))) ?_
  intro W base args ds gs before hval hW _ hcond _ hL hSh _
  exact contract H enc W base args ds gs before hval hW hL hSh (hcond _ rfl)

theorem said : Rows.ArchiveWholeUptoSaid :=
  OpenClaim.holds_of_cond 8 Tryd.f8 rfl rfl rfl rfl rfl rfl rfl ⟨rfl, rfl, rfl, rfl, rfl⟩ rfl rfl rfl rfl rfl (by kernel_rfl) Tryd.func8 (by kernel_rfl)
    (of_decide_eq_true (by kernel_rfl)) (by unfold Func.isWrapper; first | (rw [if_pos (by decide +kernel)]; kernel_rfl) | (rw [if_neg (by decide +kernel)]; exact ⟨rfl, rfl⟩))
    (fun os started H enc _ F => by rw [OpenClaim.pre_eq_preRow]; exact lifted os started H enc F)

/-- No parameter wants a stand-in; the program's own looks are off: what both cards ask. -/
theorem plain (f : FuncId) (fn : Func) (hf : Tryd.pinned.checked.prog.funcNamed "furrow/furrowlaw21.ArchiveWhole" = some f) (hfn : Tryd.pinned.checked.prog.funcs[f]? = some fn) :
    true = Tryd.pinned.checked.prog.looks [] ∧ ∀ (j : Nat) t, fn.params[j]? = some t → Tryd.pinned.checked.prog.wantsStandIn t = false := by
  obtain rfl : f = 8 := Option.some.inj ((show Tryd.prog.funcNamed "furrow/furrowlaw21.ArchiveWhole" = some 8 by kernel_rfl).symm.trans hf) |>.symm
  obtain rfl : fn = Tryd.f8 := (Option.some.inj (Tryd.func8.symm.trans hfn)).symm
  refine ⟨by kernel_rfl, fun j t ht => ?_⟩
  rw [Tryd.params8] at ht
  have hm : t ∈ [30, 3, 31] := by simpa using Array.mem_of_getElem? ht
  have hall : ([30, 3, 31].all fun u => !Tryd.prog.wantsStandIn u) = true := by kernel_rfl
  exact (show Tryd.prog.wantsStandIn t = false by simpa using List.all_eq_true.1 hall t hm)

/-- THE CARD -/
theorem card : Rows.ArchiveWholeUptoCardSaid :=
  Claim7.holds_tied_plain_at .later [] _ _ _ _ said (fun _ h => by cases h) (by kernel_rfl) (fun _ h => by cases h) archiveWholeUpto_row_tie rfl ⟨rfl, rfl⟩ (by kernel_rfl) rfl plain (by kernel_rfl)
#print axioms card
end Go.Proofs.YtlecpjfggoehdaaDoor.WhCard
