/- The argument of RunStates, opened: what reads as a state is one. -/
import Derived.Test.YtlecpjfggoehdaaDoorRows
import Derived.Test.YtlecpjfggoehdaaDoorRsH
import Derived.ProofKit
import Derived.OpenShut
set_option linter.unusedVariables false
set_option linter.unusedSimpArgs false
namespace Go.Proofs.YtlecpjfggoehdaaDoor.Rs
open Go.RowKit Go.Lib
open Go.Proofs.YtlecpjfggoehdaaDoor.Rows (uptoBulk uptoBulkAll uptoSmall)
set_option maxRecDepth 100000

theorem c3 : Tryd.prog.cellsOf 3 = 1 := by kernel_rfl
theorem c9 : Tryd.prog.cellsOf 9 = 1 := by kernel_rfl
theorem c23 : Tryd.prog.cellsOf 23 = 4 := by kernel_rfl
theorem c24 : Tryd.prog.cellsOf 24 = 1 := by kernel_rfl
theorem c25 : Tryd.prog.cellsOf 25 = 1 := by kernel_rfl
theorem c27 : Tryd.prog.cellsOf 27 = 6 := by kernel_rfl
theorem c57 : Tryd.prog.cellsOf 57 = 1 := by kernel_rfl
theorem c66 : Tryd.prog.cellsOf 66 = 1 := by kernel_rfl
theorem c67 : Tryd.prog.cellsOf 67 = 1 := by kernel_rfl
theorem c69 : Tryd.prog.cellsOf 69 = 10 := by kernel_rfl
theorem c72 : Tryd.prog.cellsOf 72 = 2 := by kernel_rfl
theorem c106 : Tryd.prog.cellsOf 106 = 3 := by kernel_rfl
theorem c109 : Tryd.prog.cellsOf 109 = 2 := by kernel_rfl

theorem bulk_one {H : Type} (d : DataW H) : 1 ≤ uptoBulk d := by
  cases d with
  | lit l => cases l <;> simp [uptoBulk]
  | nil => simp [uptoBulk]
  | ptr d => simp [uptoBulk]
  | slice elems spare => simp [uptoBulk]
  | agg parts => simp [uptoBulk]
  | iface t d => simp [uptoBulk]
  | map entries => simp [uptoBulk]
  | held h => simp [uptoBulk]

theorem bulkAll_append {H : Type} (l r : List (DataW H)) : uptoBulkAll (l ++ r) = uptoBulkAll l + uptoBulkAll r := by
  induction l with
  | nil => simp [uptoBulkAll]
  | cons x l ih => simp only [List.cons_append, uptoBulkAll, ih]; omega
theorem bulkAll_len {H : Type} (l : List (DataW H)) : l.length ≤ uptoBulkAll l := by
  induction l with
  | nil => simp [uptoBulkAll]
  | cons x r ih => have := bulk_one x; simp only [uptoBulkAll, List.length_cons]; omega

section
variable {H : Type} {enc : TypeId × Value → H} {w : World} {sp : Nat → Bool} {held : Bool}

/-- A slice that reads: its elements, each by its own opening; what they weigh. -/
theorem open_sl {α : Type} {R : World → Nat → Nat → α → Prop} {sz : Nat} {t e : TypeId} (wt : α → Nat) (ht : Tryd.prog.underlying t = some (.slice e)) (hsz : Tryd.prog.cellsOf e = sz) (h0 : 0 < sz)
    (hel : ∀ (fuel b o : Nat) (cs : List Value) (y : DataW H × List MemPlace), cs.length = sz → (∀ i, i < sz → w.cell? ⟨b, o + i, none⟩ = cs[i]?) → DataW.trod enc Tryd.prog w 0 sp held fuel e cs = some y → ∃ x, R w b o x ∧ wt x ≤ uptoBulk y.1)
    {fuel : Nat} {c : Value} {x : DataW H × List MemPlace} (h : DataW.trod enc Tryd.prog w 0 sp held fuel t [c] = some x) :
    ∃ xs, Sl R sz w c xs ∧ xs.length + 1 ≤ uptoBulk x.1 ∧ (xs.map wt).sum ≤ uptoBulk x.1 := by
  rcases DataW.trod_slice ht h with ⟨hc, rfl⟩ | ⟨a, len, cap, elems, rest, n, _, hc, rfl, _, _, _, hlen, hat, _, _⟩
  · cases hc
    exact ⟨[], ⟨none, 0, 0, 0, rfl, fun h => absurd h (by simp), fun j x hx => by simp at hx⟩, by simp [uptoBulk], by simp⟩
  · cases hc
    rw [hsz] at hat
    have key : ∀ i, i < len → ∃ x y, elems[i]? = some y ∧ R w a.block (a.off + i * sz) x ∧ wt x ≤ uptoBulk y.1 ∧ a.spot = none := by
      intro i hi
      have h1 := hat i hi
      rw [List.getElem?_eq_getElem (by omega)] at h1
      obtain ⟨cs, hcs, hy⟩ := Option.bind_eq_some_iff.1 h1
      obtain ⟨_, hl, hcell⟩ := World.cells?_some hcs
      have hspot : a.spot = none := by
        have h2 := hcell 0 h0
        rw [List.getElem?_eq_getElem (by omega)] at h2
        by_cases e : i * sz = 0
        · simp only [Addr.add, e, if_true] at h2
          cases hs : a.spot with
          | none => rfl
          | some s => simp [World.cell?, hs] at h2; split at h2 <;> simp_all
        · have h3 := hat 0 (by omega)
          rw [List.getElem?_eq_getElem (by omega)] at h3
          obtain ⟨cs', hcs', _⟩ := Option.bind_eq_some_iff.1 h3
          obtain ⟨_, hl', hcell'⟩ := World.cells?_some hcs'
          have h4 := hcell' 0 h0
          rw [List.getElem?_eq_getElem (by omega)] at h4
          simp only [Nat.zero_mul, Addr.add, if_true] at h4
          cases hs : a.spot with
          | none => rfl
          | some s => simp [World.cell?, hs] at h4; split at h4 <;> simp_all
      obtain ⟨x, hx, hw⟩ := hel n a.block (a.off + i * sz) cs _ hl (fun j hj => by
        rw [← hcell j hj]
        congr 1
        obtain ⟨bb, oo, ss⟩ := a
        simp only at hspot
        subst hspot
        unfold Addr.add
        by_cases e1 : i * sz = 0 <;> by_cases e2 : j = 0 <;> simp [e1, e2, Nat.add_assoc]) hy
      exact ⟨x, _, List.getElem?_eq_getElem (by omega), hx, hw, hspot⟩
    have build : ∀ m, m ≤ len → ∃ xs : List α, xs.length = m ∧ (∀ j x, xs[j]? = some x → R w a.block (a.off + j * sz) x) ∧ (xs.map wt).sum ≤ uptoBulkAll ((elems.take m).map (·.1)) := by
      intro m
      induction m with
      | zero => intro _; exact ⟨[], rfl, fun j x hx => by simp at hx, by simp⟩
      | succ m ih =>
        intro hm
        obtain ⟨xs, hl, hr, hw⟩ := ih (by omega)
        obtain ⟨x, y, hy, hx, hwx, _⟩ := key m (by omega)
        refine ⟨xs ++ [x], by simp [hl], fun j z hz => ?_, ?_⟩
        · rcases Nat.lt_or_ge j m with h | h
          · rw [List.getElem?_append_left (by omega)] at hz; exact hr j z hz
          · rw [List.getElem?_append_right (by omega)] at hz
            have e : j = m := by
              rcases Nat.lt_or_ge j (m + 1) with h5 | h5
              · omega
              · rw [List.getElem?_eq_none (by simp; omega)] at hz; cases hz
            subst e
            simp [hl] at hz
            subst hz
            exact hx
        · have e : (elems.take (m + 1)).map (·.1) = (elems.take m).map (·.1) ++ [y.1] := by rw [List.take_add_one, hy]; simp
          rw [e, bulkAll_append]
          simp only [List.map_append, List.map_cons, List.map_nil, List.sum_append, List.sum_cons, List.sum_nil, uptoBulkAll]
          omega
    obtain ⟨xs, hl, hr, hw⟩ := build len (Nat.le_refl _)
    rw [List.take_of_length_le (by omega)] at hw
    have hsum : uptoBulkAll (elems.map (·.1)) + 1 ≤ uptoBulk (DataW.slice (elems.map (·.1)) (rest.map (·.1))) := by simp only [uptoBulk]; omega
    have hlen2 := bulkAll_len (elems.map (·.1))
    refine ⟨xs, ⟨some a, a.block, a.off, cap, by rw [hl], fun hp => ?_, hr⟩, by simp at hlen2; simp only; omega, by simp only; omega⟩
    obtain ⟨_, _, _, _, _, hs⟩ := key 0 (by omega)
    obtain ⟨bb, oo, ss⟩ := a
    simp only at hs
    subst hs
    rfl

theorem open_i64 {fuel : Nat} {c : Value} {y : DataW H × List MemPlace} (h : DataW.trod enc Tryd.prog w 0 sp held fuel 3 [c] = some y) : ∃ n, c = .int .i64 n ∧ I64 n := by
  obtain ⟨n, hc, _, hw⟩ := DataW.trod_int Tryd.underlying3 h
  cases hc
  simp only [Lit.wf, Bool.and_eq_true, decide_eq_true_eq] at hw
  exact ⟨n, rfl, hw⟩

theorem open_int {fuel b o : Nat} {cs : List Value} {y : DataW H × List MemPlace} (hl : cs.length = 1) (hc : ∀ i, i < 1 → w.cell? ⟨b, o + i, none⟩ = cs[i]?) (h : DataW.trod enc Tryd.prog w 0 sp held fuel 3 cs = some y) : ∃ x, RInt w b o x ∧ 0 ≤ uptoBulk y.1 := by
  match cs, hl with
  | [c], _ =>
    obtain ⟨n, rfl, hn⟩ := open_i64 h
    exact ⟨n, ⟨hc 0 (by omega), hn⟩, Nat.zero_le _⟩

theorem open_run {fuel b o : Nat} {cs : List Value} {y : DataW H × List MemPlace} (hl : cs.length = 3) (hc : ∀ i, i < 3 → w.cell? ⟨b, o + i, none⟩ = cs[i]?) (h : DataW.trod enc Tryd.prog w 0 sp held fuel 106 cs = some y) : ∃ x, RRn w b o x ∧ 0 ≤ uptoBulk y.1 := by
  obtain ⟨ys, n, _, _, _, hys, hf⟩ := DataW.trod_struct Tryd.underlying106 h
  match cs, hl, ys, hys with
  | [k0, k1, k2], _, [y0, y1, y2], _ =>
    obtain ⟨a0, rfl, w0⟩ := open_i64 (by simpa [c3] using hf 0 _ rfl)
    obtain ⟨a1, rfl, w1⟩ := open_i64 (by simpa [c3] using hf 1 _ rfl)
    obtain ⟨a2, rfl, w2⟩ := open_i64 (by simpa [c3] using hf 2 _ rfl)
    exact ⟨⟨a0, a1, a2⟩, ⟨hc 0 (by omega), hc 1 (by omega), hc 2 (by omega), w0, w1, w2⟩, Nat.zero_le _⟩

theorem open_span {fuel b o : Nat} {cs : List Value} {y : DataW H × List MemPlace} (hl : cs.length = 2) (hc : ∀ i, i < 2 → w.cell? ⟨b, o + i, none⟩ = cs[i]?) (h : DataW.trod enc Tryd.prog w 0 sp held fuel 72 cs = some y) : ∃ x, RSp w b o x ∧ 0 ≤ uptoBulk y.1 := by
  obtain ⟨ys, n, _, _, _, hys, hf⟩ := DataW.trod_struct Tryd.underlying72 h
  match cs, hl, ys, hys with
  | [k0, k1], _, [y0, y1], _ =>
    obtain ⟨a0, rfl, w0⟩ := open_i64 (by simpa [c3] using hf 0 _ rfl)
    obtain ⟨a1, rfl, w1⟩ := open_i64 (by simpa [c3] using hf 1 _ rfl)
    exact ⟨⟨a0, a1⟩, ⟨hc 0 (by omega), hc 1 (by omega), w0, w1⟩, Nat.zero_le _⟩

theorem open_dent {fuel b o : Nat} {cs : List Value} {y : DataW H × List MemPlace} (hl : cs.length = 2) (hc : ∀ i, i < 2 → w.cell? ⟨b, o + i, none⟩ = cs[i]?) (h : DataW.trod enc Tryd.prog w 0 sp held fuel 109 cs = some y) : ∃ x, RDn w b o x ∧ x.name.length + 1 ≤ uptoBulk y.1 := by
  obtain ⟨ys, n, _, hy, _, hys, hf⟩ := DataW.trod_struct Tryd.underlying109 h
  match cs, hl, ys, hys with
  | [k0, k1], _, [y0, y1], _ =>
    obtain ⟨s, hs, e0, _⟩ := DataW.trod_string Tryd.underlying9 (show DataW.trod enc Tryd.prog w 0 sp held n 9 [k0] = some y0 by simpa [c9] using hf 0 _ rfl)
    cases hs
    obtain ⟨a1, rfl, w1⟩ := open_i64 (by simpa [c3] using hf 1 _ rfl)
    refine ⟨⟨s.data.toList, a1⟩, ⟨by show _ = some (Value.string (bs s.data.toList)); rw [show bs s.data.toList = s by simp [bs]]; exact hc 0 (by omega), hc 1 (by omega), w1⟩, ?_⟩
    subst hy
    subst e0
    simp [uptoBulk, uptoBulkAll]
    omega

theorem open_node {fuel b o : Nat} {cs : List Value} {y : DataW H × List MemPlace} (hl : cs.length = 10) (hc : ∀ i, i < 10 → w.cell? ⟨b, o + i, none⟩ = cs[i]?) (h : DataW.trod enc Tryd.prog w 0 sp held fuel 69 cs = some y) : ∃ x, RNd w b o x ∧ x.wt ≤ uptoBulk y.1 := by
  obtain ⟨ys, n, _, hy, _, hys, hf⟩ := DataW.trod_struct Tryd.underlying69 h
  match cs, hl, ys, hys with
  | [k0, k1, k2, k3, k4, k5, k6, k7, k8, k9], _, [y0, y1, y2, y3, y4, y5, y6, y7, y8, y9], _ =>
    obtain ⟨a0, rfl, w0⟩ := open_i64 (by simpa [c3] using hf 0 _ rfl)
    obtain ⟨a1, rfl, w1⟩ := open_i64 (by simpa [c3] using hf 1 _ rfl)
    obtain ⟨a2, rfl, w2⟩ := open_i64 (by simpa [c3] using hf 2 _ rfl)
    obtain ⟨a3, rfl, w3⟩ := open_i64 (by simpa [c3] using hf 3 _ rfl)
    obtain ⟨l4, s4, b4, _⟩ := open_sl (R := RRn) (fun _ => 0) Tryd.underlying66 c106 (by omega) (fun _ _ _ _ _ => open_run) (show DataW.trod enc Tryd.prog w 0 sp held n 66 [k4] = some y4 by simpa [c66] using hf 4 _ rfl)
    obtain ⟨l5, s5, _, b5⟩ := open_sl (R := RDn) (fun d => d.name.length + 1) Tryd.underlying67 c109 (by omega) (fun _ _ _ _ _ => open_dent) (show DataW.trod enc Tryd.prog w 0 sp held n 67 [k5] = some y5 by simpa [c67] using hf 5 _ rfl)
    obtain ⟨a6, rfl, w6⟩ := open_i64 (by simpa [c3] using hf 6 _ rfl)
    obtain ⟨a7, rfl, w7⟩ := open_i64 (by simpa [c3] using hf 7 _ rfl)
    obtain ⟨l8, s8, b8, _⟩ := open_sl (R := RInt) (fun _ => 0) Tryd.underlying57 c3 (by omega) (fun _ _ _ _ _ => open_int) (show DataW.trod enc Tryd.prog w 0 sp held n 57 [k8] = some y8 by simpa [c57] using hf 8 _ rfl)
    obtain ⟨a9, rfl, w9⟩ := open_i64 (by simpa [c3] using hf 9 _ rfl)
    refine ⟨⟨a0, a1, a2, a3, l4, l5, a6, a7, l8, a9⟩, ⟨k4, k5, k8, hc 0 (by omega), hc 1 (by omega), hc 2 (by omega), hc 3 (by omega), hc 4 (by omega), hc 5 (by omega), hc 6 (by omega), hc 7 (by omega), hc 8 (by omega), hc 9 (by omega),
      ⟨s4, s5, s8, w0, w2, w3, w6, w7, w9⟩⟩, ?_⟩
    subst hy
    simp only [Nd.wt, uptoBulk, uptoBulkAll, List.map_cons, List.map_nil]
    omega

theorem open_state {fuel : Nat} {cs : List Value} {y : DataW H × List MemPlace} (h : DataW.trod enc Tryd.prog w 0 sp held fuel 27 cs = some y) (hk : uptoBulk y.1 ≤ 1048576) :
    ∃ t vn vf, cs = [.int .i64 t.pages, .int .i64 t.inodes, .int .i64 t.cores, .int .i64 t.data, vn, vf] ∧ StV w t vn vf := by
  obtain ⟨ys, n, _, hy, hl, hys, hf⟩ := DataW.trod_struct Tryd.underlying27 h
  rw [c27] at hl
  match cs, hl, ys, hys with
  | [k0, k1, k2, k3, k4, k5], _, [y0, y1, y2], _ =>
    have h0 : DataW.trod enc Tryd.prog w 0 sp held n 23 [k0, k1, k2, k3] = some y0 := by simpa [c23] using hf 0 _ rfl
    obtain ⟨zs, m, _, _, _, hzs, hg⟩ := DataW.trod_struct Tryd.underlying23 h0
    match zs, hzs with
    | [z0, z1, z2, z3], _ =>
      obtain ⟨a0, rfl, w0⟩ := open_i64 (by simpa [c3] using hg 0 _ rfl)
      obtain ⟨a1, rfl, w1⟩ := open_i64 (by simpa [c3] using hg 1 _ rfl)
      obtain ⟨a2, rfl, w2⟩ := open_i64 (by simpa [c3] using hg 2 _ rfl)
      obtain ⟨a3, rfl, w3⟩ := open_i64 (by simpa [c3] using hg 3 _ rfl)
      obtain ⟨l4, s4, b4, b4'⟩ := open_sl (R := RNd) Nd.wt Tryd.underlying24 c69 (by omega) (fun _ _ _ _ _ => open_node) (show DataW.trod enc Tryd.prog w 0 sp held n 24 [k4] = some y1 by simpa [c24] using hf 1 _ rfl)
      obtain ⟨l5, s5, b5, _⟩ := open_sl (R := RSp) (fun _ => 0) Tryd.underlying25 c72 (by omega) (fun _ _ _ _ _ => open_span) (show DataW.trod enc Tryd.prog w 0 sp held n 25 [k5] = some y2 by simpa [c25] using hf 2 _ rfl)
      subst hy
      simp only [uptoBulk, uptoBulkAll, List.map_cons, List.map_nil] at hk
      exact ⟨⟨a0, a1, a2, a3, l4, l5⟩, k4, k5, rfl, ⟨s4, s5, w0, w1, w2, by show (l4.map Nd.wt).sum ≤ _; omega, by show l4.length ≤ _; omega, by show l5.length ≤ _; omega⟩⟩
end
end Go.Proofs.YtlecpjfggoehdaaDoor.Rs
