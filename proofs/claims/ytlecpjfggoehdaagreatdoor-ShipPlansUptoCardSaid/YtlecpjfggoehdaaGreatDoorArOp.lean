
/- The argument of ArchiveMakes, opened: what reads as a list of members is one. -/
import Derived.Test.YtlecpjfggoehdaaGreatDoorRows
import Derived.Test.YtlecpjfggoehdaaGreatDoorArTz
import Derived.ProofKit
import Derived.OpenShut
set_option linter.unusedVariables false
set_option linter.unusedSimpArgs false
namespace Go.Proofs.YtlecpjfggoehdaaGreatDoor.Ar
open Go.RowKit Go.Lib Go.Proofs.YtlecpjfggoehdaaGreatDoor.Rs
open Go.Proofs.YtlecpjfggoehdaaGreatDoor.Rows (uptoBulk uptoBulkAll uptoSmall)
set_option maxRecDepth 100000

theorem c3 : Tryz.prog.cellsOf 3 = 1 := by kernel_rfl
theorem c9 : Tryz.prog.cellsOf 9 = 1 := by kernel_rfl
theorem c49 : Tryz.prog.cellsOf 56 = 1 := by kernel_rfl
theorem c51 : Tryz.prog.cellsOf 58 = 5 := by kernel_rfl
theorem c82 : Tryz.prog.cellsOf 62 = 2 := by kernel_rfl

theorem bulk_one {H : Type} (d : DataW H) : 1 ≤ uptoBulk d := by
  cases d with
  | lit l => cases l <;> simp [uptoBulk]
  | nil => simp [uptoBulk]
  | ptr d => simp [uptoBulk]
  | slice elems spare => simp [uptoBulk]
  | agg parts => simp [uptoBulk]
  | iface t d => simp [uptoBulk]
  | map entries => simp [uptoBulk]
  | held h => simp [uptoBulk]

theorem bulkAll_append {H : Type} (l r : List (DataW H)) : uptoBulkAll (l ++ r) = uptoBulkAll l + uptoBulkAll r := by
  induction l with
  | nil => simp [uptoBulkAll]
  | cons x l ih => simp only [List.cons_append, uptoBulkAll, ih]; omega
theorem bulkAll_len {H : Type} (l : List (DataW H)) : l.length ≤ uptoBulkAll l := by
  induction l with
  | nil => simp [uptoBulkAll]
  | cons x r ih => have := bulk_one x; simp only [uptoBulkAll, List.length_cons]; omega

section
variable {H : Type} {enc : TypeId × Value → H} {w : World} {sp : Nat → Bool} {held : Bool}

/-- A slice that reads: its elements, each by its own opening; what they weigh. -/
theorem open_sl {α : Type} {R : World → Nat → Nat → α → Prop} {sz : Nat} {t e : TypeId} (wt : α → Nat) (ht : Tryz.prog.underlying t = some (.slice e)) (hsz : Tryz.prog.cellsOf e = sz) (h0 : 0 < sz)
    (hel : ∀ (fuel b o : Nat) (cs : List Value) (y : DataW H × List MemPlace), cs.length = sz → (∀ i, i < sz → w.cell? ⟨b, o + i, none⟩ = cs[i]?) → DataW.trod enc Tryz.prog w 0 sp held fuel e cs = some y → ∃ x, R w b o x ∧ wt x ≤ uptoBulk y.1)
    {fuel : Nat} {c : Value} {x : DataW H × List MemPlace} (h : DataW.trod enc Tryz.prog w 0 sp held fuel t [c] = some x) :
    ∃ xs, (Sl R sz w c xs ∧ NilOk c ∧ ∀ a n q, c = .slice a n q → n ≤ q) ∧ xs.length + 1 ≤ uptoBulk x.1 ∧ (xs.map wt).sum ≤ uptoBulk x.1 := by
  rcases DataW.trod_slice ht h with ⟨hc, rfl⟩ | ⟨a, len, cap, elems, rest, n, _, hc, rfl, _, hlc, _, hlen, hat, _, _⟩
  · cases hc
    exact ⟨[], ⟨⟨none, 0, 0, 0, rfl, fun h => absurd h (by simp), fun j x hx => by simp at hx⟩, (fun n q e => by cases e; exact ⟨rfl, rfl⟩), (fun a n q e => by cases e; exact Nat.le_refl _)⟩, by simp [uptoBulk], by simp⟩
  · cases hc
    rw [hsz] at hat
    have key : ∀ i, i < len → ∃ x y, elems[i]? = some y ∧ R w a.block (a.off + i * sz) x ∧ wt x ≤ uptoBulk y.1 ∧ a.spot = none := by
      intro i hi
      have h1 := hat i hi
      rw [List.getElem?_eq_getElem (by omega)] at h1
      obtain ⟨cs, hcs, hy⟩ := Option.bind_eq_some_iff.1 h1
      obtain ⟨_, hl, hcell⟩ := World.cells?_some hcs
      have hspot : a.spot = none := by
        have h2 := hcell 0 h0
        rw [List.getElem?_eq_getElem (by omega)] at h2
        by_cases e : i * sz = 0
        · simp only [Addr.add, e, if_true] at h2
          cases hs : a.spot with
          | none => rfl
          | some s => simp [World.cell?, hs] at h2; split at h2 <;> simp_all
        · have h3 := hat 0 (by omega)
          rw [List.getElem?_eq_getElem (by omega)] at h3
          obtain ⟨cs', hcs', _⟩ := Option.bind_eq_some_iff.1 h3
          obtain ⟨_, hl', hcell'⟩ := World.cells?_some hcs'
          have h4 := hcell' 0 h0
          rw [List.getElem?_eq_getElem (by omega)] at h4
          simp only [Nat.zero_mul, Addr.add, if_true] at h4
          cases hs : a.spot with
          | none => rfl
          | some s => simp [World.cell?, hs] at h4; split at h4 <;> simp_all
      obtain ⟨x, hx, hw⟩ := hel n a.block (a.off + i * sz) cs _ hl (fun j hj => by
        rw [← hcell j hj]
        congr 1
        obtain ⟨bb, oo, ss⟩ := a
        simp only at hspot
        subst hspot
        unfold Addr.add
        by_cases e1 : i * sz = 0 <;> by_cases e2 : j = 0 <;> simp [e1, e2, Nat.add_assoc]) hy
      exact ⟨x, _, List.getElem?_eq_getElem (by omega), hx, hw, hspot⟩
    have build : ∀ m, m ≤ len → ∃ xs : List α, xs.length = m ∧ (∀ j x, xs[j]? = some x → R w a.block (a.off + j * sz) x) ∧ (xs.map wt).sum ≤ uptoBulkAll ((elems.take m).map (·.1)) := by
      intro m
      induction m with
      | zero => intro _; exact ⟨[], rfl, fun j x hx => by simp at hx, by simp⟩
      | succ m ih =>
        intro hm
        obtain ⟨xs, hl, hr, hw⟩ := ih (by omega)
        obtain ⟨x, y, hy, hx, hwx, _⟩ := key m (by omega)
        refine ⟨xs ++ [x], by simp [hl], fun j z hz => ?_, ?_⟩
        · rcases Nat.lt_or_ge j m with h | h
          · rw [List.getElem?_append_left (by omega)] at hz; exact hr j z hz
          · rw [List.getElem?_append_right (by omega)] at hz
            have e : j = m := by
              rcases Nat.lt_or_ge j (m + 1) with h5 | h5
              · omega
              · rw [List.getElem?_eq_none (by simp; omega)] at hz; cases hz
            subst e
            simp [hl] at hz
            subst hz
            exact hx
        · have e : (elems.take (m + 1)).map (·.1) = (elems.take m).map (·.1) ++ [y.1] := by rw [List.take_add_one, hy]; simp
          rw [e, bulkAll_append]
          simp only [List.map_append, List.map_cons, List.map_nil, List.sum_append, List.sum_cons, List.sum_nil, uptoBulkAll]
          omega
    obtain ⟨xs, hl, hr, hw⟩ := build len (Nat.le_refl _)
    rw [List.take_of_length_le (by omega)] at hw
    have hsum : uptoBulkAll (elems.map (·.1)) + 1 ≤ uptoBulk (DataW.slice (elems.map (·.1)) (rest.map (·.1))) := by simp only [uptoBulk]; omega
    have hlen2 := bulkAll_len (elems.map (·.1))
    refine ⟨xs, ⟨⟨some a, a.block, a.off, cap, by rw [hl], fun hp => ?_, hr⟩, (fun n q e => by cases e), (fun a' n q e => by cases e; exact hlc)⟩, by simp at hlen2; simp only; omega, by simp only; omega⟩
    obtain ⟨_, _, _, _, _, hs⟩ := key 0 (by omega)
    obtain ⟨bb, oo, ss⟩ := a
    simp only at hs
    subst hs
    rfl

theorem open_i64 {fuel : Nat} {c : Value} {y : DataW H × List MemPlace} (h : DataW.trod enc Tryz.prog w 0 sp held fuel 3 [c] = some y) : ∃ n, c = .int .i64 n ∧ I64 n := by
  obtain ⟨n, hc, _, hw⟩ := DataW.trod_int Tryz.underlying3 h
  cases hc
  simp only [Lit.wf, Bool.and_eq_true, decide_eq_true_eq] at hw
  exact ⟨n, rfl, hw⟩

theorem open_str {fuel : Nat} {c : Value} {y : DataW H × List MemPlace} (h : DataW.trod enc Tryz.prog w 0 sp held fuel 9 [c] = some y) : ∃ l : List UInt8, c = .string (bs l) ∧ uptoBulk y.1 = l.length + 1 := by
  obtain ⟨s, hs, e0, _⟩ := DataW.trod_string Tryz.underlying9 h
  cases hs
  refine ⟨s.data.toList, by rw [show bs s.data.toList = s by simp [bs]], ?_⟩
  rw [e0]
  rfl
/-- what a member weighs -/
def pcWt (p : Pc) : Nat := p.data.length + 1
def mbWt (m : Mb) : Nat := m.path.length + m.link.length + (m.pieces.map pcWt).sum
theorem open_pc {fuel b o : Nat} {cs : List Value} {y : DataW H × List MemPlace} (hl : cs.length = 2) (hc : ∀ i, i < 2 → w.cell? ⟨b, o + i, none⟩ = cs[i]?) (h : DataW.trod enc Tryz.prog w 0 sp held fuel 62 cs = some y) : ∃ x, RPc w b o x ∧ pcWt x ≤ uptoBulk y.1 := by
  obtain ⟨ys, n, _, hy, _, hys, hf⟩ := DataW.trod_struct Tryz.underlying62 h
  match cs, hl, ys, hys with
  | [k0, k1], _, [y0, y1], _ =>
    obtain ⟨a0, rfl, w0⟩ := open_i64 (by simpa [c3] using hf 0 _ rfl)
    obtain ⟨l1, rfl, b1⟩ := open_str (show DataW.trod enc Tryz.prog w 0 sp held n 9 [k1] = some y1 by simpa [c9] using hf 1 _ rfl)
    refine ⟨⟨a0, l1⟩, ⟨hc 0 (by omega), hc 1 (by omega), w0⟩, ?_⟩
    subst hy
    simp only [pcWt, uptoBulk, uptoBulkAll, List.map_cons, List.map_nil]
    omega
theorem open_mb {fuel b o : Nat} {cs : List Value} {y : DataW H × List MemPlace} (hl : cs.length = 5) (hc : ∀ i, i < 5 → w.cell? ⟨b, o + i, none⟩ = cs[i]?) (h : DataW.trod enc Tryz.prog w 0 sp held fuel 58 cs = some y) : ∃ x, RMbN w b o x ∧ mbWt x ≤ uptoBulk y.1 := by
  obtain ⟨ys, n, _, hy, _, hys, hf⟩ := DataW.trod_struct Tryz.underlying58 h
  match cs, hl, ys, hys with
  | [k0, k1, k2, k3, k4], _, [y0, y1, y2, y3, y4], _ =>
    obtain ⟨a0, rfl, w0⟩ := open_i64 (by simpa [c3] using hf 0 _ rfl)
    obtain ⟨l1, rfl, b1⟩ := open_str (show DataW.trod enc Tryz.prog w 0 sp held n 9 [k1] = some y1 by simpa [c9] using hf 1 _ rfl)
    obtain ⟨l2, rfl, b2⟩ := open_str (show DataW.trod enc Tryz.prog w 0 sp held n 9 [k2] = some y2 by simpa [c9] using hf 2 _ rfl)
    obtain ⟨a3, rfl, w3⟩ := open_i64 (by simpa [c3] using hf 3 _ rfl)
    obtain ⟨l4, ⟨s4, n4, _⟩, b4, b4'⟩ := open_sl (R := RPc) pcWt Tryz.underlying56 c82 (by omega) (fun _ _ _ _ _ => open_pc) (show DataW.trod enc Tryz.prog w 0 sp held n 56 [k4] = some y4 by simpa [c49] using hf 4 _ rfl)
    refine ⟨⟨a0, l1, l2, a3, l4⟩, ⟨k4, hc 0 (by omega), hc 1 (by omega), hc 2 (by omega), hc 3 (by omega), hc 4 (by omega), ⟨s4, w0, w3⟩, n4⟩, ?_⟩
    subst hy
    simp only [mbWt, uptoBulk, uptoBulkAll, List.map_cons, List.map_nil]
    omega
theorem sum_mem {α : Type} (f : α → Nat) {l : List α} {x : α} (h : x ∈ l) : f x ≤ (l.map f).sum := by
  induction l with
  | nil => cases h
  | cons a l ih =>
    rw [List.map_cons, List.sum_cons]
    rcases List.mem_cons.1 h with rfl | h
    · omega
    · have := ih h; omega
theorem len_sum (l : List Pc) : l.length ≤ (l.map pcWt).sum := by
  induction l with
  | nil => simp
  | cons a l ih => rw [List.map_cons, List.sum_cons, List.length_cons]; unfold pcWt at *; omega
theorem open_list {fuel : Nat} {c : Value} {y : DataW H × List MemPlace} (h : DataW.trod enc Tryz.prog w 0 sp held fuel 33 [c] = some y) (hk : uptoBulk y.1 ≤ 1048576) : ∃ l, ArgL w c l := by
  obtain ⟨l, ⟨hs, hn, hc⟩, b1, b2⟩ := open_sl (R := RMbN) mbWt Tryz.underlying33 c51 (by omega) (fun _ _ _ _ _ => open_mb) h
  refine ⟨l, hs, hn, hc, by omega, fun m hm => ?_⟩
  have h1 := sum_mem mbWt hm
  have h2 := len_sum m.pieces
  have h3 : mbWt m ≤ 1048576 := by omega
  unfold mbWt at h3
  refine ⟨by omega, by omega, by omega, fun p hp => ?_⟩
  have h4 := sum_mem pcWt hp
  unfold pcWt at h4 h3
  omega
end
end Go.Proofs.YtlecpjfggoehdaaGreatDoor.Ar
