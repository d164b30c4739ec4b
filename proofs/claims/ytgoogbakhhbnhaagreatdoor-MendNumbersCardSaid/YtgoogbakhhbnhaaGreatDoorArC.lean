
/- Archive: half, four bytes behind a row. -/
import Derived.Test.YtgoogbakhhbnhaaGreatDoorArB
import Derived.Maps.AppendAt
set_option linter.unusedVariables false
set_option linter.unusedSimpArgs false
namespace Go.Proofs.YtgoogbakhhbnhaaGreatDoor.Ar
open Go.RowKit Go.Sort Go.Lib

theorem own_cells {w : World} {base : Nat} {e : TypeId} {n : Nat} {v : Value} {xs : List Value} (h : w.ownsRow base e 1 v n xs) (hn : 0 < n) : ∃ g c, v = .slice (some ⟨g, 0, none⟩) n c ∧ base ≤ g ∧ n ≤ c ∧ ∀ j u, xs[j]? = some u → w.cell? ⟨g, j, none⟩ = some u := by
  rcases h.2 with ⟨_, h0⟩ | ⟨g, cap, cur, rfl, hb, hh, hc, _⟩
  · omega
  · refine ⟨g, cap, rfl, hb, hc, fun j u hj => ?_⟩
    have := h.cells (g := g) rfl j u hj
    rwa [add0] at this

/-- Apart from the row that was grown, what was there is as it was, and the new row lies apart from it. -/
def Grew (w w' : World) (v v' : Value) : Prop := ∀ B, B < w.heap.size → v.ownBlock ≠ some B → w'.heap[B]? = w.heap[B]? ∧ v'.ownBlock ≠ some B
section
variable {ops : Array Oper} {rest : List Oper} {o : Oper} {a : Act} {Q : Exit → Act → World → Prop} {w : World} {base n : Nat} {v : Value} {xs : List Value}
/-- append(b, c...) of bytes to a row of one's own -/
theorem wpl_app (hown : w.ownsRow base 5 1 v n xs) (hgd : o.guard = none) (s x : Operand) (ho : o.op = .call { callee := .builtin .append, args := #[s, x], argTypes := #[23, 23] })
    (hs : a.eval s = v) (g off m c : Nat) (hx : a.eval x = .slice (some ⟨g, off, none⟩) m c) (news : List UInt8) (hl : news.length = m) (hc : ∀ j b, news[j]? = some b → w.cell? ⟨g, off + j, none⟩ = some (byteV b))
    (hbase : base ≤ w.heap.size) (hn : n + m ≤ 140737488355328)
    (h : ∀ v' w', w'.ownsRow base 5 1 v' (n + m) (xs ++ news.map byteV) → Below base w w' → wpList Tryz.prog ops Q rest (a.put o.dst v') w') : wpList Tryz.prog ops Q (o :: rest) a w := by
  obtain ⟨i0, hi, hz0, hz1, hz2⟩ := info_parts info5
  refine wpList_append_own w hgd s x 23 ho base 5 i0 (.int .u8 0) 1 1 Tryz.underlying23 hi hz0 hz1 hz2 rfl (by decide) v n xs hs hown ⟨g, off, none⟩ m c (news.map byteV) hx (by simp [hl]) (fun j u hj => ?_) (one_bytes _) (by simp only [maxLen]; omega) (by omega) hbase (fun v' w' h1 h2 _ => h v' w' h1 (below_grown hown h2 (Nat.le_refl _) hbase))
  have e : (⟨g, off, none⟩ : Addr).add j = ⟨g, off + j, none⟩ := by unfold Addr.add; split <;> simp_all
  rw [List.getElem?_map, Option.map_eq_some_iff] at hj
  obtain ⟨b, hb, rfl⟩ := hj
  rw [e, hc j b hb]
theorem wpl_appG (hown : w.ownsRow base 5 1 v n xs) (hgd : o.guard = none) (s x : Operand) (ho : o.op = .call { callee := .builtin .append, args := #[s, x], argTypes := #[23, 23] })
    (hs : a.eval s = v) (g off m c : Nat) (hx : a.eval x = .slice (some ⟨g, off, none⟩) m c) (news : List UInt8) (hl : news.length = m) (hc : ∀ j b, news[j]? = some b → w.cell? ⟨g, off + j, none⟩ = some (byteV b))
    (hbase : base ≤ w.heap.size) (hn : n + m ≤ 140737488355328)
    (h : ∀ v' w', w'.ownsRow base 5 1 v' (n + m) (xs ++ news.map byteV) → Below base w w' → Grew w w' v v' → wpList Tryz.prog ops Q rest (a.put o.dst v') w') : wpList Tryz.prog ops Q (o :: rest) a w := by
  obtain ⟨i0, hi, hz0, hz1, hz2⟩ := info_parts info5
  refine wpList_append_own_at w hgd s x 23 ho base 5 i0 (.int .u8 0) 1 1 Tryz.underlying23 hi hz0 hz1 hz2 rfl (by decide) v n xs hs hown ⟨g, off, none⟩ m c (news.map byteV) hx (by simp [hl]) (fun j u hj => ?_) (one_bytes _) (by simp only [maxLen]; omega) (by omega) hbase (fun v' w' h1 h2 _ h4 => h v' w' h1 (below_grown hown h2 (Nat.le_refl _) hbase) (fun B hB hne => ⟨h2.block B hB (fun e => hne e.symm), fun e => ?_⟩))
  · have e : (⟨g, off, none⟩ : Addr).add j = ⟨g, off + j, none⟩ := by unfold Addr.add; split <;> simp_all
    rw [List.getElem?_map, Option.map_eq_some_iff] at hj
    obtain ⟨b, hb, rfl⟩ := hj
    rw [e, hc j b hb]
  · rcases h4 with h4 | h4
    · exact hne (h4.symm.trans e)
    · rw [h4] at e; cases e; omega
/-- append(b, s...) of a text -/
theorem wpl_apps (hown : w.ownsRow base 5 1 v n xs) (hgd : o.guard = none) (s x : Operand) (ho : o.op = .call { callee := .builtin .append, args := #[s, x], argTypes := #[23, 9] })
    (hs : a.eval s = v) (l : List UInt8) (hx : a.eval x = .string (bs l)) (hbase : base ≤ w.heap.size) (hn : n + l.length ≤ 140737488355328)
    (h : ∀ v' w', w'.ownsRow base 5 1 v' (n + l.length) (xs ++ l.map byteV) → Below base w w' → wpList Tryz.prog ops Q rest (a.put o.dst v') w') : wpList Tryz.prog ops Q (o :: rest) a w := by
  obtain ⟨i0, hi, hz0, hz1, hz2⟩ := info_parts info5
  refine wpList_append_own_string (w := w) hgd s x 23 9 ho base 5 i0 Tryz.underlying23 Tryz.underlying9 hi hz0 hz1 hz2 v n xs hs hown (bs l) hx (by rw [bs_size]; simp only [maxLen]; omega) (by rw [bs_size]; omega) hbase (fun v' w' h1 h2 _ => h v' w' ?_ (below_grown hown h2 (Nat.le_refl _) hbase))
  have e : strCells (bs l) = l.map byteV := by simp only [strCells, bs]; rfl
  rw [bs_size, e] at h1
  exact h1
end

theorem byteAt_mod (x : Int) (i : Nat) (hi : i < 8) : byteAt (x % 18446744073709551616) i = byteAt x i := by
  unfold byteAt
  congr 2
  rcases (by omega : i = 0 ∨ i = 1 ∨ i = 2 ∨ i = 3 ∨ i = 4 ∨ i = 5 ∨ i = 6 ∨ i = 7) with rfl | rfl | rfl | rfl | rfl | rfl | rfl | rfl <;> simp only [Nat.mul_zero, Nat.mul_one, Nat.reduceMul, Int.reducePow] <;> omega

end Go.Proofs.YtgoogbakhhbnhaaGreatDoor.Ar
