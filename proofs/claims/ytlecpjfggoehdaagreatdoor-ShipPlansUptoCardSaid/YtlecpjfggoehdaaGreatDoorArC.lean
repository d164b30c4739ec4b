
/- Archive: half, four bytes behind a row. -/
import Derived.Test.YtlecpjfggoehdaaGreatDoorArB
import Derived.Maps.AppendAt
set_option linter.unusedVariables false
set_option linter.unusedSimpArgs false
namespace Go.Proofs.YtlecpjfggoehdaaGreatDoor.Ar
open Go.RowKit Go.Sort Go.Lib

theorem own_cells {w : World} {base : Nat} {e : TypeId} {n : Nat} {v : Value} {xs : List Value} (h : w.ownsRow base e 1 v n xs) (hn : 0 < n) : ∃ g c, v = .slice (some ⟨g, 0, none⟩) n c ∧ base ≤ g ∧ n ≤ c ∧ ∀ j u, xs[j]? = some u → w.cell? ⟨g, j, none⟩ = some u := by
  rcases h.2 with ⟨_, h0⟩ | ⟨g, cap, cur, rfl, hb, hh, hc, _⟩
  · omega
  · refine ⟨g, cap, rfl, hb, hc, fun j u hj => ?_⟩
    have := h.cells (g := g) rfl j u hj
    rwa [add0] at this

/-- Apart from the row that was grown, what was there is as it was, and the new row lies apart from it. -/
def Grew (w w' : World) (v v' : Value) : Prop := ∀ B, B < w.heap.size → v.ownBlock ≠ some B → w'.heap[B]? = w.heap[B]? ∧ v'.ownBlock ≠ some B
section
variable {ops : Array Oper} {rest : List Oper} {o : Oper} {a : Act} {Q : Exit → Act → World → Prop} {w : World} {base n : Nat} {v : Value} {xs : List Value}
/-- append(b, c...) of bytes to a row of one's own -/
theorem wpl_app (hown : w.ownsRow base 5 1 v n xs) (hgd : o.guard = none) (s x : Operand) (ho : o.op = .call { callee := .builtin .append, args := #[s, x], argTypes := #[22, 22] })
    (hs : a.eval s = v) (g off m c : Nat) (hx : a.eval x = .slice (some ⟨g, off, none⟩) m c) (news : List UInt8) (hl : news.length = m) (hc : ∀ j b, news[j]? = some b → w.cell? ⟨g, off + j, none⟩ = some (byteV b))
    (hbase : base ≤ w.heap.size) (hn : n + m ≤ 140737488355328)
    (h : ∀ v' w', w'.ownsRow base 5 1 v' (n + m) (xs ++ news.map byteV) → Below base w w' → wpList Tryz.prog ops Q rest (a.put o.dst v') w') : wpList Tryz.prog ops Q (o :: rest) a w := by
  obtain ⟨i0, hi, hz0, hz1, hz2⟩ := info_parts info5
  refine wpList_append_own w hgd s x 22 ho base 5 i0 (.int .u8 0) 1 1 Tryz.underlying22 hi hz0 hz1 hz2 rfl (by decide) v n xs hs hown ⟨g, off, none⟩ m c (news.map byteV) hx (by simp [hl]) (fun j u hj => ?_) (one_bytes _) (by simp only [maxLen]; omega) (by omega) hbase (fun v' w' h1 h2 _ => h v' w' h1 (below_grown hown h2 (Nat.le_refl _) hbase))
  have e : (⟨g, off, none⟩ : Addr).add j = ⟨g, off + j, none⟩ := by unfold Addr.add; split <;> simp_all
  rw [List.getElem?_map, Option.map_eq_some_iff] at hj
  obtain ⟨b, hb, rfl⟩ := hj
  rw [e, hc j b hb]
theorem wpl_appG (hown : w.ownsRow base 5 1 v n xs) (hgd : o.guard = none) (s x : Operand) (ho : o.op = .call { callee := .builtin .append, args := #[s, x], argTypes := #[22, 22] })
    (hs : a.eval s = v) (g off m c : Nat) (hx : a.eval x = .slice (some ⟨g, off, none⟩) m c) (news : List UInt8) (hl : news.length = m) (hc : ∀ j b, news[j]? = some b → w.cell? ⟨g, off + j, none⟩ = some (byteV b))
    (hbase : base ≤ w.heap.size) (hn : n + m ≤ 140737488355328)
    (h : ∀ v' w', w'.ownsRow base 5 1 v' (n + m) (xs ++ news.map byteV) → Below base w w' → Grew w w' v v' → wpList Tryz.prog ops Q rest (a.put o.dst v') w') : wpList Tryz.prog ops Q (o :: rest) a w := by
  obtain ⟨i0, hi, hz0, hz1, hz2⟩ := info_parts info5
  refine wpList_append_own_at w hgd s x 22 ho base 5 i0 (.int .u8 0) 1 1 Tryz.underlying22 hi hz0 hz1 hz2 rfl (by decide) v n xs hs hown ⟨g, off, none⟩ m c (news.map byteV) hx (by simp [hl]) (fun j u hj => ?_) (one_bytes _) (by simp only [maxLen]; omega) (by omega) hbase (fun v' w' h1 h2 _ h4 => h v' w' h1 (below_grown hown h2 (Nat.le_refl _) hbase) (fun B hB hne => ⟨h2.block B hB (fun e => hne e.symm), fun e => ?_⟩))
  · have e : (⟨g, off, none⟩ : Addr).add j = ⟨g, off + j, none⟩ := by unfold Addr.add; split <;> simp_all
    rw [List.getElem?_map, Option.map_eq_some_iff] at hj
    obtain ⟨b, hb, rfl⟩ := hj
    rw [e, hc j b hb]
  · rcases h4 with h4 | h4
    · exact hne (h4.symm.trans e)
    · rw [h4] at e; cases e; omega
/-- append(b, s...) of a text -/
theorem wpl_apps (hown : w.ownsRow base 5 1 v n xs) (hgd : o.guard = none) (s x : Operand) (ho : o.op = .call { callee := .builtin .append, args := #[s, x], argTypes := #[22, 9] })
    (hs : a.eval s = v) (l : List UInt8) (hx : a.eval x = .string (bs l)) (hbase : base ≤ w.heap.size) (hn : n + l.length ≤ 140737488355328)
    (h : ∀ v' w', w'.ownsRow base 5 1 v' (n + l.length) (xs ++ l.map byteV) → Below base w w' → wpList Tryz.prog ops Q rest (a.put o.dst v') w') : wpList Tryz.prog ops Q (o :: rest) a w := by
  obtain ⟨i0, hi, hz0, hz1, hz2⟩ := info_parts info5
  refine wpList_append_own_string (w := w) hgd s x 22 9 ho base 5 i0 Tryz.underlying22 Tryz.underlying9 hi hz0 hz1 hz2 v n xs hs hown (bs l) hx (by rw [bs_size]; simp only [maxLen]; omega) (by rw [bs_size]; omega) hbase (fun v' w' h1 h2 _ => h v' w' ?_ (below_grown hown h2 (Nat.le_refl _) hbase))
  have e : strCells (bs l) = l.map byteV := by simp only [strCells, bs]; rfl
  rw [bs_size, e] at h1
  exact h1
end

theorem byteAt_mod (x : Int) (i : Nat) (hi : i < 8) : byteAt (x % 18446744073709551616) i = byteAt x i := by
  unfold byteAt
  congr 2
  rcases (by omega : i = 0 ∨ i = 1 ∨ i = 2 ∨ i = 3 ∨ i = 4 ∨ i = 5 ∨ i = 6 ∨ i = 7) with rfl | rfl | rfl | rfl | rfl | rfl | rfl | rfl <;> simp only [Nat.mul_zero, Nat.mul_one, Nat.reduceMul, Int.reducePow] <;> omega

set_option maxHeartbeats 1000000 in
set_option maxRecDepth 100000 in
theorem call_half (base n : Nat) (v : Value) (xs : List Value) (x : Int) (w : World) (ho : w.ownsRow base 5 1 v n xs) (hbase : base ≤ w.heap.size) (hn : n ≤ 100000000000000) :
    Calls Tryz.prog 20 #[v, .int .i64 x] w fun e w' => ∃ v', e = .returned v' ∧ w'.ownsRow base 5 1 v' (n + 4) (xs ++ (halfB x).map byteV) ∧ Below base w w' ∧ Grew w w' v v' := by
  have HO := Lib.hid ho
  clear ho
  obtain ⟨i0, hi, hz0, hz1, hz2⟩ := info_parts info5
  have y2 : IntKind.u64.wrap x = x % 18446744073709551616 := by first | rfl | simp [IntKind.wrap]
  have y0 : 0 ≤ IntKind.u64.wrap x := by rw [y2]; omega
  have y1 : IntKind.u64.wrap x < 18446744073709551616 := by rw [y2]; omega
  have Y0 := Lib.hid y0
  have Y1 := Lib.hid y1
  have Y2 := Lib.hid y2
  clear y0 y1 y2
  have C0 := Lib.hid ((Row.new w 96 [.int .u64 (IntKind.u64.wrap x)]).cell 0)
  go_enter Tryz.func20, Tryz.ntmps20
  go_wp2_with (first | (go_at_call 40; refine (call_bytes1 _ _ _ _ Y0.out Y1.out _ C0.out).mono ?_; rintro e w1 ⟨v1, rfl, ho1, hb1⟩; obtain ⟨g1, c1, rfl, hg1, hc1, hcell⟩ := own_cells ho1 (by omega); clear ho1; have HB1 := Lib.hid ((below_alloc1 w (.cells #[.int .u64 (IntKind.u64.wrap x)] 96)).trans (hb1.mono (by rw [alloc_size]; omega))); have HC1 := Lib.hid hcell; have HO1 := Lib.hid (own_below HO.out HB1.out); clear hb1 hcell) | refine wpl_appG HO1.out rfl _ _ rfl rfl g1 0 4 c1 rfl (halfB x) rfl ?c1 ?c2 ?c3 ?c4)
  case c1 =>
    intro j b hj
    rw [Nat.zero_add]
    apply HC1.out
    rw [List.getElem?_map, Y2.out]
    have hj4 : j < 4 := by have := (List.getElem?_eq_some_iff.1 hj).1; simpa [halfB] using this
    match j, hj4 with
    | 0, _ | 1, _ | 2, _ | 3, _ =>
      cases hj
      simp [wordB, byteAt_mod]
  case c2 => have := HB1.out.size; omega
  case c3 => omega
  intro v' w' h1 h2 h3
  have H3 : Hid (Grew w w' v v') := fun B hB hne => (by have := HB1.out.size; have h4 := h3 B (by omega) hne; exact ⟨h4.1.trans (HB1.out.block B hB), h4.2⟩)
  clear h3
  have H1 := Lib.hid h1
  have H2 := Lib.hid ((HB1.out.mono hbase).trans h2)
  clear h1 h2
  go_wp2
  go_ret
  exact ⟨_, rfl, H1.out, H2.out, H3.out⟩
end Go.Proofs.YtlecpjfggoehdaaGreatDoor.Ar
