
/- Archive, the law's own: twin. -/
import Derived.Test.YtlecpjfggoehdaaGreatDoorArTw
set_option linter.unusedVariables false
set_option linter.unusedSimpArgs false
set_option maxRecDepth 100000
namespace Go.Proofs.YtlecpjfggoehdaaGreatDoor.Ar
open Go.RowKit Go.Sort Go.Lib Go.Proofs.YtlecpjfggoehdaaGreatDoor.Rs

section
variable {P : Program} {ops : Array Oper} {rest : List Oper} {o : Oper} {a : Act} {Q : Exit → Act → World → Prop} {w : World} {base n : Nat} {v : Value} {xs : List Value}
/-- append(b, c...) of many cells to a row of one's own, from a source that may be nil -/
theorem wpl_many (t e : TypeId) (i : TypeInfo) (z : Value) (size bytes : Nat) (ht : Tryz.prog.underlying t = some (.slice e)) (hi : Tryz.prog.info? e = some i) (hz : i.zero = some z) (hsize : i.size = size) (hby : i.bytes = bytes) (hzs : z.cells.size = size) (hsz : 0 < size)
    (hown : w.ownsRow base e size v n xs) (hgd : o.guard = none) (s x : Operand) (ho : o.op = .call { callee := .builtin .append, args := #[s, x], argTypes := #[t, t] })
    (hs : a.eval s = v) (vs : Value) (hx : a.eval x = vs) (news : List Value) (m : Nat) (hl : news.length = m * size) (hnil : NilOk vs) (hv : ∃ ad c, vs = .slice ad m c ∧ (0 < m → ∃ g off, ad = some ⟨g, off, none⟩ ∧ ∀ j u, news[j]? = some u → w.cell? ⟨g, off + j, none⟩ = some u))
    (h1 : ∀ u ∈ news, u.oneCell' = true) (hbase : base ≤ w.heap.size) (hn : (n + m) * bytes ≤ 140737488355328) (hb0 : 0 < bytes)
    (h : ∀ v' w', w'.ownsRow base e size v' (n + m) (xs ++ news) → w.grownBy w' v.ownBlock → (v'.ownBlock = v.ownBlock ∨ v'.ownBlock = some w.heap.size) → wpList Tryz.prog ops Q rest (a.put o.dst v') w') : wpList Tryz.prog ops Q (o :: rest) a w := by
  obtain ⟨ad, c, rfl, hv⟩ := hv
  have hbig : n + m ≤ 140737488355328 := Nat.le_trans (Nat.le_mul_of_pos_right _ hb0) hn
  cases ad with
  | none =>
    obtain ⟨rfl, rfl⟩ := hnil m c rfl
    have : news = [] := List.eq_nil_of_length_eq_zero (by rw [hl, Nat.zero_mul])
    subst this
    refine wpList_append_own_none hgd s x t ho base e i size ht hi v n xs hs hown hx (h v w (by simpa using hown) ⟨rfl, rfl, rfl, Nat.le_refl _, fun _ _ _ => rfl⟩ (.inl rfl))
  | some ad =>
    refine wpList_append_own_at (w := w) hgd s x t ho base e i z size bytes ht hi hz hsize hby hzs hsz v n xs hs hown ad m c news hx hl (fun j u hj => ?_) h1 (by simp only [maxLen]; omega) hn hbase (fun v' w' h1 h2 _ h4 => h v' w' h1 h2 h4)
    have hm : 0 < m := by
      rcases Nat.eq_zero_or_pos m with h0 | h0
      · subst h0; rw [Nat.zero_mul] at hl; rw [List.eq_nil_of_length_eq_zero hl] at hj; simp at hj
      · exact h0
    obtain ⟨g, off, e, hc⟩ := hv hm
    cases e
    have := hc j u hj
    unfold Addr.add
    split
    · rename_i h0; subst h0; simpa using this
    · simpa using this
end

/-- the pieces of the first k members have rows of their own, each behind the one ahead -/
structure TwinS (w0 : World) (base : Nat) (wr : World) (v : Value) (l : List Mb) (k : Nat) (L : List MV) : Prop where
  fst : L.map (·.1) = l
  row : OwnM base wr v L
  own : ∀ j x, j < k → L[j]? = some x → OwnP base wr x.2 x.1.pieces ∧ ∃ g, x.2.ownBlock = some g
  inc : ∀ i j x y gi gj, i < j → j < k → L[i]? = some x → L[j]? = some y → x.2.ownBlock = some gi → y.2.ownBlock = some gj → gi < gj
  sl : ∀ x ∈ L, IsSl x.2
  num : ∀ m ∈ l, I64 m.kind ∧ I64 m.size ∧ ∀ p ∈ m.pieces, I64 p.off
  len : l.length ≤ 1048576
  pcs : ∀ m ∈ l, m.pieces.length ≤ 1048576
theorem own_isSl {w : World} {base e size n : Nat} {v : Value} {xs : List Value} (h : w.ownsRow base e size v n xs) : IsSl v := by
  rcases h.2 with ⟨rfl, _⟩ | ⟨g, cap, cur, rfl, _⟩
  · exact ⟨_, _, _, rfl⟩
  · exact ⟨_, _, _, rfl⟩
/-- one member's pieces get a row of their own -/
theorem TwinS.step {w0 wr w2 : World} {base g c : Nat} {l : List Mb} {k n : Nat} {L : List MV} {x : MV} {v' : Value} (h : TwinS w0 base wr (.slice (some ⟨g, 0, none⟩) n c) l k L) (hx : L[k]? = some x)
    (hb : Below wr.heap.size wr w2) (ho : OwnP base w2 v' x.1.pieces) (hg : ∃ q, v'.ownBlock = some q ∧ wr.heap.size ≤ q) :
    TwinS w0 base (w2.setCell ⟨g, k * 5 + 4, none⟩ v') (.slice (some ⟨g, 0, none⟩) n c) l (k + 1) (L.set k (x.1, v')) := by
  obtain ⟨q, hq, hq2⟩ := hg
  have hgl : g < wr.heap.size := (h.row.lt g rfl).2
  have hkl : k < L.length := (List.getElem?_eq_some_iff.1 hx).1
  have hn : n = L.length := by
    rcases h.row.2 with ⟨e, _⟩ | ⟨g', cap, cur, e, _⟩
    · cases e
    · cases e; rfl
  subst hn
  have hrow2 : OwnM base w2 (.slice (some ⟨g, 0, none⟩) L.length c) L := own_keep h.row (fun k' e => by cases e; exact hb.block g hgl)
  have hkeep : ∀ u, u ≠ g → (w2.setCell ⟨g, k * 5 + 4, none⟩ v').heap[u]? = w2.heap[u]? := fun u hu => Below.heap_setCell w2 ⟨g, k * 5 + 4, none⟩ v' u hu
  have hown' : ∀ j y, j < k + 1 → (L.set k (x.1, v'))[j]? = some y → OwnP base (w2.setCell ⟨g, k * 5 + 4, none⟩ v') y.2 y.1.pieces ∧ ∃ g, y.2.ownBlock = some g := by
    intro j y hj hy
    by_cases e : j = k
    · subst e
      rw [List.getElem?_set_self hkl] at hy
      cases hy
      exact ⟨own_keep ho (fun u hu => hkeep u (by have := own_apart ho hrow2 (by decide) hu; intro e; subst e; exact this rfl)), q, hq⟩
    · rw [List.getElem?_set_ne (Ne.symm e)] at hy
      obtain ⟨h1, h2⟩ := h.own j y (by omega) hy
      refine ⟨own_keep h1 (fun u hu => ?_), h2⟩
      have hlt := (h1.lt u hu).2
      have hne : u ≠ g := by have := own_apart h1 h.row (by decide) hu; intro e; subst e; exact this rfl
      exact (hkeep u hne).trans (hb.block u hlt)
  refine ⟨?_, ?_, hown', ?_, ?_, h.num, h.len, h.pcs⟩
  · rw [← h.fst, List.map_set]
    have : (L.map (·.1))[k]? = some x.1 := by rw [List.getElem?_map, hx]; rfl
    apply List.ext_getElem?
    intro q
    by_cases e : k = q
    · subst e; rw [List.getElem?_set_self (by simpa using hkl), this]
    · rw [List.getElem?_set_ne e]
  · have := (hrow2.stored (k * 5 + 4) v').1
    rw [mvCells_set hx] at this
    have e : (L.set k (x.1, v')).length = L.length := List.length_set
    show World.ownsRow _ _ _ _ _ (L.set k (x.1, v')).length _
    rw [e]
    exact this
  · intro i j y z gi gj hij hjk hy hz hgi hgj
    have hik : i ≠ k := by omega
    rw [List.getElem?_set_ne (Ne.symm hik)] at hy
    by_cases e : j = k
    · subst e
      rw [List.getElem?_set_self hkl] at hz
      cases hz
      rw [hq] at hgj
      cases hgj
      obtain ⟨h1, _⟩ := h.own i y (by omega) hy
      have := (h1.lt gi hgi).2
      omega
    · rw [List.getElem?_set_ne (Ne.symm e)] at hz
      exact h.inc i j y z gi gj hij (by omega) hy hz hgi hgj
  · intro y hy
    rcases List.mem_or_eq_of_mem_set hy with hy | rfl
    · exact h.sl y hy
    · exact own_isSl ho

theorem mv_of {w : World} {b : Nat} : ∀ (l : List Mb) (o : Nat), (∀ j x, l[j]? = some x → RMbN w b (o + j * 5) x) → ∃ L : List MV, L.map (·.1) = l ∧ (∀ j u, (mvCells L)[j]? = some u → w.cell? ⟨b, o + j, none⟩ = some u) ∧ ∀ x ∈ L, MbV w x.1 x.2 ∧ NilOk x.2
  | [], o, _ => ⟨[], rfl, fun j u h => by simp [mvCells] at h, fun x hx => by cases hx⟩
  | m :: l, o, h => by
    obtain ⟨vp, h0, h1, h2, h3, h4, h5, h6⟩ := h 0 m rfl
    obtain ⟨L, hL, hc, ha⟩ := mv_of l (o + 5) (fun j x hj => by have := h (j + 1) x (by simpa using hj); rwa [show o + (j + 1) * 5 = o + 5 + j * 5 by omega] at this)
    refine ⟨(m, vp) :: L, by simp [hL], fun j u hj => ?_, fun x hx => ?_⟩
    · have e : mvCells ((m, vp) :: L) = mvRow (m, vp) ++ mvCells L := by simp [mvCells]
      rw [e] at hj
      by_cases h5' : j < 5
      · rw [List.getElem?_append_left (by rw [mvRow_len]; exact h5')] at hj
        rw [Nat.zero_mul, Nat.add_zero] at h0 h1 h2 h3 h4
        match j, h5', hj with
        | 0, _, hj => cases hj; exact h0
        | 1, _, hj => cases hj; exact h1
        | 2, _, hj => cases hj; exact h2
        | 3, _, hj => cases hj; exact h3
        | 4, _, hj => cases hj; exact h4
      · rw [List.getElem?_append_right (by rw [mvRow_len]; omega), mvRow_len] at hj
        have := hc (j - 5) u hj
        rwa [show o + 5 + (j - 5) = o + j by omega] at this
    · rcases List.mem_cons.1 hx with rfl | hx
      · exact ⟨h5, h6⟩
      · exact ha x hx
theorem pc_of {w : World} {v : Value} {ps : List Pc} (h : Sl RPc 2 w v ps) : (∃ ad c, v = .slice ad ps.length c ∧ (0 < ps.length → ∃ g off, ad = some ⟨g, off, none⟩ ∧ ∀ j u, (pcCells ps)[j]? = some u → w.cell? ⟨g, off + j, none⟩ = some u)) ∧ ∀ p ∈ ps, I64 p.off := by
  obtain ⟨a, b, o, c, e, ha, hc⟩ := h
  refine ⟨⟨a, c, e, fun h0 => ⟨b, o, ha h0, fun j u hj => ?_⟩⟩, fun p hp => ?_⟩
  · obtain ⟨x, hx, hu⟩ := flat_cover pcRow 2 (by omega) pcRow_len ps j u hj
    obtain ⟨h0, h1, _⟩ := hc (j / 2) x hx
    have hd := Nat.div_add_mod j 2
    have hm := Nat.mod_lt j (show 0 < 2 by omega)
    rcases (by omega : j % 2 = 0 ∨ j % 2 = 1) with e | e
    · rw [e] at hu hd; cases hu; rw [show o + j = o + j / 2 * 2 by omega]; exact h0
    · rw [e] at hu hd; cases hu; rw [show o + j = o + j / 2 * 2 + 1 by omega]; exact h1
  · obtain ⟨j, hj⟩ := List.getElem?_of_mem hp
    exact (hc j p hj).2.2

end Go.Proofs.YtlecpjfggoehdaaGreatDoor.Ar
