/- Archive, the law's own: twin. -/
import Derived.Test.YtlecpjfggoehdaaDoorArTw
set_option linter.unusedVariables false
set_option linter.unusedSimpArgs false
set_option maxRecDepth 100000
namespace Go.Proofs.YtlecpjfggoehdaaDoor.Ar
open Go.RowKit Go.Sort Go.Lib Go.Proofs.YtlecpjfggoehdaaDoor.Rs

section
variable {P : Program} {ops : Array Oper} {rest : List Oper} {o : Oper} {a : Act} {Q : Exit → Act → World → Prop} {w : World} {base n : Nat} {v : Value} {xs : List Value}
/-- append(b, c...) of many cells to a row of one's own, from a source that may be nil -/
theorem wpl_many (t e : TypeId) (i : TypeInfo) (z : Value) (size bytes : Nat) (ht : Tryd.prog.underlying t = some (.slice e)) (hi : Tryd.prog.info? e = some i) (hz : i.zero = some z) (hsize : i.size = size) (hby : i.bytes = bytes) (hzs : z.cells.size = size) (hsz : 0 < size)
    (hown : w.ownsRow base e size v n xs) (hgd : o.guard = none) (s x : Operand) (ho : o.op = .call { callee := .builtin .append, args := #[s, x], argTypes := #[t, t] })
    (hs : a.eval s = v) (vs : Value) (hx : a.eval x = vs) (news : List Value) (m : Nat) (hl : news.length = m * size) (hnil : NilOk vs) (hv : ∃ ad c, vs = .slice ad m c ∧ (0 < m → ∃ g off, ad = some ⟨g, off, none⟩ ∧ ∀ j u, news[j]? = some u → w.cell? ⟨g, off + j, none⟩ = some u))
    (h1 : ∀ u ∈ news, u.oneCell' = true) (hbase : base ≤ w.heap.size) (hn : (n + m) * bytes ≤ 140737488355328) (hb0 : 0 < bytes)
    (h : ∀ v' w', w'.ownsRow base e size v' (n + m) (xs ++ news) → w.grownBy w' v.ownBlock → (v'.ownBlock = v.ownBlock ∨ v'.ownBlock = some w.heap.size) → wpList Tryd.prog ops Q rest (a.put o.dst v') w') : wpList Tryd.prog ops Q (o :: rest) a w := by
  obtain ⟨ad, c, rfl, hv⟩ := hv
  have hbig : n + m ≤ 140737488355328 := Nat.le_trans (Nat.le_mul_of_pos_right _ hb0) hn
  cases ad with
  | none =>
    obtain ⟨rfl, rfl⟩ := hnil m c rfl
    have : news = [] := List.eq_nil_of_length_eq_zero (by rw [hl, Nat.zero_mul])
    subst this
    refine wpList_append_own_none hgd s x t ho base e i size ht hi v n xs hs hown hx (h v w (by simpa using hown) ⟨rfl, rfl, rfl, Nat.le_refl _, fun _ _ _ => rfl⟩ (.inl rfl))
  | some ad =>
    refine wpList_append_own_at (w := w) hgd s x t ho base e i z size bytes ht hi hz hsize hby hzs hsz v n xs hs hown ad m c news hx hl (fun j u hj => ?_) h1 (by simp only [maxLen]; omega) hn hbase (fun v' w' h1 h2 _ h4 => h v' w' h1 h2 h4)
    have hm : 0 < m := by
      rcases Nat.eq_zero_or_pos m with h0 | h0
      · subst h0; rw [Nat.zero_mul] at hl; rw [List.eq_nil_of_length_eq_zero hl] at hj; simp at hj
      · exact h0
    obtain ⟨g, off, e, hc⟩ := hv hm
    cases e
    have := hc j u hj
    unfold Addr.add
    split
    · rename_i h0; subst h0; simpa using this
    · simpa using this
end

/-- the pieces of the first k members have rows of their own, each behind the one ahead -/
structure TwinS (w0 : World) (base : Nat) (wr : World) (v : Value) (l : List Mb) (k : Nat) (L : List MV) : Prop where
  fst : L.map (·.1) = l
  row : OwnM base wr v L
  own : ∀ j x, j < k → L[j]? = some x → OwnP base wr x.2 x.1.pieces ∧ ∃ g, x.2.ownBlock = some g
  inc : ∀ i j x y gi gj, i < j → j < k → L[i]? = some x → L[j]? = some y → x.2.ownBlock = some gi → y.2.ownBlock = some gj → gi < gj
  sl : ∀ x ∈ L, IsSl x.2
  num : ∀ m ∈ l, I64 m.kind ∧ I64 m.size ∧ ∀ p ∈ m.pieces, I64 p.off
  len : l.length ≤ 1048576
  pcs : ∀ m ∈ l, m.pieces.length ≤ 1048576
theorem own_isSl {w : World} {base e size n : Nat} {v : Value} {xs : List Value} (h : w.ownsRow base e size v n xs) : IsSl v := by
  rcases h.2 with ⟨rfl, _⟩ | ⟨g, cap, cur, rfl, _⟩
  · exact ⟨_, _, _, rfl⟩
  · exact ⟨_, _, _, rfl⟩
/-- one member's pieces get a row of their own -/
theorem TwinS.step {w0 wr w2 : World} {base g c : Nat} {l : List Mb} {k n : Nat} {L : List MV} {x : MV} {v' : Value} (h : TwinS w0 base wr (.slice (some ⟨g, 0, none⟩) n c) l k L) (hx : L[k]? = some x)
    (hb : Below wr.heap.size wr w2) (ho : OwnP base w2 v' x.1.pieces) (hg : ∃ q, v'.ownBlock = some q ∧ wr.heap.size ≤ q) :
    TwinS w0 base (w2.setCell ⟨g, k * 5 + 4, none⟩ v') (.slice (some ⟨g, 0, none⟩) n c) l (k + 1) (L.set k (x.1, v')) := by
  obtain ⟨q, hq, hq2⟩ := hg
  have hgl : g < wr.heap.size := (h.row.lt g rfl).2
  have hkl : k < L.length := (List.getElem?_eq_some_iff.1 hx).1
  have hn : n = L.length := by
    rcases h.row.2 with ⟨e, _⟩ | ⟨g', cap, cur, e, _⟩
    · cases e
    · cases e; rfl
  subst hn
  have hrow2 : OwnM base w2 (.slice (some ⟨g, 0, none⟩) L.length c) L := own_keep h.row (fun k' e => by cases e; exact hb.block g hgl)
  have hkeep : ∀ u, u ≠ g → (w2.setCell ⟨g, k * 5 + 4, none⟩ v').heap[u]? = w2.heap[u]? := fun u hu => Below.heap_setCell w2 ⟨g, k * 5 + 4, none⟩ v' u hu
  have hown' : ∀ j y, j < k + 1 → (L.set k (x.1, v'))[j]? = some y → OwnP base (w2.setCell ⟨g, k * 5 + 4, none⟩ v') y.2 y.1.pieces ∧ ∃ g, y.2.ownBlock = some g := by
    intro j y hj hy
    by_cases e : j = k
    · subst e
      rw [List.getElem?_set_self hkl] at hy
      cases hy
      exact ⟨own_keep ho (fun u hu => hkeep u (by have := own_apart ho hrow2 (by decide) hu; intro e; subst e; exact this rfl)), q, hq⟩
    · rw [List.getElem?_set_ne (Ne.symm e)] at hy
      obtain ⟨h1, h2⟩ := h.own j y (by omega) hy
      refine ⟨own_keep h1 (fun u hu => ?_), h2⟩
      have hlt := (h1.lt u hu).2
      have hne : u ≠ g := by have := own_apart h1 h.row (by decide) hu; intro e; subst e; exact this rfl
      exact (hkeep u hne).trans (hb.block u hlt)
  refine ⟨?_, ?_, hown', ?_, ?_, h.num, h.len, h.pcs⟩
  · rw [← h.fst, List.map_set]
    have : (L.map (·.1))[k]? = some x.1 := by rw [List.getElem?_map, hx]; rfl
    apply List.ext_getElem?
    intro q
    by_cases e : k = q
    · subst e; rw [List.getElem?_set_self (by simpa using hkl), this]
    · rw [List.getElem?_set_ne e]
  · have := (hrow2.stored (k * 5 + 4) v').1
    rw [mvCells_set hx] at this
    have e : (L.set k (x.1, v')).length = L.length := List.length_set
    show World.ownsRow _ _ _ _ _ (L.set k (x.1, v')).length _
    rw [e]
    exact this
  · intro i j y z gi gj hij hjk hy hz hgi hgj
    have hik : i ≠ k := by omega
    rw [List.getElem?_set_ne (Ne.symm hik)] at hy
    by_cases e : j = k
    · subst e
      rw [List.getElem?_set_self hkl] at hz
      cases hz
      rw [hq] at hgj
      cases hgj
      obtain ⟨h1, _⟩ := h.own i y (by omega) hy
      have := (h1.lt gi hgi).2
      omega
    · rw [List.getElem?_set_ne (Ne.symm e)] at hz
      exact h.inc i j y z gi gj hij (by omega) hy hz hgi hgj
  · intro y hy
    rcases List.mem_or_eq_of_mem_set hy with hy | rfl
    · exact h.sl y hy
    · exact own_isSl ho

theorem mv_of {w : World} {b : Nat} : ∀ (l : List Mb) (o : Nat), (∀ j x, l[j]? = some x → RMbN w b (o + j * 5) x) → ∃ L : List MV, L.map (·.1) = l ∧ (∀ j u, (mvCells L)[j]? = some u → w.cell? ⟨b, o + j, none⟩ = some u) ∧ ∀ x ∈ L, MbV w x.1 x.2 ∧ NilOk x.2
  | [], o, _ => ⟨[], rfl, fun j u h => by simp [mvCells] at h, fun x hx => by cases hx⟩
  | m :: l, o, h => by
    obtain ⟨vp, h0, h1, h2, h3, h4, h5, h6⟩ := h 0 m rfl
    obtain ⟨L, hL, hc, ha⟩ := mv_of l (o + 5) (fun j x hj => by have := h (j + 1) x (by simpa using hj); rwa [show o + (j + 1) * 5 = o + 5 + j * 5 by omega] at this)
    refine ⟨(m, vp) :: L, by simp [hL], fun j u hj => ?_, fun x hx => ?_⟩
    · have e : mvCells ((m, vp) :: L) = mvRow (m, vp) ++ mvCells L := by simp [mvCells]
      rw [e] at hj
      by_cases h5' : j < 5
      · rw [List.getElem?_append_left (by rw [mvRow_len]; exact h5')] at hj
        rw [Nat.zero_mul, Nat.add_zero] at h0 h1 h2 h3 h4
        match j, h5', hj with
        | 0, _, hj => cases hj; exact h0
        | 1, _, hj => cases hj; exact h1
        | 2, _, hj => cases hj; exact h2
        | 3, _, hj => cases hj; exact h3
        | 4, _, hj => cases hj; exact h4
      · rw [List.getElem?_append_right (by rw [mvRow_len]; omega), mvRow_len] at hj
        have := hc (j - 5) u hj
        rwa [show o + 5 + (j - 5) = o + j by omega] at this
    · rcases List.mem_cons.1 hx with rfl | hx
      · exact ⟨h5, h6⟩
      · exact ha x hx
theorem pc_of {w : World} {v : Value} {ps : List Pc} (h : Sl RPc 2 w v ps) : (∃ ad c, v = .slice ad ps.length c ∧ (0 < ps.length → ∃ g off, ad = some ⟨g, off, none⟩ ∧ ∀ j u, (pcCells ps)[j]? = some u → w.cell? ⟨g, off + j, none⟩ = some u)) ∧ ∀ p ∈ ps, I64 p.off := by
  obtain ⟨a, b, o, c, e, ha, hc⟩ := h
  refine ⟨⟨a, c, e, fun h0 => ⟨b, o, ha h0, fun j u hj => ?_⟩⟩, fun p hp => ?_⟩
  · obtain ⟨x, hx, hu⟩ := flat_cover pcRow 2 (by omega) pcRow_len ps j u hj
    obtain ⟨h0, h1, _⟩ := hc (j / 2) x hx
    have hd := Nat.div_add_mod j 2
    have hm := Nat.mod_lt j (show 0 < 2 by omega)
    rcases (by omega : j % 2 = 0 ∨ j % 2 = 1) with e | e
    · rw [e] at hu hd; cases hu; rw [show o + j = o + j / 2 * 2 by omega]; exact h0
    · rw [e] at hu hd; cases hu; rw [show o + j = o + j / 2 * 2 + 1 by omega]; exact h1
  · obtain ⟨j, hj⟩ := List.getElem?_of_mem hp
    exact (hc j p hj).2.2

set_option maxHeartbeats 4000000 in
theorem call_twin (v : Value) (l : List Mb) (w : World) (hs : Sl RMbN 5 w v l) (hn : NilOk v) (hl : LsSm' l) :
    Calls Tryd.prog 14 #[v] w fun e w' => (∃ v' L, e = .returned v' ∧ TwinS w w.heap.size w' v' l l.length L) ∧ Below w.heap.size w w' := by
  obtain ⟨al, bl, ol, cl, rfl, ha, hc⟩ := hs
  obtain ⟨mp, hmp⟩ : ∃ n, l.length = n := ⟨_, rfl⟩
  obtain ⟨L0, hL0, hcells, hall⟩ := mv_of l ol hc
  have hlen0 : L0.length = mp := by rw [← hmp, ← hL0, List.length_map]
  have hlen := hl.1
  rw [hmp] at ha hlen hn ⊢
  obtain ⟨i0, hi0, hz0, hs0, hb0⟩ := info_parts info51
  obtain ⟨i1, hi1, hz1, hs1, hb1⟩ := info_parts info82
  have HM := Lib.hid hmp
  have HC := Lib.hid hc
  have HNil := Lib.hid hn
  have HLe := Lib.hid hl.2
  have HL0 := Lib.hid hL0
  have HLen0 := Lib.hid hlen0
  have HCells : Hid (0 < mp → ∃ g off, al = some ⟨g, off, none⟩ ∧ ∀ j u, (mvCells L0)[j]? = some u → (w.alloc (.cells #[] 51)).cell? ⟨g, off + j, none⟩ = some u) := Lib.hid (fun h => ⟨bl, ol, ha h, fun j u hj => keeps_alloc _ _ _ _ _ (hcells j u hj)⟩)
  have HOne : Hid (∀ u ∈ mvCells L0, u.oneCell' = true) := Lib.hid (mvCells_one L0 (fun x hx => by obtain ⟨a, b, o, c, e, _⟩ := (hall x hx).1.pieces; exact ⟨_, _, _, e⟩))
  have HO0 : Hid ((w.alloc (.cells #[] 51)).ownsRow w.heap.size 51 5 (.slice (some ⟨w.heap.size, 0, none⟩) 0 0) 0 []) := Lib.hid (World.ownsRow_made w #[] 0 (e := 51) (size := 5) (Nat.le_refl _) (by simp [maxLen]) rfl)
  have HNum : Hid (∀ m ∈ l, I64 m.kind ∧ I64 m.size ∧ ∀ p ∈ m.pieces, I64 p.off) := Lib.hid (fun m hm => by
    rw [← hL0] at hm
    obtain ⟨x, hx, rfl⟩ := List.mem_map.1 hm
    have h := (hall x hx).1
    exact ⟨h.kind, h.size, (pc_of h.pieces).2⟩)
  have HSl0 : Hid (∀ x ∈ L0, IsSl x.2) := Lib.hid (fun x hx => by obtain ⟨a, b, o, c, e, _⟩ := (hall x hx).1.pieces; exact ⟨_, _, _, e⟩)
  have HZ1 : Hid (mp * 72 ≤ 140737488355328) := Lib.hid (by omega)
  clear hmp hc hn hl hL0 hlen0 hcells hall
  go_enter Tryd.func14, Tryd.ntmps14
  go_wp2_with (refine wpl_many 30 51 i0 _ 5 72 Tryd.underlying30 hi0 hz0 hs0 hb0 rfl (by decide) HO0.out rfl _ _ rfl rfl _ rfl (mvCells L0) mp (by rw [mvCells_len, HLen0.out]) HNil.out ⟨_, _, rfl, HCells.out⟩ HOne.out (by rw [alloc_size]; omega) (by rw [Nat.zero_add]; exact HZ1.out) (by decide) ?_; intro v1 w1 h1 h2 h3; have HB1 := Lib.hid ((below_alloc1 w (.cells #[] 51)).grown h2 (by rw [alloc_size]; omega) (fun k e => by cases e; exact Nat.le_refl _)); have HO1 := Lib.hid h1; clear h1 h2 h3)
  have HT : Hid (TwinS w w.heap.size w1 v1 l 0 L0) := Lib.hid ⟨HL0.out, by have h := HO1.out; rw [List.nil_append, Nat.zero_add, ← HLen0.out] at h; exact h, fun j x h => by omega, fun i j x y gi gj _ h => by omega, HSl0.out, HNum.out, by rw [HM.out]; exact hlen, HLe.out⟩
  clear HO1 HCells HOne HSl0
  go_loopw [4] (fun i wr => ∃ (k : Nat) (L : List MV), i = .int .i64 k ∧ k ≤ mp ∧ TwinS w w.heap.size wr v1 l k L ∧ Below w.heap.size w wr)
    (fun i _ => mp - (RowKit.intOf i).toNat)
  case atStart => exact ⟨0, L0, rfl, Nat.zero_le _, HT.out, HB1.out⟩
  case round =>
    obtain ⟨k, L, rfl, hk, ht, hb⟩ := hrel
    clear HT HB1
    have HT := Lib.hid ht
    have HB := Lib.hid hb
    have hLl : L.length = mp := by rw [← HM.out, ← ht.fst, List.length_map]
    have HLl := Lib.hid hLl
    clear hb hLl
    by_cases hlt : k < mp
    · obtain ⟨m, hm⟩ : ∃ r, l[k]? = some r := ⟨_, List.getElem?_eq_getElem (by have := HM.out; omega)⟩
      obtain ⟨x, hx⟩ : ∃ r, L[k]? = some r := ⟨_, List.getElem?_eq_getElem (by have := HLl.out; omega)⟩
      have hx1 : x.1 = m := by
        have h := HT.out.fst
        have h2 : (L.map (·.1))[k]? = some x.1 := by rw [List.getElem?_map, hx]; rfl
        rw [h, hm] at h2
        cases h2; rfl
      obtain ⟨g, c1, rfl, hg1, hg2, hc1, hgc, hgf⟩ := own_form ht.row (by have := HLl.out; omega)
      obtain ⟨vp, _, _, _, _, q4', hvw, hnil⟩ := HC.out k m hm
      have q4 := keeps_below HB.out _ _ _ q4'
      have hv := hvw.keep (keeps_below HB.out)
      obtain ⟨np, hnp⟩ : ∃ n, m.pieces.length = n := ⟨_, rfl⟩
      have hnp1 : np ≤ 1048576 := by rw [← hnp]; exact HLe.out m (List.mem_of_getElem? hm)
      obtain ⟨⟨ad, c, rfl, hsrc⟩, hoffs⟩ := pc_of (hv.keep (keeps_alloc wr (.cells #[] 82))).pieces
      rw [hnp] at q4 q4' hsrc hnil
      replace q4 := keeps_alloc wr (.cells #[] 82) _ _ _ q4
      have HSrc := Lib.hid hsrc
      have HNl := Lib.hid hnil
      have HNp := Lib.hid hnp
      have HX := Lib.hid hx
      have HX1 := Lib.hid hx1
      have HPl : Hid ((pcCells m.pieces).length = np * 2) := Lib.hid (by rw [pcCells_len, hnp])
      have HE : Hid ((wr.alloc (.cells #[] 82)).ownsRow w.heap.size 82 2 (.slice (some ⟨wr.heap.size, 0, none⟩) 0 0) 0 []) := Lib.hid (World.ownsRow_made wr #[] 0 (e := 82) (size := 2) (HB.out.size) (by simp [maxLen]) rfl)
      have HZ2 : Hid (np * 24 ≤ 140737488355328) := Lib.hid (by omega)
      have HBb : Hid (w.heap.size ≤ (wr.alloc (.cells #[] 82)).heap.size) := Lib.hid (by rw [alloc_size]; have := HB.out.size; omega)
      have ha' := ha (by omega)
      subst ha'
      have k0 : (0 : Int) ≤ k := by omega
      have k1 : (k : Int) < mp := by omega
      have hLL := HLl.out
      rw [hLL] at hc1
      clear hm hx hx1 hvw hnil hsrc hoffs hnp q4' hv ha
      have HG2 := Lib.hid hg2
      have HGc : Hid (wr.cell? ⟨g, k * 5 + 4, none⟩ = some x.2) := Lib.hid (hgc (k * 5 + 4) _ (by rw [mvCells_get HX.out 4 (by omega)]; rfl))
      have HGf := Lib.hid hgf
      have HLL := Lib.hid hLL
      have c1' : (mp : Int) ≤ c1 := by omega
      clear hgc hgf
      rw [hLL]
      clear hLL
      go_wp2_with (refine wpl_many 49 82 i1 _ 2 24 Tryd.underlying49 hi1 hz1 hs1 hb1 rfl (by decide) HE.out (by rfl) _ _ (by rfl) (by rfl) (.slice ad np c) (by rfl) (pcCells m.pieces) np HPl.out HNl.out ⟨_, _, rfl, HSrc.out⟩ (pcCells_one _) HBb.out (by rw [Nat.zero_add]; exact HZ2.out) (by decide) ?_; intro v2 w2 h1 h2 h3; obtain ⟨a2, n2, c2, rfl⟩ := own_isSl h1; have HB2 := Lib.hid ((below_alloc1 wr (.cells #[] 82)).grown h2 (by rw [alloc_size]; omega) (fun k e => by cases e; exact Nat.le_refl _)); have HO2 := Lib.hid h1; have HS2 := Lib.hid h3; have e4 := (HB2.out.cell (p := ⟨g, k * 5 + 4, none⟩) HG2.out).trans HGc.out; have e5 := (HB2.out.frozen (p := ⟨g, k * 5 + 4, none⟩) HG2.out).trans (HGf.out _); clear h1 h2 h3)
      have HT2 := Lib.hid (TwinS.step (v' := .slice a2 n2 c2) HT.out HX.out HB2.out (by rw [HX1.out]; have h := HO2.out; rw [List.nil_append, Nat.zero_add, ← HNp.out] at h; exact h) (by
        rcases HS2.out with h | h
        · exact ⟨wr.heap.size, h, Nat.le_refl _⟩
        · exact ⟨_, h, by rw [alloc_size]; omega⟩))
      have HBf := Lib.hid ((below_after HB.out HB2.out).setCell (p := ⟨g, k * 5 + 4, none⟩) hg1 (.slice a2 n2 c2))
      clear e4 e5 HGc HGf
      rw [HLL.out] at HT2
      go_roundw
      case rel => exact ⟨k + 1, _, by go_num, by omega, HT2.out, HBf.out⟩
      case measure => simp [RowKit.intOf]; omega
    · obtain rfl : k = mp := by omega
      obtain ⟨a1, n1, c1, rfl⟩ := own_isSl ht.row
      have hn1 : n1 = k := by
        have h := HLl.out
        rcases ht.row.2 with ⟨e, h0⟩ | ⟨g', cap, cur, e, _⟩
        · cases e; omega
        · cases e; exact h
      subst hn1
      clear ha ht
      go_wp2
      go_ret
      exact ⟨⟨_, L, rfl, HT.out⟩, HB.out⟩
end Go.Proofs.YtlecpjfggoehdaaDoor.Ar
