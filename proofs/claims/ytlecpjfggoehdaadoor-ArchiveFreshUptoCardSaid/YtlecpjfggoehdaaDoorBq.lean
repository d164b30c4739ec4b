/- Archive: members whose pieces share nothing. -/
import Derived.Test.YtlecpjfggoehdaaDoorBm
set_option linter.unusedVariables false
set_option linter.unusedSimpArgs false
set_option maxRecDepth 100000
namespace Go.Proofs.YtlecpjfggoehdaaDoor.Ar
open Go.RowKit Go.Sort Go.Lib Go.Proofs.YtlecpjfggoehdaaDoor.Rs

theorem own_setc {w : World} {base e size n g c : Nat} {xs : List Value} (h : w.ownsRow base e size (.slice (some ⟨g, 0, none⟩) n c) n xs) (j : Nat) (u : Value) : (w.setCell ⟨g, j, none⟩ u).ownsRow base e size (.slice (some ⟨g, 0, none⟩) n c) n (xs.set j u) := by
  refine ⟨by rw [List.length_set]; exact h.1, ?_⟩
  rcases h.2 with ⟨h0, _⟩ | ⟨g', cap, cur, e1, hb, hh, h1, h2, h3, h4⟩
  · cases h0
  · cases e1
    have hr : Row w g e cur.toList := by show _ = _; rw [Array.toArray_toList]; exact hh
    have hr2 := hr.set j u
    refine .inr ⟨g, c, (cur.toList.set j u).toArray, rfl, hb, hr2, h1, h2, by simpa using h3, ?_⟩
    show (cur.toList.set j u).take (n * size) = _
    rw [List.take_set, h4]
theorem own_addr {w : World} {base e size n m c : Nat} {a : Option Addr} {xs : List Value} (h : w.ownsRow base e size (.slice a n c) m xs) (h0 : 0 < n) : ∃ g, a = some ⟨g, 0, none⟩ := by
  rcases h.2 with ⟨h1, _⟩ | ⟨g, cap, cur, e1, _⟩
  · cases h1; omega
  · cases e1; exact ⟨g, rfl⟩
theorem own_cell {w : World} {base e size n m c g : Nat} {xs : List Value} (h : w.ownsRow base e size (.slice (some ⟨g, 0, none⟩) n c) m xs) {j : Nat} {u : Value} (hj : xs[j]? = some u) : w.cell? ⟨g, j, none⟩ = some u ∧ w.frozen? ⟨g, j, none⟩ = false := by
  have h1 := h.cells (g := g) rfl j u hj
  rw [add0] at h1
  refine ⟨h1, ?_⟩
  rcases h.2 with ⟨h0, _⟩ | ⟨g', cap, cur, e1, _⟩
  · cases h0
  · cases e1; exact h.frozenAt j
theorem own_prefix {w : World} {base e size g n m c : Nat} {xs ys : List Value} (h : w.ownsRow base e size (.slice (some ⟨g, 0, none⟩) (n + m) c) (n + m) (xs ++ ys)) (hl : xs.length = n * size) : w.ownsRow base e size (.slice (some ⟨g, 0, none⟩) n c) n xs := by
  refine ⟨hl, ?_⟩
  rcases h.2 with ⟨h0, _⟩ | ⟨g', cap, cur, e1, hb, hh, h1, h2, h3, h4⟩
  · cases h0
  · cases e1
    refine .inr ⟨g, c, cur, rfl, hb, hh, by omega, h2, h3, ?_⟩
    have : cur.toList.take (n * size) = (cur.toList.take ((n + m) * size)).take (n * size) := by
      rw [List.take_take, Nat.min_eq_left (Nat.mul_le_mul_right _ (by omega))]
    rw [this, h4, ← hl, List.take_left' rfl]
section
variable {ops : Array Oper} {rest : List Oper} {o : Oper} {a : Act} {Q : Exit → Act → World → Prop} {w : World}
/-- append to a row of one's own: what was there is there still -/
theorem wpl_appR (t e : TypeId) (i : TypeInfo) (z : Value) (size bytes : Nat) (ht : Tryd.prog.underlying t = some (.slice e)) (hi : Tryd.prog.info? e = some i) (hz : i.zero = some z) (hsize : i.size = size) (hby : i.bytes = bytes) (hzs : z.cells.size = size) (hsz : 0 < size) {base n : Nat} {v : Value} {xs : List Value}
    (hown : w.ownsRow base e size v n xs) (hgd : o.guard = none) (s x : Operand) (ho : o.op = .call { callee := .builtin .append, args := #[s, x], argTypes := #[t, t] })
    (hs : a.eval s = v) (ad : Addr) (m c : Nat) (hx : a.eval x = .slice (some ad) m c) (news : List Value) (hl : news.length = m * size) (hc : ∀ j u, news[j]? = some u → w.cell? (ad.add j) = some u)
    (h1 : ∀ u ∈ news, u.oneCell' = true) (hm : 0 < m) (hbase : base ≤ w.heap.size) (hn : (n + m) * bytes ≤ 140737488355328) (hb0 : 0 < bytes)
    (h : ∀ v' w', w'.ownsRow base e size v' (n + m) (xs ++ news) → w'.ownsRow base e size v n xs → w.grownBy w' v.ownBlock → (v'.ownBlock = v.ownBlock ∨ ∃ g, v'.ownBlock = some g ∧ w.heap.size ≤ g) → wpList Tryd.prog ops Q rest (a.put o.dst v') w') : wpList Tryd.prog ops Q (o :: rest) a w := by
  have hbig : n + m ≤ 140737488355328 := Nat.le_trans (Nat.le_mul_of_pos_right _ hb0) hn
  have hmax : n + m ≤ maxLen := by unfold maxLen; omega
  have hlen := hown.1
  rcases hown.2 with ⟨rfl, rfl⟩ | ⟨g, cap, cur, rfl, hb, hh, hcap, _, hcur, htk⟩
  · refine wpList_append_grows w hgd s x t ho e i z size bytes ht hi hz hsize hby hzs hsz none 0 0 xs hs (fun _ => ⟨rfl, rfl⟩) hlen (fun b e => by cases e) ad m c news hx hl hc h1 (by omega) hmax hn (fun v' w' g1 g2 => ?_)
    refine h v' w' (own_mono g1 hbase) ⟨hlen, .inl ⟨rfl, rfl⟩⟩ g2 ?_
    rcases g1.2 with ⟨rfl, h0⟩ | ⟨g, _, _, rfl, hg, _⟩
    · omega
    · exact .inr ⟨g, rfl, hg⟩
  · by_cases hr : n + m ≤ cap
    · refine wpList_append_fits w hgd s x t ho base e i size ht hi hsize g n cap xs hs hown ad m c news hx hl hc h1 hr (fun w' g1 g2 => ?_)
      exact h _ w' g1 (own_prefix g1 hlen) g2 (.inl rfl)
    · refine wpList_append_grows w hgd s x t ho e i z size bytes ht hi hz hsize hby hzs hsz (some ⟨g, 0, none⟩) n cap xs hs (fun e => by cases e) hlen (fun b e j u hj => ?_) ad m c news hx hl hc h1 (by omega) hmax hn (fun v' w' g1 g2 => ?_)
      · cases e
        exact hown.cells rfl j u hj
      · have k := hown.kept g2 (by simp [Value.ownBlock])
        refine h v' w' (own_mono g1 hbase) k ⟨g2.os, g2.tape, g2.output, g2.size, fun i hi hne => g2.block i hi (by simp)⟩ ?_
        rcases g1.2 with ⟨rfl, h0⟩ | ⟨g', _, _, rfl, hg, _⟩
        · omega
        · exact .inr ⟨g', rfl, hg⟩
end
def mineB : List UInt8 := [109, 105, 110, 101]
def behindB : List UInt8 := [98, 101, 104, 105, 110, 100]
def mineP (i : Nat) : Pc := ⟨-1 - (i : Int), mineB⟩
def behP (i : Nat) : Pc := ⟨-1 - (i : Int), behindB⟩
/-- members and their pieces, in rows of their own -/
structure ApS (base : Nat) (w : World) (v : Value) (L : List MV) (PS : List (List Pc)) : Prop where
  own : OwnM base w v L
  len : PS.length = L.length
  pcs : ∀ (i : Nat) (x : MV) (p : List Pc), L[i]? = some x → PS[i]? = some p → OwnP base w x.2 p
  dis : ∀ (i j : Nat) (x y : MV), i ≠ j → L[i]? = some x → L[j]? = some y → ∀ k, x.2.ownBlock = some k → y.2.ownBlock ≠ some k
structure TouchA (w wr : World) (L : List MV) : Prop where
  os : wr.os = w.os
  tape : wr.tape = w.tape
  output : wr.output = w.output
  size : w.heap.size ≤ wr.heap.size
  block : ∀ k, k < w.heap.size → (∀ x ∈ L, x.2.ownBlock ≠ some k) → wr.heap[k]? = w.heap[k]?
theorem TouchA.refl (w : World) (L : List MV) : TouchA w w L := ⟨rfl, rfl, rfl, Nat.le_refl _, fun _ _ _ => rfl⟩
theorem TouchA.set {w wr : World} {L : List MV} (h : TouchA w wr L) {x : MV} (hx : x ∈ L) {b : Nat} (hb : x.2.ownBlock = some b) (o : Nat) (u : Value) : TouchA w (wr.setCell ⟨b, o, none⟩ u) L :=
  ⟨h.os, h.tape, h.output, by simpa [World.setCell] using h.size, fun k hk hn => (Below.heap_setCell wr ⟨b, o, none⟩ u k (fun e => hn x hx (by rw [hb, e]))).trans (h.block k hk hn)⟩
theorem pc_set {L : List Pc} {j : Nat} {x : Pc} (h : L[j]? = some x) (p : Pc) : ((pcCells L).set (j * 2) (.int .i64 p.off)).set (j * 2 + 1) (.string (bs p.data)) = pcCells (L.set j p) := by
  have h1 := flat_set pcRow 2 pcRow_len 0 (.int .i64 p.off) (fun x => ⟨p.off, x.data⟩) (fun x => rfl) (by omega) L j x h
  have hj := (List.getElem?_eq_some_iff.1 h).1
  have h2 := flat_set pcRow 2 pcRow_len 1 (.string (bs p.data)) (fun x => ⟨x.off, p.data⟩) (fun x => rfl) (by omega) (L.set j ⟨p.off, x.data⟩) j ⟨p.off, x.data⟩ (List.getElem?_set_self hj)
  rw [Nat.add_zero] at h1
  show ((L.map pcRow).flatten.set _ _).set _ _ = _
  rw [h1, h2, List.set_set]
  rfl
theorem ApS.put {base : Nat} {w : World} {v : Value} {L : List MV} {PS : List (List Pc)} {i j n c b : Nat} {x : MV} {p : List Pc} {q : Pc} (h : ApS base w v L PS) (hx : L[i]? = some x) (hp : PS[i]? = some p) (hv : x.2 = .slice (some ⟨b, 0, none⟩) n c) (hq : p[j]? = some q) (pc : Pc) :
    ApS base ((w.setCell ⟨b, j * 2, none⟩ (.int .i64 pc.off)).setCell ⟨b, j * 2 + 1, none⟩ (.string (bs pc.data))) v L (PS.set i (p.set j pc)) := by
  have hb : x.2.ownBlock = some b := by rw [hv]; rfl
  have hpi := (List.getElem?_eq_some_iff.1 hp).1
  have ho := h.pcs i x p hx hp
  have keep : ∀ k, k ≠ b → ((w.setCell ⟨b, j * 2, none⟩ (.int .i64 pc.off)).setCell ⟨b, j * 2 + 1, none⟩ (.string (bs pc.data))).heap[k]? = w.heap[k]? := fun k hk =>
    (Below.heap_setCell _ ⟨b, j * 2 + 1, none⟩ _ k hk).trans (Below.heap_setCell w ⟨b, j * 2, none⟩ _ k hk)
  refine ⟨own_keep h.own (fun k e => keep k (fun e2 => own_apart ho h.own (by decide) hb (e2 ▸ e))), by rw [List.length_set]; exact h.len, fun i' x' p' hx' hp' => ?_, h.dis⟩
  by_cases e : i' = i
  · subst e
    rw [hx] at hx'
    cases hx'
    rw [List.getElem?_set_self hpi] at hp'
    cases hp'
    show World.ownsRow _ _ _ _ _ (p.set j pc).length _
    rw [List.length_set, ← pc_set hq pc]
    have ho' : w.ownsRow base 82 2 x.2 p.length (pcCells p) := ho
    rw [hv] at ho' ⊢
    have hn : n = p.length := own_len' ho'
    subst hn
    exact own_setc (own_setc ho' _ _) _ _
  · rw [List.getElem?_set_ne (Ne.symm e)] at hp'
    have ho' := h.pcs i' x' p' hx' hp'
    exact own_keep ho' (fun k ek => keep k (fun e2 => h.dis i i' x x' (Ne.symm e) hx hx' b hb (e2 ▸ ek)))
/-- the first j pieces written over -/
def fillP (i j : Nat) (p : List Pc) : List Pc := List.replicate j (mineP i) ++ p.drop j
theorem fillP_len {i j : Nat} {p : List Pc} (h : j ≤ p.length) : (fillP i j p).length = p.length := by rw [fillP, List.length_append, List.length_replicate, List.length_drop]; omega
theorem fillP_step {i j : Nat} {p : List Pc} (h : j < p.length) : (fillP i j p).set j (mineP i) = fillP i (j + 1) p := by
  unfold fillP
  rw [List.set_append_right _ _ (by rw [List.length_replicate]; exact Nat.le_refl _), List.length_replicate, Nat.sub_self, List.drop_eq_getElem_cons h, List.set_cons_zero, List.replicate_succ', List.append_assoc]
  rfl
theorem fillP_get {i j : Nat} {p : List Pc} (h : j < p.length) : ∃ q, (fillP i j p)[j]? = some q := ⟨_, List.getElem?_eq_getElem (by rw [fillP_len (by omega)]; exact h)⟩
/-- behind the first i members, and the first j pieces of the next -/
def fillS (PS : List (List Pc)) (i j : Nat) : List (List Pc) := PS.mapIdx fun k p => if k < i then fillP k p.length p else if k = i then fillP k j p else p
theorem fillS_get (PS : List (List Pc)) (i j k : Nat) : (fillS PS i j)[k]? = PS[k]?.map fun p => if k < i then fillP k p.length p else if k = i then fillP k j p else p := by rw [fillS, List.getElem?_mapIdx]
theorem fillP_zero (i : Nat) (p : List Pc) : fillP i 0 p = p := by simp [fillP]
theorem fillS_start (PS : List (List Pc)) : fillS PS 0 0 = PS := by
  apply List.ext_getElem?
  intro k
  rw [fillS_get]
  cases PS[k]? with
  | none => rfl
  | some p => simp [fillP_zero]
theorem fillS_at {PS : List (List Pc)} {i j : Nat} {p : List Pc} (h : PS[i]? = some p) : (fillS PS i j)[i]? = some (fillP i j p) := by
  rw [fillS_get, h]; simp
theorem fillS_step {PS : List (List Pc)} {i j : Nat} {p : List Pc} (h : PS[i]? = some p) (hj : j < p.length) : (fillS PS i j).set i ((fillP i j p).set j (mineP i)) = fillS PS i (j + 1) := by
  apply List.ext_getElem?
  intro k
  by_cases e : i = k
  · subst e
    rw [List.getElem?_set_self (by rw [fillS, List.length_mapIdx]; exact (List.getElem?_eq_some_iff.1 h).1), fillS_at h, fillP_step hj]
  · rw [List.getElem?_set_ne e, fillS_get, fillS_get]
    congr 1
    funext q
    rw [if_neg (Ne.symm e), if_neg (Ne.symm e)]
theorem fillS_next {PS : List (List Pc)} {i : Nat} {p : List Pc} (h : PS[i]? = some p) : fillS PS i p.length = fillS PS (i + 1) 0 := by
  apply List.ext_getElem?
  intro k
  rw [fillS_get, fillS_get]
  by_cases e : k = i
  · subst e
    rw [h]
    simp
  · congr 1
    funext q
    rcases Nat.lt_or_ge k i with h1 | h1
    · rw [if_pos h1, if_pos (by omega)]
    · rw [if_neg (by omega), if_neg e, if_neg (by omega)]
      by_cases e2 : k = i + 1
      · rw [if_pos e2, fillP_zero]
      · rw [if_neg e2]
theorem fillS_len (PS : List (List Pc)) (i j : Nat) : (fillS PS i j).length = PS.length := by rw [fillS, List.length_mapIdx]
theorem fillS_end {PS : List (List Pc)} {n k : Nat} (hn : PS.length ≤ n) {p : List Pc} (h : (fillS PS n 0)[k]? = some p) : ∃ q, PS[k]? = some q ∧ p = List.replicate q.length (mineP k) := by
  rw [fillS_get] at h
  obtain ⟨q, hq, rfl⟩ := Option.map_eq_some_iff.1 h
  have := (List.getElem?_eq_some_iff.1 hq).1
  refine ⟨q, hq, ?_⟩
  rw [if_pos (by omega), fillP, List.drop_length, List.append_nil]

/-- the grown lists of the first k members -/
structure GrS (sz base : Nat) (wr : World) (v : Value) (L : List MV) (PS : List (List Pc)) (vg : Value) (k : Nat) (gs : List Value) : Prop where
  ap : ApS base wr v L PS
  row : OwnV sz wr vg gs
  len : gs.length = k
  own : ∀ (i : Nat) (y : Value) (p : List Pc), gs[i]? = some y → PS[i]? = some p → OwnP base wr y (p ++ [behP i])
  blk : ∀ (i : Nat) (y : Value) (x : MV), gs[i]? = some y → L[i]? = some x → y.ownBlock = x.2.ownBlock ∨ ∃ g, y.ownBlock = some g ∧ sz ≤ g
theorem GrS.step {sz base : Nat} {w0 wr w1 w3 : World} {v vg v' vg' : Value} {L : List MV} {PS : List (List Pc)} {k : Nat} {gs : List Value} {x : MV} {p : List Pc} {o o' : Obj} (h : GrS sz base wr v L PS vg k gs) (ht : TouchA w0 wr L) (hsz : w0.heap.size = sz) (hx : L[k]? = some x) (hp : PS[k]? = some p)
    (hlo : ∀ x ∈ L, ∀ u, x.2.ownBlock = some u → u < sz)
    (h1 : OwnP base w1 v' (p ++ [behP k])) (h2 : OwnP base w1 x.2 p) (hg : (wr.alloc o).grownBy w1 x.2.ownBlock) (hb : v'.ownBlock = x.2.ownBlock ∨ ∃ g, v'.ownBlock = some g ∧ (wr.alloc o).heap.size ≤ g)
    (h3 : OwnV sz w3 vg' (gs ++ [v'])) (hg3 : (w1.alloc o').grownBy w3 vg.ownBlock) : GrS sz base w3 v L PS vg' (k + 1) (gs ++ [v']) ∧ TouchA w0 w3 L := by
  have s1 : wr.heap.size ≤ w1.heap.size := Nat.le_trans (by rw [alloc_size]; omega) hg.size
  have s3 : w1.heap.size ≤ w3.heap.size := Nat.le_trans (by rw [alloc_size]; omega) hg3.size
  have szr : sz ≤ wr.heap.size := by rw [← hsz]; exact ht.size
  have hxo : OwnP base wr x.2 p := h.ap.pcs k x p hx hp
  have k1 : ∀ u, u < wr.heap.size → x.2.ownBlock ≠ some u → w1.heap[u]? = wr.heap[u]? := fun u hu hn => (hg.block u (by rw [alloc_size]; omega) (Ne.symm hn)).trans (Below.heap_alloc wr o u hu)
  have k3 : ∀ u, u < w1.heap.size → vg.ownBlock ≠ some u → w3.heap[u]? = w1.heap[u]? := fun u hu hn => (hg3.block u (by rw [alloc_size]; omega) (Ne.symm hn)).trans (Below.heap_alloc w1 o' u hu)
  have hvg1 : OwnV sz w1 vg gs := own_keep h.row (fun u e => k1 u (h.row.lt u e).2 (own_apart h.row hxo (by decide) e))
  -- a row of pieces kept from wr on
  have kp : ∀ {y : Value} {q : List Pc}, OwnP base wr y q → (∀ u, y.ownBlock = some u → x.2.ownBlock ≠ some u) → OwnP base w3 y q := fun hy hne => by
    have hy1 := own_keep hy (fun u e => k1 u (hy.lt u e).2 (hne u e))
    exact own_keep hy1 (fun u e => k3 u (hy1.lt u e).2 (own_apart hy1 hvg1 (by decide) e))
  have kp1 : ∀ {y : Value} {q : List Pc}, OwnP base w1 y q → OwnP base w3 y q := fun hy => own_keep hy (fun u e => k3 u (hy.lt u e).2 (own_apart hy hvg1 (by decide) e))
  have hrow1 : OwnM base w1 v L := own_keep h.ap.own (fun u e => k1 u (h.ap.own.lt u e).2 (own_apart h.ap.own hxo (by decide) e))
  have hgl : ∀ i y, (gs ++ [v'])[i]? = some y → (i < k ∧ gs[i]? = some y) ∨ (i = k ∧ y = v') := fun i y hy => by
    rcases Nat.lt_or_ge i gs.length with h5 | h5
    · rw [List.getElem?_append_left h5] at hy
      exact .inl ⟨by have := h.len; omega, hy⟩
    · have h6 := (List.getElem?_eq_some_iff.1 hy).1
      simp only [List.length_append, List.length_cons, List.length_nil] at h6
      have h7 : i = gs.length := by omega
      subst h7
      rw [List.getElem?_append_right (Nat.le_refl _), Nat.sub_self] at hy
      cases hy
      exact .inr ⟨h.len, rfl⟩
  refine ⟨⟨⟨own_keep hrow1 (fun u e => k3 u (hrow1.lt u e).2 (own_apart hrow1 hvg1 (by decide) e)), h.ap.len, fun i x' p' hx' hp' => ?_, h.ap.dis⟩, h3, by rw [List.length_append, h.len]; rfl, fun i y q hy hq => ?_, fun i y x' hy hx' => ?_⟩, ?_⟩
  · by_cases e : i = k
    · subst e
      rw [hx] at hx'; cases hx'
      rw [hp] at hp'; cases hp'
      exact kp1 h2
    · exact kp (h.ap.pcs i x' p' hx' hp') (fun u eu => h.ap.dis i k x' x e hx' hx u eu)
  · rcases hgl i y hy with ⟨hi, hy'⟩ | ⟨rfl, rfl⟩
    · refine kp (h.own i y q hy' hq) (fun u eu => ?_)
      obtain ⟨x', hx'⟩ : ∃ x', L[i]? = some x' := ⟨_, List.getElem?_eq_getElem (by have := (List.getElem?_eq_some_iff.1 hq).1; have := h.ap.len; omega)⟩
      rcases h.blk i y x' hy' hx' with e | ⟨g, e, hge⟩
      · rw [e] at eu
        exact h.ap.dis i k x' x (by omega) hx' hx u eu
      · rw [e] at eu
        cases eu
        intro e2
        have := hlo x (List.mem_of_getElem? hx) _ e2
        omega
    · rw [hp] at hq; cases hq
      exact kp1 h1
  · rcases hgl i y hy with ⟨hi, hy'⟩ | ⟨rfl, rfl⟩
    · exact h.blk i y x' hy' hx'
    · rw [hx] at hx'; cases hx'
      rcases hb with e | ⟨g, e, hge⟩
      · exact .inl e
      · exact .inr ⟨g, e, by rw [alloc_size] at hge; omega⟩
  · refine ⟨(hg3.os.trans hg.os).trans ht.os, (hg3.tape.trans hg.tape).trans ht.tape, (hg3.output.trans hg.output).trans ht.output, Nat.le_trans ht.size (Nat.le_trans s1 s3), fun u hu hn => ?_⟩
    have hur : u < wr.heap.size := Nat.lt_of_lt_of_le hu ht.size
    exact (k3 u (by omega) (fun e => by have := (h.row.lt u e).1; omega)).trans ((k1 u hur (hn x (List.mem_of_getElem? hx))).trans (ht.block u hu hn))

/-- the grown lists' own row, behind an append to a member's pieces -/
theorem ap_vg {sz base : Nat} {wr w1 : World} {v vg y : Value} {L : List MV} {PS : List (List Pc)} {k : Nat} {gs : List Value} {x : MV} {p : List Pc} {o o' : Obj} (h : GrS sz base wr v L PS vg k gs) (hx : L[k]? = some x) (hp : PS[k]? = some p) (hv : x.2 = y)
    (hg : (wr.alloc o).grownBy w1 y.ownBlock) (hn : gs.length = k) : (w1.alloc o').ownsRow sz 49 1 vg k gs := by
  subst hv
  have hxo : OwnP base wr x.2 p := h.ap.pcs k x p hx hp
  have h1 : OwnV sz w1 vg gs := own_keep h.row (fun u e => (hg.block u (by rw [alloc_size]; have := (h.row.lt u e).2; omega) (fun e2 => own_apart h.row hxo (by decide) e e2.symm)).trans (Below.heap_alloc wr o u (h.row.lt u e).2))
  have h2 : World.ownsRow _ _ _ _ _ gs.length _ := own_below h1 (below_alloc1 w1 o')
  rw [hn] at h2
  exact h2
set_option maxHeartbeats 2000000 in
theorem call_apart (base : Nat) (v : Value) (L : List MV) (PS : List (List Pc)) (w : World) (hs : ApS base w v L PS) (hl : L.length ≤ 1048576) (hp : ∀ p ∈ PS, p.length ≤ 1048576) (hb : base ≤ w.heap.size) (hsl : ∀ x ∈ L, IsSl x.2) :
    Calls Tryd.prog 24 #[v] w fun e w' => e = .returned (.bool true) ∧ TouchA w w' L := by
  obtain ⟨av, nv, cv, rfl⟩ := own_isSl hs.own
  have hnv : nv = L.length := own_len' hs.own
  have HS := Lib.hid hs
  have HNv := Lib.hid hnv
  have HSl := Lib.hid hsl
  have HPl := Lib.hid hp
  rw [← hnv] at hl
  clear hs hnv hsl hp
  go_enter Tryd.func24, Tryd.ntmps24
  go_wp2_with fail
  go_loopw [3, 4] (fun i jj wr => ∃ k : Nat, i = .int .i64 k ∧ k ≤ nv ∧ ApS base wr (.slice av nv cv) L (fillS PS k 0) ∧ TouchA w wr L) (fun i _ _ => nv - (RowKit.intOf i).toNat)
  case atStart => exact ⟨0, rfl, Nat.zero_le _, by rw [fillS_start]; exact HS.out, TouchA.refl _ _⟩
  case round =>
    obtain ⟨k, rfl, hk, ha, ht⟩ := hrel
    have HA := Lib.hid ha
    have HT := Lib.hid ht
    clear ha ht
    by_cases hlt : k < nv
    · obtain ⟨x, hx⟩ : ∃ x, L[k]? = some x := ⟨_, List.getElem?_eq_getElem (by have := HNv.out; omega)⟩
      obtain ⟨p, hpk⟩ : ∃ p, PS[k]? = some p := ⟨_, List.getElem?_eq_getElem (by have := HS.out.len; have := HNv.out; omega)⟩
      have hpl : p.length ≤ 1048576 := HPl.out p (List.mem_of_getElem? hpk)
      obtain ⟨ab, nb, cb, hxv⟩ := HSl.out x (List.mem_of_getElem? hx)
      have hnb : nb = p.length := by
        have h := HA.out.pcs k x _ hx (fillS_at hpk)
        rw [fillP_zero, hxv] at h
        exact own_len' h
      rw [← hnb] at hpl
      obtain ⟨g, hg⟩ := own_addr HS.out.own (by omega)
      subst hg
      have HX := Lib.hid hx
      have HPk := Lib.hid hpk
      have HXv := Lib.hid hxv
      have HNb := Lib.hid hnb
      have k0 : (0 : Int) ≤ k := by omega
      have k1 : (k : Int) < nv := by omega
      have HC : Hid (∀ wr j, ApS base wr (.slice (some ⟨g, 0, none⟩) nv cv) L (fillS PS k j) → wr.cell? ⟨g, k * 5 + 4, none⟩ = some (.slice ab nb cb)) := Lib.hid (fun wr j h => by
        have := (own_cell h.own (mvCells_get HX.out 4 (by omega))).1
        rw [this]
        show some x.2 = _
        rw [hxv])
      clear hx hpk hxv hnb
      go_wp2_with fail
      go_loopw [4] (fun jj wr => ∃ j : Nat, jj = .int .i64 j ∧ j ≤ nb ∧ ApS base wr (.slice (some ⟨g, 0, none⟩) nv cv) L (fillS PS k j) ∧ TouchA w wr L) (fun jj _ => nb - (RowKit.intOf jj).toNat)
      case atStart => exact ⟨0, rfl, Nat.zero_le _, HA.out, HT.out⟩
      case round =>
        obtain ⟨j, rfl, hj, ha, ht⟩ := hrel
        have HAj := Lib.hid ha
        have HTj := Lib.hid ht
        have hc4 := HC.out _ _ ha
        clear ha ht
        by_cases hjl : j < nb
        · obtain ⟨q, hq⟩ := fillP_get (i := k) (p := p) (j := j) (by have := HNb.out; omega)
          have HQ := Lib.hid hq
          have hop := HAj.out.pcs k x _ HX.out (fillS_at HPk.out)
          rw [HXv.out] at hop
          obtain ⟨b, hb'⟩ := own_addr hop (by omega)
          subst hb'
          obtain ⟨c0, f0⟩ := own_cell hop (pcCells_get hq 0 (by omega))
          obtain ⟨c1, f1⟩ := own_cell hop (pcCells_get hq 1 (by omega))
          rw [Nat.add_zero] at c0 f0
          have c0' : _ = some (Value.int .i64 q.off) := c0
          have c1' : _ = some (Value.string (bs q.data)) := c1
          have j0 : (0 : Int) ≤ j := by omega
          have j1 : (j : Int) < nb := by omega
          clear hq hop c0 c1
          go_wp2_with fail
          go_roundw
          case rel => exact ⟨j + 1, by go_num, by omega, by have h := HAj.out.put HX.out (fillS_at HPk.out) HXv.out HQ.out (mineP k); rw [fillS_step HPk.out (by have := HNb.out; omega)] at h; exact h, (HTj.out.set (List.mem_of_getElem? HX.out) (by rw [HXv.out]; rfl) _ _).set (List.mem_of_getElem? HX.out) (by rw [HXv.out]; rfl) _ _⟩
          case measure => simp [RowKit.intOf]; omega
        · obtain rfl : j = nb := by omega
          have HN : Hid (ApS base wr (.slice (some ⟨g, 0, none⟩) nv cv) L (fillS PS (k + 1) 0)) := Lib.hid (by have h := HAj.out; rw [HNb.out, fillS_next HPk.out] at h; exact h)
          go_wp2_with fail
          go_roundw
          case rel => exact ⟨k + 1, by go_num, by omega, HN.out, HTj.out⟩
          case measure => simp [RowKit.intOf]; omega
    · obtain rfl : nv = k := by omega
      obtain ⟨PS1, hPS⟩ : ∃ PS1, fillS PS nv 0 = PS1 := ⟨_, rfl⟩
      have HF : Hid (∀ i p, PS1[i]? = some p → ∃ n, n ≤ 1048576 ∧ p = List.replicate n (mineP i)) := Lib.hid (fun i p h => by
        rw [← hPS] at h
        obtain ⟨q, hq, e⟩ := fillS_end (by have := HS.out.len; have := HNv.out; omega) h
        exact ⟨q.length, HPl.out q (List.mem_of_getElem? hq), e⟩)
      rw [hPS] at HA
      have HLo : Hid (∀ x ∈ L, ∀ u, x.2.ownBlock = some u → u < w.heap.size) := Lib.hid (fun x hx u e => by
        obtain ⟨j, hj⟩ := List.getElem?_of_mem hx
        have hjl := (List.getElem?_eq_some_iff.1 hj).1
        exact ((HS.out.pcs j x _ hj (List.getElem?_eq_getElem (by have := HS.out.len; omega))).lt u e).2)
      clear hPS HS
      have HG0 : Hid (GrS w.heap.size base (wr.alloc (.cells #[] 49)) (.slice av nv cv) L PS1 (.slice (some ⟨wr.heap.size, 0, none⟩) 0 0) 0 []) := Lib.hid (by
        have ho := World.ownsRow_made wr #[] 0 (e := 49) (size := 1) (base := w.heap.size) HT.out.size (by simp [maxLen]) rfl
        have hb1 := below_alloc1 wr (.cells #[] 49)
        exact ⟨⟨own_below HA.out.own hb1, HA.out.len, fun i x p h1 h2 => own_below (HA.out.pcs i x p h1 h2) hb1, HA.out.dis⟩, ho, rfl, fun i y p h => by simp at h, fun i y x h => by simp at h⟩)
      have HT0 : Hid (TouchA w (wr.alloc (.cells #[] 49)) L) := Lib.hid ⟨HT.out.os, HT.out.tape, HT.out.output, Nat.le_trans HT.out.size (by rw [alloc_size]; omega), fun k hk hn => (Below.heap_alloc wr _ k (Nat.lt_of_lt_of_le hk HT.out.size)).trans (HT.out.block k hk hn)⟩
      obtain ⟨i1, hi1, hz1, hs1, hb1⟩ := info_parts info82
      obtain ⟨i2, hi2, hz2, hs2, hb2⟩ := info_parts info49
      go_wp2_with fail
      go_loopw [5, 6] (fun vg i wr => ∃ (k : Nat) (gs : List Value), i = .int .i64 k ∧ k ≤ nv ∧ GrS w.heap.size base wr (.slice av nv cv) L PS1 vg k gs ∧ TouchA w wr L) (fun _ i _ => nv - (RowKit.intOf i).toNat)
      case atStart => exact ⟨0, [], rfl, Nat.zero_le _, HG0.out, HT0.out⟩
      case round =>
        obtain ⟨k, gs, rfl, hk, hgr, htw⟩ := hrel
        clear HG0 HT0 HA HT
        have HGr := Lib.hid hgr
        have HTw := Lib.hid htw
        clear hgr htw
        by_cases hlt2 : k < nv
        · obtain ⟨x, hx⟩ : ∃ x, L[k]? = some x := ⟨_, List.getElem?_eq_getElem (by have := HNv.out; omega)⟩
          obtain ⟨p, hpk⟩ : ∃ p, PS1[k]? = some p := ⟨_, List.getElem?_eq_getElem (by have := HGr.out.ap.len; have := HNv.out; omega)⟩
          obtain ⟨ab, nb, cb, hxv⟩ := HSl.out x (List.mem_of_getElem? hx)
          have hop := HGr.out.ap.pcs k x p hx hpk
          rw [hxv] at hop
          have hnb : nb = p.length := own_len' hop
          obtain ⟨np, hnp, hpe⟩ := HF.out k p hpk
          have hnp' : p.length = np := by rw [hpe, List.length_replicate]
          have hnbl : nb ≤ 1048576 := by omega
          obtain ⟨g, hg⟩ := own_addr HGr.out.ap.own (by omega)
          subst hg
          obtain ⟨c4, _⟩ := own_cell HGr.out.ap.own (mvCells_get hx 4 (by omega))
          have c4' : wr.cell? ⟨g, k * 5 + 4, none⟩ = some (Value.slice ab nb cb) := by rw [c4]; show some x.2 = _; rw [hxv]
          have HX := Lib.hid hx
          have HPk := Lib.hid hpk
          have HXv := Lib.hid hxv
          have HNb := Lib.hid hnb
          have k0 : (0 : Int) ≤ k := by omega
          have k1 : (k : Int) < nv := by omega
          have HOp : Hid ((wr.alloc (.cells #[.int .i64 (-1 - (k : Int)), .string ⟨#[98, 101, 104, 105, 110, 100]⟩] 82)).ownsRow base 82 2 (.slice ab nb cb) nb (pcCells p)) := Lib.hid (by
            have h : World.ownsRow _ _ _ _ _ p.length _ := own_below hop (below_alloc1 wr (.cells #[.int .i64 (-1 - (k : Int)), .string ⟨#[98, 101, 104, 105, 110, 100]⟩] 82))
            rw [← hnb] at h
            exact h)
          have HRm := Lib.hid (Row.new wr 82 [.int .i64 (-1 - (k : Int)), .string ⟨#[98, 101, 104, 105, 110, 100]⟩])
          have HSrc : Hid (∀ j u, (pcCells [behP k])[j]? = some u → (wr.alloc (.cells #[.int .i64 (-1 - (k : Int)), .string ⟨#[98, 101, 104, 105, 110, 100]⟩] 82)).cell? ((⟨wr.heap.size, 0, none⟩ : Addr).add j) = some u) := Lib.hid HRm.out.cells
          have HBs : Hid (base ≤ (wr.alloc (.cells #[.int .i64 (-1 - (k : Int)), .string ⟨#[98, 101, 104, 105, 110, 100]⟩] 82)).heap.size) := Lib.hid (by rw [alloc_size]; have := HTw.out.size; omega)
          have hgn : gs.length = k := HGr.out.len
          have HGn := Lib.hid hgn
          clear hx hpk hxv hnb hop c4 hpe hnp' hgn
          go_wp2_with (first
            | (at_builtin; refine wpl_appR 49 82 i1 _ 2 24 Tryd.underlying49 hi1 hz1 hs1 hb1 rfl (by decide) HOp.out (by rfl) _ _ (by rfl) (by rfl) ⟨wr.heap.size, 0, none⟩ 1 1 (by rfl) (pcCells [behP k]) rfl HSrc.out (pcCells_one _) (by decide) HBs.out (by omega) (by decide) ?_; intro v1 w1 h1 h2 h3 h4; obtain ⟨a1, n1, c1, rfl⟩ := own_isSl h1; have HV1 := Lib.hid h1; have HX1 := Lib.hid h2; have HG1 := Lib.hid h3; have HB1 := Lib.hid h4; have HVg : Hid ((w1.alloc (.cells #[.slice a1 n1 c1] 49)).ownsRow w.heap.size 49 1 u5 k gs) := Lib.hid (ap_vg HGr.out HX.out HPk.out HXv.out HG1.out HGn.out); have HRn := Lib.hid (Row.new w1 49 [.slice a1 n1 c1]); have HS2 : Hid (∃ ad c, Value.slice (some ⟨w1.heap.size, 0, none⟩) 1 1 = .slice ad 1 c ∧ (0 < 1 → ∃ g off, ad = some ⟨g, off, none⟩ ∧ ∀ j u, [Value.slice a1 n1 c1][j]? = some u → (w1.alloc (.cells #[.slice a1 n1 c1] 49)).cell? ⟨g, off + j, none⟩ = some u)) := Lib.hid ⟨_, _, rfl, fun _ => ⟨_, 0, rfl, fun j u hj => (by rw [Nat.zero_add]; exact (HRn.out.cell j).trans hj)⟩⟩; have HN2 : Hid (NilOk (.slice (some ⟨w1.heap.size, 0, none⟩) 1 1)) := Lib.hid (fun n c e => (by cases e)); have HBb : Hid (w.heap.size ≤ (w1.alloc (.cells #[.slice a1 n1 c1] 49)).heap.size) := Lib.hid (by rw [alloc_size]; have := HG1.out.size; rw [alloc_size] at this; have := HTw.out.size; omega); clear h1 h2 h3 h4)
            | (at_builtin; refine wpl_many 36 49 i2 _ 1 24 Tryd.underlying36 hi2 hz2 hs2 hb2 rfl (by decide) HVg.out (by rfl) _ _ (by rfl) (by rfl) (.slice (some ⟨w1.heap.size, 0, none⟩) 1 1) (by rfl) [.slice a1 n1 c1] 1 rfl HN2.out HS2.out (by intro u hu; rw [List.mem_singleton.1 hu]; rfl) HBb.out (by omega) (by decide) ?_; intro v3 w3 h1 h2 h3; have HV3 := Lib.hid h1; have HG3 := Lib.hid h2; clear h1 h2 h3))
          have HSt := Lib.hid (GrS.step (v' := .slice a1 n1 c1) HGr.out HTw.out rfl HX.out HPk.out HLo.out (by
            have h := HV1.out
            rw [HNb.out, ← pcCells_app] at h
            show World.ownsRow _ _ _ _ _ (p ++ [behP k]).length _
            rw [List.length_append]
            exact h) (by
            have h := HX1.out
            rw [HXv.out]
            show World.ownsRow _ _ _ _ _ p.length _
            rw [← HNb.out]
            exact h) (by rw [HXv.out]; exact HG1.out) (by rw [HXv.out]; exact HB1.out) (by
            show World.ownsRow _ _ _ _ _ (gs ++ [_]).length _
            rw [List.length_append, HGn.out]
            exact HV3.out) HG3.out)
          clear HOp HRm HSrc HBs HV1 HX1 HG1 HB1 HVg HRn HS2 HN2 HBb HV3 HG3 c4'
          go_roundw
          case rel => exact ⟨k + 1, gs ++ [.slice a1 n1 c1], by go_num, by omega, HSt.out.1, HSt.out.2⟩
          case measure => simp [RowKit.intOf]; omega
        · obtain rfl : nv = k := by omega
          obtain ⟨ag, ng, cg, rfl⟩ := own_isSl HGr.out.row
          have hng : ng = nv := by rw [own_len' HGr.out.row, HGr.out.len]
          subst hng
          go_wp2_with fail
          go_loopw [7, 8, 9] (fun i _ _ w3 => ∃ k : Nat, i = .int .i64 k ∧ k ≤ ng ∧ w3 = wr) (fun i _ _ _ => ng - (RowKit.intOf i).toNat)
          case atStart => exact ⟨0, rfl, Nat.zero_le _, rfl⟩
          case round =>
            obtain ⟨k, rfl, hk, rfl⟩ := hrel
            by_cases hlt3 : k < ng
            · obtain ⟨x, hx⟩ : ∃ x, L[k]? = some x := ⟨_, List.getElem?_eq_getElem (by have := HNv.out; omega)⟩
              obtain ⟨p, hpk⟩ : ∃ p, PS1[k]? = some p := ⟨_, List.getElem?_eq_getElem (by have := HGr.out.ap.len; have := HNv.out; omega)⟩
              obtain ⟨y, hy⟩ : ∃ y, gs[k]? = some y := ⟨_, List.getElem?_eq_getElem (by have := HGr.out.len; omega)⟩
              obtain ⟨ab, nb, cb, hxv⟩ := HSl.out x (List.mem_of_getElem? hx)
              have hop := HGr.out.ap.pcs k x p hx hpk
              rw [hxv] at hop
              have hoy := HGr.out.own k y p hy hpk
              obtain ⟨ay, ny, cy, rfl⟩ := own_isSl hoy
              have hnb : nb = p.length := own_len' hop
              have hny : ny = nb + 1 := by rw [own_len' hoy, List.length_append, hnb]; rfl
              subst hny
              obtain ⟨np, hnp, hpe⟩ := HF.out k p hpk
              have hnbl : nb ≤ 1048576 := by rw [hnb, hpe, List.length_replicate]; exact hnp
              obtain ⟨g, hg⟩ := own_addr HGr.out.ap.own (by omega)
              subst hg
              obtain ⟨gg, hgg⟩ := own_addr HGr.out.row (by omega)
              subst hgg
              obtain ⟨gy, hgy⟩ := own_addr hoy (by omega)
              subst hgy
              obtain ⟨c4, _⟩ := own_cell HGr.out.ap.own (mvCells_get hx 4 (by omega))
              have c4' : wr.cell? ⟨g, k * 5 + 4, none⟩ = some (Value.slice ab nb cb) := by rw [c4]; show some x.2 = _; rw [hxv]
              obtain ⟨cgk, _⟩ := own_cell HGr.out.row hy
              have hlast : (p ++ [behP k])[nb]? = some (behP k) := by rw [hnb, List.getElem?_append_right (Nat.le_refl _), Nat.sub_self]; rfl
              have cl0 : wr.cell? ⟨gy, nb * 2, none⟩ = some (.int .i64 (-1 - (k : Int))) := by have h := (own_cell hoy (pcCells_get hlast 0 (by omega))).1; rw [Nat.add_zero] at h; exact h
              have cl1 : wr.cell? ⟨gy, nb * 2 + 1, none⟩ = some (.string ⟨#[98, 101, 104, 105, 110, 100]⟩) := (own_cell hoy (pcCells_get hlast 1 (by omega))).1
              have HRd : Hid (∀ j, j < nb → p[j]? = some (mineP k)) := Lib.hid (fun j hj => by rw [hpe, List.getElem?_replicate, if_pos (by rw [hnb, hpe, List.length_replicate] at hj; exact hj)])
              have HOp := Lib.hid hop
              have HOy := Lib.hid hoy
              have HNb := Lib.hid hnb
              have k0 : (0 : Int) ≤ k := by omega
              have k1 : (k : Int) < ng := by omega
              have e1 : ((nb + 1 : Nat) : Int) - 1 = (nb : Int) := by omega
              have e2 : (nb : Int) < ((nb + 1 : Nat) : Int) := by omega
              clear hx hpk hy hxv hop hoy hnb hpe c4 hlast
              go_wp2_with fail
              go_loopw [9] (fun jj w4 => ∃ j : Nat, jj = .int .i64 j ∧ j ≤ nb ∧ w4 = wr) (fun jj _ => nb - (RowKit.intOf jj).toNat)
              case atStart => exact ⟨0, rfl, Nat.zero_le _, rfl⟩
              case round =>
                obtain ⟨j, rfl, hj, rfl⟩ := hrel
                by_cases hjl : j < nb
                · have hpj := HRd.out j hjl
                  obtain ⟨b, hb'⟩ := own_addr HOp.out (by omega)
                  subst hb'
                  have d0 : wr.cell? ⟨b, j * 2, none⟩ = some (.int .i64 (-1 - (k : Int))) := by have h := (own_cell HOp.out (pcCells_get hpj 0 (by omega))).1; rw [Nat.add_zero] at h; exact h
                  have d1 : wr.cell? ⟨b, j * 2 + 1, none⟩ = some (.string ⟨#[109, 105, 110, 101]⟩) := (own_cell HOp.out (pcCells_get hpj 1 (by omega))).1
                  have hpj2 : (p ++ [behP k])[j]? = some (mineP k) := by rw [List.getElem?_append_left (by have := HNb.out; omega)]; exact hpj
                  have d2 : wr.cell? ⟨gy, j * 2, none⟩ = some (.int .i64 (-1 - (k : Int))) := by have h := (own_cell HOy.out (pcCells_get hpj2 0 (by omega))).1; rw [Nat.add_zero] at h; exact h
                  have j0 : (0 : Int) ≤ j := by omega
                  have j1 : (j : Int) < nb := by omega
                  have j2 : (j : Int) < ((nb + 1 : Nat) : Int) := by omega
                  clear hpj hpj2 cl0 cl1 e1 e2
                  go_wp2_with fail
                  go_roundw
                  case rel => exact ⟨j + 1, by go_num, by omega, trivial⟩
                  case measure => simp [RowKit.intOf]; omega
                · obtain rfl : nb = j := by omega
                  go_wp2_with fail
                  go_roundw
                  case rel => exact ⟨k + 1, by go_num, by omega, trivial⟩
                  case measure => simp [RowKit.intOf]; omega
            · obtain rfl : k = ng := by omega
              go_wp2
              go_ret
              exact ⟨rfl, HTw.out⟩
end Go.Proofs.YtlecpjfggoehdaaDoor.Ar
