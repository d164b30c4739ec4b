
/- Archive, the law's own: rows of members and of pieces of one's own. -/
import Derived.Test.YtlecpjfggoehdaaGreatDoorArZ
import Derived.Maps.AppendAt
import Derived.Laws.AppendOwnNone
import Derived.Laws.OwnMore
set_option linter.unusedVariables false
set_option linter.unusedSimpArgs false
set_option maxRecDepth 100000
namespace Go.Proofs.YtlecpjfggoehdaaGreatDoor.Ar
open Go.RowKit Go.Sort Go.Lib Go.Proofs.YtlecpjfggoehdaaGreatDoor.Rs

/-! ### lists of cells -/
theorem flat_get {α β : Type} (f : α → List β) (s : Nat) (hf : ∀ x, (f x).length = s) : ∀ (L : List α) (j i : Nat) (x : α), L[j]? = some x → i < s → ((L.map f).flatten)[j * s + i]? = (f x)[i]?
  | [], j, i, x, h, _ => by simp at h
  | y :: L, 0, i, x, h, hi => by
    simp at h
    subst h
    rw [List.map_cons, List.flatten_cons, List.getElem?_append_left (by rw [hf]; omega)]
    simp
  | y :: L, j + 1, i, x, h, hi => by
    rw [List.map_cons, List.flatten_cons, List.getElem?_append_right (by rw [hf, Nat.succ_mul]; omega), hf, show (j + 1) * s + i - s = j * s + i by rw [Nat.succ_mul]; omega]
    exact flat_get f s hf L j i x (by simpa using h) hi
theorem flat_len {α β : Type} (f : α → List β) (s : Nat) (hf : ∀ x, (f x).length = s) : ∀ L : List α, ((L.map f).flatten).length = L.length * s
  | [] => by simp
  | y :: L => by rw [List.map_cons, List.flatten_cons, List.length_append, hf, flat_len f s hf L, List.length_cons, Nat.succ_mul]; omega
theorem flat_set {α β : Type} (f : α → List β) (s : Nat) (hf : ∀ x, (f x).length = s) (i : Nat) (v : β) (g : α → α) (hg : ∀ x, f (g x) = (f x).set i v) (hi : i < s) : ∀ (L : List α) (j : Nat) (x : α), L[j]? = some x → ((L.map f).flatten).set (j * s + i) v = ((L.set j (g x)).map f).flatten
  | [], j, x, h => by simp at h
  | y :: L, 0, x, h => by
    simp at h
    subst h
    rw [List.map_cons, List.flatten_cons, List.set_cons_zero, List.map_cons, List.flatten_cons, hg, Nat.zero_mul, Nat.zero_add, List.set_append_left _ _ (by rw [hf]; exact hi)]
  | y :: L, j + 1, x, h => by
    rw [List.map_cons, List.flatten_cons, List.set_cons_succ, List.map_cons, List.flatten_cons, List.set_append_right _ _ (by rw [hf, Nat.succ_mul]; omega), hf, show (j + 1) * s + i - s = j * s + i by rw [Nat.succ_mul]; omega,
      flat_set f s hf i v g hg hi L j x (by simpa using h)]
theorem flat_cover {α β : Type} (f : α → List β) (s : Nat) (h0 : 0 < s) (hf : ∀ x, (f x).length = s) (L : List α) (q : Nat) (u : β) (h : ((L.map f).flatten)[q]? = some u) : ∃ x, L[q / s]? = some x ∧ (f x)[q % s]? = some u := by
  have hq := (List.getElem?_eq_some_iff.1 h).1
  rw [flat_len f s hf] at hq
  have hj : q / s < L.length := Nat.div_lt_of_lt_mul (by rw [Nat.mul_comm]; exact hq)
  have e : q = q / s * s + q % s := by rw [Nat.mul_comm]; exact (Nat.div_add_mod q s).symm
  refine ⟨L[q / s], List.getElem?_eq_getElem hj, ?_⟩
  rw [← flat_get f s hf L (q / s) (q % s) _ (List.getElem?_eq_getElem hj) (Nat.mod_lt _ h0), ← e]
  exact h

abbrev MV := Mb × Value
def mvRow (x : MV) : List Value := mbCells x.1 x.2
def pcRow (p : Pc) : List Value := [.int .i64 p.off, .string (bs p.data)]
def mvCells (L : List MV) : List Value := (L.map mvRow).flatten
def pcCells (L : List Pc) : List Value := (L.map pcRow).flatten
theorem mvRow_len (x : MV) : (mvRow x).length = 5 := rfl
theorem pcRow_len (x : Pc) : (pcRow x).length = 2 := rfl
theorem mvCells_len (L : List MV) : (mvCells L).length = L.length * 5 := flat_len _ _ mvRow_len L
theorem pcCells_len (L : List Pc) : (pcCells L).length = L.length * 2 := flat_len _ _ pcRow_len L
theorem mvCells_app (L M : List MV) : mvCells (L ++ M) = mvCells L ++ mvCells M := by simp [mvCells]
theorem pcCells_app (L M : List Pc) : pcCells (L ++ M) = pcCells L ++ pcCells M := by simp [pcCells]
def IsSl (v : Value) : Prop := ∃ a n c, v = .slice a n c
def NilOk (v : Value) : Prop := ∀ n c, v = .slice none n c → n = 0 ∧ c = 0
theorem mvCells_one (L : List MV) (h : ∀ x ∈ L, IsSl x.2) : ∀ u ∈ mvCells L, u.oneCell' = true := fun u hu => by
  obtain ⟨r, hr, hu⟩ := List.mem_flatten.1 hu
  obtain ⟨x, hx, rfl⟩ := List.mem_map.1 hr
  obtain ⟨a, n, c, e⟩ := h x hx
  simp only [mvRow, mbCells, List.mem_cons, List.not_mem_nil, or_false] at hu
  rcases hu with rfl | rfl | rfl | rfl | rfl <;> first | rfl | (rw [e]; rfl)
theorem pcCells_one (L : List Pc) : ∀ u ∈ pcCells L, u.oneCell' = true := fun u hu => by
  obtain ⟨r, hr, hu⟩ := List.mem_flatten.1 hu
  obtain ⟨x, _, rfl⟩ := List.mem_map.1 hr
  simp only [pcRow, List.mem_cons, List.not_mem_nil, or_false] at hu
  rcases hu with rfl | rfl <;> rfl
theorem mvCells_get {L : List MV} {j : Nat} {x : MV} (h : L[j]? = some x) (i : Nat) (hi : i < 5) : (mvCells L)[j * 5 + i]? = (mvRow x)[i]? := flat_get _ _ mvRow_len L j i x h hi
theorem mvCells_set {L : List MV} {j : Nat} {x : MV} (h : L[j]? = some x) (v : Value) : (mvCells L).set (j * 5 + 4) v = mvCells (L.set j (x.1, v)) :=
  flat_set mvRow 5 mvRow_len 4 v (fun x => (x.1, v)) (fun x => rfl) (by omega) L j x h
theorem pcCells_get {L : List Pc} {j : Nat} {x : Pc} (h : L[j]? = some x) (i : Nat) (hi : i < 2) : (pcCells L)[j * 2 + i]? = (pcRow x)[i]? := flat_get _ _ pcRow_len L j i x h hi

/-! ### rows of one's own -/
abbrev OwnM (base : Nat) (w : World) (v : Value) (L : List MV) : Prop := w.ownsRow base 58 5 v L.length (mvCells L)
abbrev OwnP (base : Nat) (w : World) (v : Value) (L : List Pc) : Prop := w.ownsRow base 62 2 v L.length (pcCells L)
abbrev OwnV (base : Nat) (w : World) (v : Value) (L : List Value) : Prop := w.ownsRow base 56 1 v L.length L
theorem own_keep {w w' : World} {base e size n : Nat} {v : Value} {xs : List Value} (h : w.ownsRow base e size v n xs) (hb : ∀ k, v.ownBlock = some k → w'.heap[k]? = w.heap[k]?) : w'.ownsRow base e size v n xs := by
  refine ⟨h.1, ?_⟩
  rcases h.2 with h0 | ⟨g, cap, cur, e, hb', hh, h1, h2, h3, h4⟩
  · exact .inl h0
  · exact .inr ⟨g, cap, cur, e, hb', (hb g (by rw [e]; rfl)).trans hh, h1, h2, h3, h4⟩
theorem own_apart {w : World} {base base' e e' size size' n n' : Nat} {v v' : Value} {xs xs' : List Value} (h : w.ownsRow base e size v n xs) (h' : w.ownsRow base' e' size' v' n' xs') (hne : e ≠ e') {k : Nat} (hk : v.ownBlock = some k) : v'.ownBlock ≠ some k := fun hk' => by
  rcases h.2 with ⟨rfl, _⟩ | ⟨g, cap, cur, rfl, _, hh, _⟩
  · cases hk
  · rcases h'.2 with ⟨rfl, _⟩ | ⟨g', cap', cur', rfl, _, hh', _⟩
    · cases hk'
    · cases hk
      cases hk'
      rw [hh] at hh'
      injection hh' with hh'
      injection hh' with _ e
      exact hne e
theorem own_form {w : World} {base e size n : Nat} {v : Value} {xs : List Value} (h : w.ownsRow base e size v n xs) (hn : 0 < n) : ∃ g c, v = .slice (some ⟨g, 0, none⟩) n c ∧ base ≤ g ∧ g < w.heap.size ∧ n ≤ c ∧ (∀ j u, xs[j]? = some u → w.cell? ⟨g, j, none⟩ = some u) ∧ ∀ j, w.frozen? ⟨g, j, none⟩ = false := by
  rcases h.2 with ⟨_, h0⟩ | ⟨g, cap, cur, rfl, hb, hh, hc, _⟩
  · omega
  · refine ⟨g, cap, rfl, hb, (Array.getElem?_eq_some_iff.1 hh).1, hc, fun j u hj => ?_, fun j => h.frozenAt j⟩
    have := h.cells (g := g) rfl j u hj
    rwa [add0] at this
theorem OwnP.sl {base : Nat} {w : World} {v : Value} {L : List Pc} (h : OwnP base w v L) (hi : ∀ p ∈ L, I64 p.off) : Sl RPc 2 w v L := by
  by_cases h0 : L.length = 0
  · have := List.eq_nil_of_length_eq_zero h0
    subst this
    rcases h.2 with ⟨rfl, _⟩ | ⟨g, cap, cur, rfl, _⟩
    · exact ⟨none, 0, 0, 0, rfl, fun h => by simp at h, fun j x hj => by simp at hj⟩
    · exact ⟨_, g, 0, cap, rfl, fun h => by simp at h, fun j x hj => by simp at hj⟩
  · obtain ⟨g, c, rfl, _, _, _, hc, _⟩ := own_form h (by omega)
    refine ⟨_, g, 0, c, rfl, fun _ => rfl, fun j x hj => ⟨?_, ?_, hi x (List.mem_of_getElem? hj)⟩⟩
    · rw [Nat.zero_add]
      exact hc (j * 2) _ (by have h := pcCells_get hj 0 (by omega); rw [Nat.add_zero] at h; rw [h]; rfl)
    · rw [Nat.zero_add]
      exact hc (j * 2 + 1) _ (by rw [pcCells_get hj 1 (by omega)]; rfl)
theorem OwnM.sl {base : Nat} {w : World} {v : Value} {L : List MV} (h : OwnM base w v L) (hv : ∀ x ∈ L, MbV w x.1 x.2) : Sl RMb 5 w v (L.map (·.1)) := by
  by_cases h0 : L.length = 0
  · have := List.eq_nil_of_length_eq_zero h0
    subst this
    rcases h.2 with ⟨rfl, _⟩ | ⟨g, cap, cur, rfl, _⟩
    · exact ⟨none, 0, 0, 0, rfl, fun h => by simp at h, fun j x hj => by simp at hj⟩
    · exact ⟨_, g, 0, cap, rfl, fun h => by simp at h, fun j x hj => by simp at hj⟩
  · obtain ⟨g, c, rfl, _, _, _, hc, _⟩ := own_form h (by omega)
    refine ⟨_, g, 0, c, by rw [List.length_map], fun _ => rfl, fun j x hj => ?_⟩
    rw [List.getElem?_map, Option.map_eq_some_iff] at hj
    obtain ⟨y, hy, rfl⟩ := hj
    rw [Nat.zero_add]
    refine ⟨y.2, hc (j * 5) _ ?_, hc (j * 5 + 1) _ ?_, hc (j * 5 + 2) _ ?_, hc (j * 5 + 3) _ ?_, hc (j * 5 + 4) _ ?_, hv y (List.mem_of_getElem? hy)⟩
    · have h := mvCells_get hy 0 (by omega); rw [Nat.add_zero] at h; rw [h]; rfl
    · rw [mvCells_get hy 1 (by omega)]; rfl
    · rw [mvCells_get hy 2 (by omega)]; rfl
    · rw [mvCells_get hy 3 (by omega)]; rfl
    · rw [mvCells_get hy 4 (by omega)]; rfl

/-- a member's cells, its pieces' value either nil outright or somewhere -/
def RMbN (w : World) (b o : Nat) (m : Mb) : Prop := ∃ vp, w.cell? ⟨b, o, none⟩ = some (.int .i64 m.kind) ∧ w.cell? ⟨b, o + 1, none⟩ = some (.string (bs m.path)) ∧ w.cell? ⟨b, o + 2, none⟩ = some (.string (bs m.link)) ∧
  w.cell? ⟨b, o + 3, none⟩ = some (.int .i64 m.size) ∧ w.cell? ⟨b, o + 4, none⟩ = some vp ∧ MbV w m vp ∧ NilOk vp
theorem RMbN.stays : Stays RMbN := fun _ _ hk _ _ _ h => by
  obtain ⟨vp, h0, h1, h2, h3, h4, h5, h6⟩ := h
  exact ⟨vp, hk _ _ _ h0, hk _ _ _ h1, hk _ _ _ h2, hk _ _ _ h3, hk _ _ _ h4, h5.keep hk, h6⟩
theorem Sl.mb {w : World} {v : Value} {l : List Mb} (h : Sl RMbN 5 w v l) : Sl RMb 5 w v l := by
  obtain ⟨a, b, o, c, e, ha, hc⟩ := h
  refine ⟨a, b, o, c, e, ha, fun j x hj => ?_⟩
  obtain ⟨vp, h0, h1, h2, h3, h4, h5, h6⟩ := hc j x hj
  exact ⟨vp, h0, h1, h2, h3, h4, h5⟩

theorem info51 : (Tryz.prog.info? 58).map (fun i => (i.zero, i.size, i.bytes)) = some (some (.agg #[.int .i64 0, .string ⟨#[]⟩, .string ⟨#[]⟩, .int .i64 0, .slice none 0 0]), 5, 72) := by kernel_rfl
theorem info82 : (Tryz.prog.info? 62).map (fun i => (i.zero, i.size, i.bytes)) = some (some (.agg #[.int .i64 0, .string ⟨#[]⟩]), 2, 24) := by kernel_rfl
theorem info49 : (Tryz.prog.info? 56).map (fun i => (i.zero, i.size, i.bytes)) = some (some (.slice none 0 0), 1, 24) := by kernel_rfl
end Go.Proofs.YtlecpjfggoehdaaGreatDoor.Ar
