
/- Archive, the law's own: roomy. -/
import Derived.Test.YtlecpjfggoehdaaGreatDoorArTx
set_option linter.unusedVariables false
set_option linter.unusedSimpArgs false
set_option maxRecDepth 100000
namespace Go.Proofs.YtlecpjfggoehdaaGreatDoor.Ar
open Go.RowKit Go.Sort Go.Lib Go.Proofs.YtlecpjfggoehdaaGreatDoor.Rs

/-- behind k rounds: the first k members' pieces have a mark behind them -/
structure RoomS (base : Nat) (wr : World) (v vm : Value) (l : List Mb) (k : Nat) (L : List MV) (Ps : List Value) : Prop where
  fst : L.map (·.1) = l
  row : OwnM base wr v L
  mrow : OwnV base wr vm Ps
  plen : Ps.length = k
  done : ∀ j x p, j < k → L[j]? = some x → Ps[j]? = some p → OwnP base wr p (x.1.pieces ++ [markP]) ∧ ∃ g c, p = .slice (some ⟨g, 0, none⟩) (x.1.pieces.length + 1) c ∧ x.2 = .slice (some ⟨g, 0, none⟩) x.1.pieces.length c ∧
    ∀ i y gi, k ≤ i → L[i]? = some y → y.2.ownBlock = some gi → g ≠ gi
  todo : ∀ j x, k ≤ j → L[j]? = some x → OwnP base wr x.2 x.1.pieces ∧ ∃ g, x.2.ownBlock = some g
  inc : ∀ i j x y gi gj, k ≤ i → i < j → L[i]? = some x → L[j]? = some y → x.2.ownBlock = some gi → y.2.ownBlock = some gj → gi ≠ gj
  sl : ∀ x ∈ L, IsSl x.2
  num : ∀ m ∈ l, I64 m.kind ∧ I64 m.size ∧ ∀ p ∈ m.pieces, I64 p.off
  len : l.length ≤ 1048576
  pcs : ∀ m ∈ l, m.pieces.length ≤ 1048576
theorem RoomS.start {w0 wr wr2 : World} {base : Nat} {v vm : Value} {l : List Mb} {L : List MV} (h : TwinS w0 base wr v l l.length L) (hb : Below wr.heap.size wr wr2) (hm : OwnV base wr2 vm []) : RoomS base wr2 v vm l 0 L [] := by
  have hl : L.length = l.length := by rw [← h.fst, List.length_map]
  refine ⟨h.fst, own_below h.row hb, hm, rfl, fun j x p hj => by omega, fun j x _ hx => ?_, fun i j x y gi gj _ hij hx hy hgi hgj => ?_, h.sl, h.num, h.len, h.pcs⟩
  · have := (List.getElem?_eq_some_iff.1 hx).1
    obtain ⟨h1, h2⟩ := h.own j x (by omega) hx
    exact ⟨own_below h1 hb, h2⟩
  · have := (List.getElem?_eq_some_iff.1 hy).1
    have := h.inc i j x y gi gj hij (by omega) hx hy hgi hgj
    omega
theorem RoomS.step {wr w1 w3 : World} {base g c n gp cp : Nat} {vm vm' : Value} {l : List Mb} {k : Nat} {L : List MV} {Ps : List Value} {x : MV} (h : RoomS base wr (.slice (some ⟨g, 0, none⟩) n c) vm l k L Ps) (hx : L[k]? = some x)
    (h1 : ∀ u, u < wr.heap.size → x.2.ownBlock ≠ some u → w1.heap[u]? = wr.heap[u]?) (hs1 : wr.heap.size ≤ w1.heap.size) (hp : OwnP base w1 (.slice (some ⟨gp, 0, none⟩) (x.1.pieces.length + 1) cp) (x.1.pieces ++ [markP])) (hq : x.2.ownBlock = some gp ∨ wr.heap.size ≤ gp)
    (h3 : ∀ u, u < w1.heap.size → vm.ownBlock ≠ some u → w3.heap[u]? = (w1.setCell ⟨g, k * 5 + 4, none⟩ (.slice (some ⟨gp, 0, none⟩) x.1.pieces.length cp)).heap[u]?)
    (hm : OwnV base w3 vm' (Ps ++ [.slice (some ⟨gp, 0, none⟩) (x.1.pieces.length + 1) cp])) :
    RoomS base w3 (.slice (some ⟨g, 0, none⟩) n c) vm' l (k + 1) (L.set k (x.1, .slice (some ⟨gp, 0, none⟩) x.1.pieces.length cp)) (Ps ++ [.slice (some ⟨gp, 0, none⟩) (x.1.pieces.length + 1) cp]) := by
  have hkl : k < L.length := (List.getElem?_eq_some_iff.1 hx).1
  have hn : n = L.length := by
    rcases h.row.2 with ⟨e, _⟩ | ⟨g', cap, cur, e, _⟩
    · cases e
    · cases e; rfl
  subst hn
  obtain ⟨hxo, gx, hgx⟩ := h.todo k x (Nat.le_refl _) hx
  have hgl : g < wr.heap.size := (h.row.lt g rfl).2
  have hgne : x.2.ownBlock ≠ some g := fun e => own_apart hxo h.row (by decide) e rfl
  have hgm : vm.ownBlock ≠ some g := own_apart h.row h.mrow (by decide) rfl
  have hrow1 : OwnM base w1 (.slice (some ⟨g, 0, none⟩) L.length c) L := own_keep h.row (fun u e => by cases e; exact h1 g hgl hgne)
  have hmrow1 : OwnV base w1 vm Ps := own_keep h.mrow (fun u e => h1 u (h.mrow.lt u e).2 (own_apart h.mrow hxo (by decide) e))
  have hset : ∀ u, u ≠ g → (w1.setCell ⟨g, k * 5 + 4, none⟩ (.slice (some ⟨gp, 0, none⟩) x.1.pieces.length cp)).heap[u]? = w1.heap[u]? := fun u hu => Below.heap_setCell w1 _ _ u hu
  have hgp : gp < w1.heap.size := (hp.lt gp rfl).2
  have hpg : gp ≠ g := fun e => by subst e; exact own_apart hp hrow1 (by decide) rfl rfl
  have hpm : vm.ownBlock ≠ some gp := own_apart hp hmrow1 (by decide) rfl
  have keep3 : ∀ u, u < wr.heap.size → x.2.ownBlock ≠ some u → u ≠ g → vm.ownBlock ≠ some u → w3.heap[u]? = wr.heap[u]? := fun u hu n1 n2 n3 => ((h3 u (Nat.lt_of_lt_of_le hu hs1) n3).trans (hset u n2)).trans (h1 u hu n1)
  have hget : ∀ i, i ≠ k → (L.set k (x.1, Value.slice (some ⟨gp, 0, none⟩) x.1.pieces.length cp))[i]? = L[i]? := fun i hi => List.getElem?_set_ne (Ne.symm hi)
  refine ⟨?_, ?_, hm, by rw [List.length_append, h.plen]; rfl, ?_, ?_, ?_, ?_, h.num, h.len, h.pcs⟩
  · rw [← h.fst, List.map_set]
    have : (L.map (·.1))[k]? = some x.1 := by rw [List.getElem?_map, hx]; rfl
    apply List.ext_getElem?
    intro q
    by_cases e : k = q
    · subst e; rw [List.getElem?_set_self (by simpa using hkl), this]
    · rw [List.getElem?_set_ne e]
  · have := (hrow1.stored (k * 5 + 4) (.slice (some ⟨gp, 0, none⟩) x.1.pieces.length cp)).1
    rw [mvCells_set hx] at this
    have e : (L.set k (x.1, Value.slice (some ⟨gp, 0, none⟩) x.1.pieces.length cp)).length = L.length := List.length_set
    show World.ownsRow _ _ _ _ _ (L.set k _).length _
    rw [e]
    exact own_keep this (fun u e => by cases e; exact h3 g (by omega) hgm)
  · intro j y p hj hy hpj
    by_cases e : j = k
    · subst e
      rw [List.getElem?_set_self hkl] at hy
      cases hy
      rw [List.getElem?_append_right (by rw [h.plen]; omega), h.plen, Nat.sub_self] at hpj
      simp only [List.getElem?_cons_zero, Option.some.injEq] at hpj
      subst hpj
      refine ⟨own_keep hp (fun u e => by cases e; exact (h3 gp hgp hpm).trans (hset gp hpg)), gp, cp, rfl, rfl, fun i z gi hi hz hgi => ?_⟩
      rw [hget i (by omega)] at hz
      rcases hq with hq | hq
      · exact h.inc j i x z gp gi (Nat.le_refl _) (by omega) hx hz hq hgi
      · have := ((h.todo i z (by omega) hz).1.lt gi hgi).2
        omega
    · rw [hget j e] at hy
      rw [List.getElem?_append_left (by rw [h.plen]; omega)] at hpj
      obtain ⟨d1, gd, cd, rfl, d2, d3⟩ := h.done j y p (by omega) hy hpj
      refine ⟨own_keep d1 (fun u e => by cases e; exact keep3 gd (d1.lt gd rfl).2 (fun e => d3 k x gd (Nat.le_refl _) hx e rfl) (fun e => by subst e; exact own_apart d1 h.row (by decide) rfl rfl) (own_apart d1 h.mrow (by decide) rfl)), gd, cd, rfl, d2, fun i z gi hi hz hgi => ?_⟩
      rw [hget i (by omega)] at hz
      exact d3 i z gi (by omega) hz hgi
  · intro j y hj hy
    rw [hget j (by omega)] at hy
    obtain ⟨t1, gt, hgt⟩ := h.todo j y (by omega) hy
    exact ⟨own_keep t1 (fun u e => keep3 u (t1.lt u e).2 (fun e' => h.inc k j x y u u (Nat.le_refl _) (by omega) hx hy e' e rfl) (fun e' => by subst e'; exact own_apart t1 h.row (by decide) e rfl) (own_apart t1 h.mrow (by decide) e)), gt, hgt⟩
  · intro i j y z gi gj hi hij hy hz hgi hgj
    rw [hget i (by omega)] at hy
    rw [hget j (by omega)] at hz
    exact h.inc i j y z gi gj (by omega) hij hy hz hgi hgj
  · intro y hy
    rcases List.mem_or_eq_of_mem_set hy with hy | rfl
    · exact h.sl y hy
    · exact ⟨_, _, _, rfl⟩
/-- .. and all read as they should -/
theorem RoomS.mb {wr w2 : World} {base : Nat} {v vm : Value} {l : List Mb} {L : List MV} {Ps : List Value} (h : RoomS base wr v vm l l.length L Ps) (hk : ∀ u, u < wr.heap.size → v.ownBlock ≠ some u → w2.heap[u]? = wr.heap[u]?) : (∀ x ∈ L, MbV w2 x.1 x.2) ∧ Sl RPcs 1 w2 vm (l.map (fun m => m.pieces ++ [markP])) := by
  have hl : L.length = l.length := by rw [← h.fst, List.length_map]
  have hmem : ∀ {x : MV}, x ∈ L → x.1 ∈ l := fun hx => by rw [← h.fst]; exact List.mem_map_of_mem hx
  have hr : ∀ (j : Nat) (x : MV) (p : Value), L[j]? = some x → Ps[j]? = some p → Sl RPc 2 w2 p (x.1.pieces ++ [markP]) ∧ Sl RPc 2 w2 x.2 x.1.pieces := fun j x p hx hp => by
    have hj := (List.getElem?_eq_some_iff.1 hx).1
    obtain ⟨d1, gd, cd, rfl, d2, _⟩ := h.done j x p (by omega) hx hp
    have d1' : OwnP base w2 (.slice (some ⟨gd, 0, none⟩) (x.1.pieces.length + 1) cd) (x.1.pieces ++ [markP]) := own_keep d1 (fun u e => hk u (d1.lt u e).2 (own_apart d1 h.row (by decide) e))
    have hs := d1'.sl (fun q hq => by
      rcases List.mem_append.1 hq with hq | hq
      · exact (h.num x.1 (hmem (List.mem_of_getElem? hx))).2.2 q hq
      · rw [List.mem_singleton.1 hq]; exact ⟨by decide, by decide⟩)
    refine ⟨hs, ?_⟩
    rw [d2]
    obtain ⟨a, b, o, c, e, ha, hc⟩ := hs
    rw [List.length_append, List.length_singleton] at e ha
    cases e
    have := ha (by omega)
    cases this
    exact ⟨_, gd, 0, cd, rfl, fun _ => rfl, fun i q hi => hc i q (by rw [List.getElem?_append_left (List.getElem?_eq_some_iff.1 hi).1]; exact hi)⟩
  have hget : ∀ (j : Nat) (x : MV), L[j]? = some x → ∃ p, Ps[j]? = some p := fun j x hx => ⟨_, List.getElem?_eq_getElem (by have := (List.getElem?_eq_some_iff.1 hx).1; rw [h.plen]; omega)⟩
  refine ⟨fun x hx => ?_, ?_⟩
  · obtain ⟨j, hj⟩ := List.getElem?_of_mem hx
    obtain ⟨p, hp⟩ := hget j x hj
    have hn := h.num x.1 (hmem hx)
    exact ⟨(hr j x p hj hp).2, hn.1, hn.2.1⟩
  · have hm : OwnV base w2 vm Ps := own_keep h.mrow (fun u e => hk u (h.mrow.lt u e).2 (own_apart h.mrow h.row (by decide) e))
    by_cases h0 : l.length = 0
    · have e := List.eq_nil_of_length_eq_zero h0
      subst e
      have hp0 : Ps = [] := List.eq_nil_of_length_eq_zero (by rw [h.plen]; rfl)
      subst hp0
      rcases hm.2 with ⟨rfl, _⟩ | ⟨g, cap, cur, rfl, _⟩
      · exact ⟨none, 0, 0, 0, rfl, fun h => by simp at h, fun j x hj => by simp at hj⟩
      · exact ⟨_, g, 0, cap, rfl, fun h => by simp at h, fun j x hj => by simp at hj⟩
    · obtain ⟨g, c, rfl, _, _, _, hc, _⟩ := own_form hm (by rw [h.plen]; omega)
      refine ⟨_, g, 0, c, by rw [List.length_map, h.plen], fun _ => rfl, fun j x hj => ?_⟩
      rw [List.getElem?_map, Option.map_eq_some_iff] at hj
      obtain ⟨m, hj, rfl⟩ := hj
      have hlt := (List.getElem?_eq_some_iff.1 hj).1
      obtain ⟨y, hy⟩ : ∃ y, L[j]? = some y := ⟨_, List.getElem?_eq_getElem (by omega)⟩
      have hym : y.1 = m := by
        have h2 : (L.map (·.1))[j]? = some y.1 := by rw [List.getElem?_map, hy]; rfl
        rw [h.fst, hj] at h2
        cases h2; rfl
      obtain ⟨p, hp⟩ := hget j y hy
      refine ⟨p, by rw [Nat.zero_add, Nat.mul_one]; exact hc j p hp, ?_⟩
      rw [← hym]
      exact (hr j y p hy hp).1

theorem own_len {w : World} {base e size n m : Nat} {a : Option Addr} {c : Nat} {xs : List Value} (h : w.ownsRow base e size (.slice a m c) n xs) : m = n := by
  rcases h.2 with ⟨e, h0⟩ | ⟨g', cap, cur, e, _⟩
  · cases e; exact h0.symm
  · cases e; rfl
theorem setCell_size (w : World) (a : Addr) (v : Value) : (w.setCell a v).heap.size = w.heap.size := by simp [World.setCell]
def markM : Mb := ⟨0, [109, 97, 114, 107], [], 0, []⟩
/-- what roomy answers -/
def RoomyPost (w : World) (l : List Mb) (e : Ending) (w' : World) : Prop :=
  (∃ g c vm, e = .returned (.tuple #[.slice (some ⟨g, 0, none⟩) (l.length + 1) c, vm]) ∧ l.length + 1 ≤ c ∧ Sl RMb 5 w' (.slice (some ⟨g, 0, none⟩) (l.length + 1) c) (l ++ [markM]) ∧ Sl RPcs 1 w' vm (l.map (fun m => m.pieces ++ [markP]))) ∧ Below w.heap.size w w'

end Go.Proofs.YtlecpjfggoehdaaGreatDoor.Ar
