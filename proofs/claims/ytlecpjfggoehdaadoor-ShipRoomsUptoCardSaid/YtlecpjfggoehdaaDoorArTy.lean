/- Archive, the law's own: roomy. -/
import Derived.Test.YtlecpjfggoehdaaDoorArTx
set_option linter.unusedVariables false
set_option linter.unusedSimpArgs false
set_option maxRecDepth 100000
namespace Go.Proofs.YtlecpjfggoehdaaDoor.Ar
open Go.RowKit Go.Sort Go.Lib Go.Proofs.YtlecpjfggoehdaaDoor.Rs

/-- behind k rounds: the first k members' pieces have a mark behind them -/
structure RoomS (base : Nat) (wr : World) (v vm : Value) (l : List Mb) (k : Nat) (L : List MV) (Ps : List Value) : Prop where
  fst : L.map (·.1) = l
  row : OwnM base wr v L
  mrow : OwnV base wr vm Ps
  plen : Ps.length = k
  done : ∀ j x p, j < k → L[j]? = some x → Ps[j]? = some p → OwnP base wr p (x.1.pieces ++ [markP]) ∧ ∃ g c, p = .slice (some ⟨g, 0, none⟩) (x.1.pieces.length + 1) c ∧ x.2 = .slice (some ⟨g, 0, none⟩) x.1.pieces.length c ∧
    ∀ i y gi, k ≤ i → L[i]? = some y → y.2.ownBlock = some gi → g ≠ gi
  todo : ∀ j x, k ≤ j → L[j]? = some x → OwnP base wr x.2 x.1.pieces ∧ ∃ g, x.2.ownBlock = some g
  inc : ∀ i j x y gi gj, k ≤ i → i < j → L[i]? = some x → L[j]? = some y → x.2.ownBlock = some gi → y.2.ownBlock = some gj → gi ≠ gj
  sl : ∀ x ∈ L, IsSl x.2
  num : ∀ m ∈ l, I64 m.kind ∧ I64 m.size ∧ ∀ p ∈ m.pieces, I64 p.off
  len : l.length ≤ 1048576
  pcs : ∀ m ∈ l, m.pieces.length ≤ 1048576
theorem RoomS.start {w0 wr wr2 : World} {base : Nat} {v vm : Value} {l : List Mb} {L : List MV} (h : TwinS w0 base wr v l l.length L) (hb : Below wr.heap.size wr wr2) (hm : OwnV base wr2 vm []) : RoomS base wr2 v vm l 0 L [] := by
  have hl : L.length = l.length := by rw [← h.fst, List.length_map]
  refine ⟨h.fst, own_below h.row hb, hm, rfl, fun j x p hj => by omega, fun j x _ hx => ?_, fun i j x y gi gj _ hij hx hy hgi hgj => ?_, h.sl, h.num, h.len, h.pcs⟩
  · have := (List.getElem?_eq_some_iff.1 hx).1
    obtain ⟨h1, h2⟩ := h.own j x (by omega) hx
    exact ⟨own_below h1 hb, h2⟩
  · have := (List.getElem?_eq_some_iff.1 hy).1
    have := h.inc i j x y gi gj hij (by omega) hx hy hgi hgj
    omega
theorem RoomS.step {wr w1 w3 : World} {base g c n gp cp : Nat} {vm vm' : Value} {l : List Mb} {k : Nat} {L : List MV} {Ps : List Value} {x : MV} (h : RoomS base wr (.slice (some ⟨g, 0, none⟩) n c) vm l k L Ps) (hx : L[k]? = some x)
    (h1 : ∀ u, u < wr.heap.size → x.2.ownBlock ≠ some u → w1.heap[u]? = wr.heap[u]?) (hs1 : wr.heap.size ≤ w1.heap.size) (hp : OwnP base w1 (.slice (some ⟨gp, 0, none⟩) (x.1.pieces.length + 1) cp) (x.1.pieces ++ [markP])) (hq : x.2.ownBlock = some gp ∨ wr.heap.size ≤ gp)
    (h3 : ∀ u, u < w1.heap.size → vm.ownBlock ≠ some u → w3.heap[u]? = (w1.setCell ⟨g, k * 5 + 4, none⟩ (.slice (some ⟨gp, 0, none⟩) x.1.pieces.length cp)).heap[u]?)
    (hm : OwnV base w3 vm' (Ps ++ [.slice (some ⟨gp, 0, none⟩) (x.1.pieces.length + 1) cp])) :
    RoomS base w3 (.slice (some ⟨g, 0, none⟩) n c) vm' l (k + 1) (L.set k (x.1, .slice (some ⟨gp, 0, none⟩) x.1.pieces.length cp)) (Ps ++ [.slice (some ⟨gp, 0, none⟩) (x.1.pieces.length + 1) cp]) := by
  have hkl : k < L.length := (List.getElem?_eq_some_iff.1 hx).1
  have hn : n = L.length := by
    rcases h.row.2 with ⟨e, _⟩ | ⟨g', cap, cur, e, _⟩
    · cases e
    · cases e; rfl
  subst hn
  obtain ⟨hxo, gx, hgx⟩ := h.todo k x (Nat.le_refl _) hx
  have hgl : g < wr.heap.size := (h.row.lt g rfl).2
  have hgne : x.2.ownBlock ≠ some g := fun e => own_apart hxo h.row (by decide) e rfl
  have hgm : vm.ownBlock ≠ some g := own_apart h.row h.mrow (by decide) rfl
  have hrow1 : OwnM base w1 (.slice (some ⟨g, 0, none⟩) L.length c) L := own_keep h.row (fun u e => by cases e; exact h1 g hgl hgne)
  have hmrow1 : OwnV base w1 vm Ps := own_keep h.mrow (fun u e => h1 u (h.mrow.lt u e).2 (own_apart h.mrow hxo (by decide) e))
  have hset : ∀ u, u ≠ g → (w1.setCell ⟨g, k * 5 + 4, none⟩ (.slice (some ⟨gp, 0, none⟩) x.1.pieces.length cp)).heap[u]? = w1.heap[u]? := fun u hu => Below.heap_setCell w1 _ _ u hu
  have hgp : gp < w1.heap.size := (hp.lt gp rfl).2
  have hpg : gp ≠ g := fun e => by subst e; exact own_apart hp hrow1 (by decide) rfl rfl
  have hpm : vm.ownBlock ≠ some gp := own_apart hp hmrow1 (by decide) rfl
  have keep3 : ∀ u, u < wr.heap.size → x.2.ownBlock ≠ some u → u ≠ g → vm.ownBlock ≠ some u → w3.heap[u]? = wr.heap[u]? := fun u hu n1 n2 n3 => ((h3 u (Nat.lt_of_lt_of_le hu hs1) n3).trans (hset u n2)).trans (h1 u hu n1)
  have hget : ∀ i, i ≠ k → (L.set k (x.1, Value.slice (some ⟨gp, 0, none⟩) x.1.pieces.length cp))[i]? = L[i]? := fun i hi => List.getElem?_set_ne (Ne.symm hi)
  refine ⟨?_, ?_, hm, by rw [List.length_append, h.plen]; rfl, ?_, ?_, ?_, ?_, h.num, h.len, h.pcs⟩
  · rw [← h.fst, List.map_set]
    have : (L.map (·.1))[k]? = some x.1 := by rw [List.getElem?_map, hx]; rfl
    apply List.ext_getElem?
    intro q
    by_cases e : k = q
    · subst e; rw [List.getElem?_set_self (by simpa using hkl), this]
    · rw [List.getElem?_set_ne e]
  · have := (hrow1.stored (k * 5 + 4) (.slice (some ⟨gp, 0, none⟩) x.1.pieces.length cp)).1
    rw [mvCells_set hx] at this
    have e : (L.set k (x.1, Value.slice (some ⟨gp, 0, none⟩) x.1.pieces.length cp)).length = L.length := List.length_set
    show World.ownsRow _ _ _ _ _ (L.set k _).length _
    rw [e]
    exact own_keep this (fun u e => by cases e; exact h3 g (by omega) hgm)
  · intro j y p hj hy hpj
    by_cases e : j = k
    · subst e
      rw [List.getElem?_set_self hkl] at hy
      cases hy
      rw [List.getElem?_append_right (by rw [h.plen]; omega), h.plen, Nat.sub_self] at hpj
      simp only [List.getElem?_cons_zero, Option.some.injEq] at hpj
      subst hpj
      refine ⟨own_keep hp (fun u e => by cases e; exact (h3 gp hgp hpm).trans (hset gp hpg)), gp, cp, rfl, rfl, fun i z gi hi hz hgi => ?_⟩
      rw [hget i (by omega)] at hz
      rcases hq with hq | hq
      · exact h.inc j i x z gp gi (Nat.le_refl _) (by omega) hx hz hq hgi
      · have := ((h.todo i z (by omega) hz).1.lt gi hgi).2
        omega
    · rw [hget j e] at hy
      rw [List.getElem?_append_left (by rw [h.plen]; omega)] at hpj
      obtain ⟨d1, gd, cd, rfl, d2, d3⟩ := h.done j y p (by omega) hy hpj
      refine ⟨own_keep d1 (fun u e => by cases e; exact keep3 gd (d1.lt gd rfl).2 (fun e => d3 k x gd (Nat.le_refl _) hx e rfl) (fun e => by subst e; exact own_apart d1 h.row (by decide) rfl rfl) (own_apart d1 h.mrow (by decide) rfl)), gd, cd, rfl, d2, fun i z gi hi hz hgi => ?_⟩
      rw [hget i (by omega)] at hz
      exact d3 i z gi (by omega) hz hgi
  · intro j y hj hy
    rw [hget j (by omega)] at hy
    obtain ⟨t1, gt, hgt⟩ := h.todo j y (by omega) hy
    exact ⟨own_keep t1 (fun u e => keep3 u (t1.lt u e).2 (fun e' => h.inc k j x y u u (Nat.le_refl _) (by omega) hx hy e' e rfl) (fun e' => by subst e'; exact own_apart t1 h.row (by decide) e rfl) (own_apart t1 h.mrow (by decide) e)), gt, hgt⟩
  · intro i j y z gi gj hi hij hy hz hgi hgj
    rw [hget i (by omega)] at hy
    rw [hget j (by omega)] at hz
    exact h.inc i j y z gi gj (by omega) hij hy hz hgi hgj
  · intro y hy
    rcases List.mem_or_eq_of_mem_set hy with hy | rfl
    · exact h.sl y hy
    · exact ⟨_, _, _, rfl⟩
/-- .. and all read as they should -/
theorem RoomS.mb {wr w2 : World} {base : Nat} {v vm : Value} {l : List Mb} {L : List MV} {Ps : List Value} (h : RoomS base wr v vm l l.length L Ps) (hk : ∀ u, u < wr.heap.size → v.ownBlock ≠ some u → w2.heap[u]? = wr.heap[u]?) : (∀ x ∈ L, MbV w2 x.1 x.2) ∧ Sl RPcs 1 w2 vm (l.map (fun m => m.pieces ++ [markP])) := by
  have hl : L.length = l.length := by rw [← h.fst, List.length_map]
  have hmem : ∀ {x : MV}, x ∈ L → x.1 ∈ l := fun hx => by rw [← h.fst]; exact List.mem_map_of_mem hx
  have hr : ∀ (j : Nat) (x : MV) (p : Value), L[j]? = some x → Ps[j]? = some p → Sl RPc 2 w2 p (x.1.pieces ++ [markP]) ∧ Sl RPc 2 w2 x.2 x.1.pieces := fun j x p hx hp => by
    have hj := (List.getElem?_eq_some_iff.1 hx).1
    obtain ⟨d1, gd, cd, rfl, d2, _⟩ := h.done j x p (by omega) hx hp
    have d1' : OwnP base w2 (.slice (some ⟨gd, 0, none⟩) (x.1.pieces.length + 1) cd) (x.1.pieces ++ [markP]) := own_keep d1 (fun u e => hk u (d1.lt u e).2 (own_apart d1 h.row (by decide) e))
    have hs := d1'.sl (fun q hq => by
      rcases List.mem_append.1 hq with hq | hq
      · exact (h.num x.1 (hmem (List.mem_of_getElem? hx))).2.2 q hq
      · rw [List.mem_singleton.1 hq]; exact ⟨by decide, by decide⟩)
    refine ⟨hs, ?_⟩
    rw [d2]
    obtain ⟨a, b, o, c, e, ha, hc⟩ := hs
    rw [List.length_append, List.length_singleton] at e ha
    cases e
    have := ha (by omega)
    cases this
    exact ⟨_, gd, 0, cd, rfl, fun _ => rfl, fun i q hi => hc i q (by rw [List.getElem?_append_left (List.getElem?_eq_some_iff.1 hi).1]; exact hi)⟩
  have hget : ∀ (j : Nat) (x : MV), L[j]? = some x → ∃ p, Ps[j]? = some p := fun j x hx => ⟨_, List.getElem?_eq_getElem (by have := (List.getElem?_eq_some_iff.1 hx).1; rw [h.plen]; omega)⟩
  refine ⟨fun x hx => ?_, ?_⟩
  · obtain ⟨j, hj⟩ := List.getElem?_of_mem hx
    obtain ⟨p, hp⟩ := hget j x hj
    have hn := h.num x.1 (hmem hx)
    exact ⟨(hr j x p hj hp).2, hn.1, hn.2.1⟩
  · have hm : OwnV base w2 vm Ps := own_keep h.mrow (fun u e => hk u (h.mrow.lt u e).2 (own_apart h.mrow h.row (by decide) e))
    by_cases h0 : l.length = 0
    · have e := List.eq_nil_of_length_eq_zero h0
      subst e
      have hp0 : Ps = [] := List.eq_nil_of_length_eq_zero (by rw [h.plen]; rfl)
      subst hp0
      rcases hm.2 with ⟨rfl, _⟩ | ⟨g, cap, cur, rfl, _⟩
      · exact ⟨none, 0, 0, 0, rfl, fun h => by simp at h, fun j x hj => by simp at hj⟩
      · exact ⟨_, g, 0, cap, rfl, fun h => by simp at h, fun j x hj => by simp at hj⟩
    · obtain ⟨g, c, rfl, _, _, _, hc, _⟩ := own_form hm (by rw [h.plen]; omega)
      refine ⟨_, g, 0, c, by rw [List.length_map, h.plen], fun _ => rfl, fun j x hj => ?_⟩
      rw [List.getElem?_map, Option.map_eq_some_iff] at hj
      obtain ⟨m, hj, rfl⟩ := hj
      have hlt := (List.getElem?_eq_some_iff.1 hj).1
      obtain ⟨y, hy⟩ : ∃ y, L[j]? = some y := ⟨_, List.getElem?_eq_getElem (by omega)⟩
      have hym : y.1 = m := by
        have h2 : (L.map (·.1))[j]? = some y.1 := by rw [List.getElem?_map, hy]; rfl
        rw [h.fst, hj] at h2
        cases h2; rfl
      obtain ⟨p, hp⟩ := hget j y hy
      refine ⟨p, by rw [Nat.zero_add, Nat.mul_one]; exact hc j p hp, ?_⟩
      rw [← hym]
      exact (hr j y p hy hp).1

theorem own_len {w : World} {base e size n m : Nat} {a : Option Addr} {c : Nat} {xs : List Value} (h : w.ownsRow base e size (.slice a m c) n xs) : m = n := by
  rcases h.2 with ⟨e, h0⟩ | ⟨g', cap, cur, e, _⟩
  · cases e; exact h0.symm
  · cases e; rfl
theorem setCell_size (w : World) (a : Addr) (v : Value) : (w.setCell a v).heap.size = w.heap.size := by simp [World.setCell]
def markM : Mb := ⟨0, [109, 97, 114, 107], [], 0, []⟩
/-- what roomy answers -/
def RoomyPost (w : World) (l : List Mb) (e : Ending) (w' : World) : Prop :=
  (∃ g c vm, e = .returned (.tuple #[.slice (some ⟨g, 0, none⟩) (l.length + 1) c, vm]) ∧ l.length + 1 ≤ c ∧ Sl RMb 5 w' (.slice (some ⟨g, 0, none⟩) (l.length + 1) c) (l ++ [markM]) ∧ Sl RPcs 1 w' vm (l.map (fun m => m.pieces ++ [markP]))) ∧ Below w.heap.size w w'

set_option maxHeartbeats 8000000 in
theorem call_roomy (v : Value) (l : List Mb) (w : World) (hs : Sl RMbN 5 w v l) (hn : NilOk v) (hl : LsSm' l) :
    Calls Tryd.prog 15 #[v] w (RoomyPost w l) := by
  obtain ⟨mp, hmp⟩ : ∃ n, l.length = n := ⟨_, rfl⟩
  have hlen := hl.1
  rw [hmp] at hlen
  obtain ⟨i0, hi0, hz0, hs0, hb0⟩ := info_parts info51
  obtain ⟨i1, hi1, hz1, hs1, hb1⟩ := info_parts info82
  obtain ⟨i2, hi2, hz2, hs2, hb2⟩ := info_parts info49
  have HM := Lib.hid hmp
  have HS := Lib.hid hs
  have HNil := Lib.hid hn
  have HLs := Lib.hid hl
  clear hmp hs hn hl
  go_enter Tryd.func15, Tryd.ntmps15
  go_wp2_with (go_at_call 14; refine (call_twin v l w HS.out HNil.out HLs.out).mono ?_; rintro e w1 ⟨⟨v1, L0, rfl, ht1⟩, hb1⟩; obtain ⟨a1, n1, c1, rfl⟩ := own_isSl ht1.row; have HT1 := Lib.hid ht1; have HB1 := Lib.hid hb1; clear ht1 hb1)
  have hn1 : n1 = mp := by
    have h := HT1.out.fst
    have h2 : L0.length = mp := by rw [← HM.out, ← h, List.length_map]
    rcases HT1.out.row.2 with ⟨e, h0⟩ | ⟨g', cap, cur, e, _⟩
    · cases e; omega
    · cases e; exact h2
  subst hn1
  have HR0 : Hid (RoomS w.heap.size (w1.alloc (.cells #[] 49)) (.slice a1 n1 c1) (.slice (some ⟨w1.heap.size, 0, none⟩) 0 0) l 0 L0 []) := Lib.hid (RoomS.start HT1.out (below_alloc1 w1 _) (World.ownsRow_made w1 #[] 0 (e := 49) (size := 1) HB1.out.size (by simp [maxLen]) rfl))
  have HB0 := Lib.hid (HB1.out.alloc HB1.out.size (.cells #[] 49))
  clear HT1
  go_loopw [5, 6] (fun vm i wr => ∃ (k : Nat) (L : List MV) (Ps : List Value), i = .int .i64 k ∧ k ≤ n1 ∧ RoomS w.heap.size wr (.slice a1 n1 c1) vm l k L Ps ∧ Below w.heap.size w wr)
    (fun _ i _ => n1 - (RowKit.intOf i).toNat)
  case atStart => exact ⟨0, L0, [], rfl, Nat.zero_le _, HR0.out, HB0.out⟩
  case round =>
    obtain ⟨k, L, Ps, rfl, hk, ht, hb⟩ := hrel
    clear HR0 HB0
    have HT := Lib.hid ht
    have HB := Lib.hid hb
    have hLl : L.length = n1 := by rw [← HM.out, ← ht.fst, List.length_map]
    have HLl := Lib.hid hLl
    clear hb hLl
    by_cases hlt : k < n1
    · obtain ⟨x, hx⟩ : ∃ r, L[k]? = some r := ⟨_, List.getElem?_eq_getElem (by have := HLl.out; omega)⟩
      have hxm : x.1 ∈ l := by rw [← HT.out.fst]; exact List.mem_map_of_mem (List.mem_of_getElem? hx)
      obtain ⟨np, hnp⟩ : ∃ n, x.1.pieces.length = n := ⟨_, rfl⟩
      have hnp1 : np ≤ 1048576 := by rw [← hnp]; exact HT.out.pcs x.1 hxm
      obtain ⟨hxo, gx, hgx⟩ := HT.out.todo k x (Nat.le_refl _) hx
      obtain ⟨g, cg, e, hg1, hg2, hc1, hgc, hgf⟩ := own_form ht.row (by have := HLl.out; omega)
      rw [HLl.out] at e hc1
      cases e
      obtain ⟨ax, nx, cx, hx2⟩ := own_isSl hxo
      have q4' := hgc (k * 5 + 4) x.2 (by rw [mvCells_get hx 4 (by omega)]; rfl)
      have hnx : nx = np := by rw [hx2] at hxo; have := own_len hxo; omega
      subst hnx
      have HXo := Lib.hid hxo
      have HX2 := Lib.hid hx2
      have HX := Lib.hid hx
      have HNp := Lib.hid hnp
      have HGx := Lib.hid hgx
      have hgx' : gx < wr.heap.size := (hxo.lt gx hgx).2
      have hgx2 : w.heap.size ≤ gx := (hxo.lt gx hgx).1
      have hgg : gx ≠ g := fun e => by subst e; exact own_apart hxo ht.row (by decide) hgx rfl
      have HA : Hid ((wr.alloc (.cells #[.int .i64 (-7), .string ⟨#[109, 97, 114, 107]⟩] 82)).ownsRow w.heap.size 82 2 (.slice ax nx cx) nx (pcCells x.1.pieces)) := Lib.hid (by
        have h := own_below hxo (below_alloc1 wr (.cells #[.int .i64 (-7), .string ⟨#[109, 97, 114, 107]⟩] 82))
        rw [hx2, hnp] at h
        exact h)
      have HSz := Lib.hid (alloc_size wr (.cells #[.int .i64 (-7), .string ⟨#[109, 97, 114, 107]⟩] 82))
      have HBz := Lib.hid (below_alloc1 wr (.cells #[.int .i64 (-7), .string ⟨#[109, 97, 114, 107]⟩] 82))
      have HRm := Lib.hid (Row.new wr 82 [.int .i64 (-7), .string ⟨#[109, 97, 114, 107]⟩])
      have HSrc : Hid (∃ ad c, Value.slice (some ⟨wr.heap.size, 0, none⟩) 1 1 = .slice ad 1 c ∧ (0 < 1 → ∃ g off, ad = some ⟨g, off, none⟩ ∧ ∀ j u, (pcCells [markP])[j]? = some u → (wr.alloc (.cells #[.int .i64 (-7), .string ⟨#[109, 97, 114, 107]⟩] 82)).cell? ⟨g, off + j, none⟩ = some u)) :=
        Lib.hid ⟨_, _, rfl, fun _ => ⟨_, 0, rfl, fun j u hj => by rw [Nat.zero_add]; exact (HRm.out.cell j).trans hj⟩⟩
      have HNl : Hid (NilOk (.slice (some ⟨wr.heap.size, 0, none⟩) 1 1)) := Lib.hid (fun n c e => by cases e)
      have HG2 := Lib.hid hg2
      have HGf := Lib.hid (hgf (k * 5 + 4))
      have HQ4 := Lib.hid q4'
      rw [hx2] at q4' hgx
      have k0 : (0 : Int) ≤ k := by omega
      have k1 : (k : Int) < n1 := by omega
      have hbw := HB.out.size
      clear hx hxm hnp hxo hx2 hgc hgf ht hgx
      go_wp2_with (first
        | (refine wpl_many 49 82 i1 _ 2 24 Tryd.underlying49 hi1 hz1 hs1 hb1 rfl (by decide) HA.out (by rfl) _ _ (by rfl) (by rfl) (.slice (some ⟨wr.heap.size, 0, none⟩) 1 1) (by rfl) (pcCells [markP]) 1 rfl HNl.out HSrc.out (pcCells_one _) (by rw [HSz.out]; omega) (by omega) (by decide) ?_
           intro v2 w2 h1 h2 h3
           obtain ⟨gp, cp, rfl, hgp1, hgp2, hcp, _, _⟩ := own_form h1 (by omega)
           have HP2 := Lib.hid h1
           have HGr := Lib.hid h2
           have HOb := Lib.hid h3
           have hb2 : w2.heap[g]? = wr.heap[g]? := (h2.block g (by rw [HSz.out]; omega) (by rw [← HX2.out, HGx.out]; simpa using Ne.symm hgg)).trans (HBz.out.block g hg2)
           have e4 := (World.cell?_of_block (a := ⟨g, k * 5 + 4, none⟩) hb2).trans HQ4.out
           have e5 := (World.frozen?_of_block (a := ⟨g, k * 5 + 4, none⟩) hb2).trans HGf.out
           have HVm : Hid (OwnV w.heap.size w2 u5 Ps) := Lib.hid (own_keep HT.out.mrow (fun u e => (h2.block u (by rw [HSz.out]; have := (HT.out.mrow.lt u e).2; omega) (by rw [← HX2.out]; exact fun e' => own_apart HT.out.mrow HXo.out (by decide) e e'.symm)).trans (HBz.out.block u (HT.out.mrow.lt u e).2)))
           have HVb : Hid (OwnV w.heap.size ((w2.setCell ⟨g, k * 5 + 4, none⟩ (.slice (some ⟨gp, 0, none⟩) nx cp)).alloc (.cells #[.slice (some ⟨gp, 0, none⟩) (nx + 1) cp] 49)) u5 Ps) := Lib.hid (own_keep HVm.out (fun u e => (Below.heap_alloc _ _ u (by rw [setCell_size]; exact (HVm.out.lt u e).2)).trans (Below.heap_setCell w2 _ _ u (fun e' => by subst e'; exact own_apart HT.out.mrow HT.out.row (by decide) e rfl))))
           have HSr2 : Hid (∃ ad c, Value.slice (some ⟨w2.heap.size, 0, none⟩) 1 1 = .slice ad 1 c ∧ (0 < 1 → ∃ g' off, ad = some ⟨g', off, none⟩ ∧ ∀ j u, [Value.slice (some ⟨gp, 0, none⟩) (nx + 1) cp][j]? = some u → ((w2.setCell ⟨g, k * 5 + 4, none⟩ (.slice (some ⟨gp, 0, none⟩) nx cp)).alloc (.cells #[.slice (some ⟨gp, 0, none⟩) (nx + 1) cp] 49)).cell? ⟨g', off + j, none⟩ = some u)) :=
             Lib.hid ⟨_, _, rfl, fun _ => ⟨_, 0, rfl, fun j u hj => by rw [Nat.zero_add]; have h := (Row.new (w2.setCell ⟨g, k * 5 + 4, none⟩ (.slice (some ⟨gp, 0, none⟩) nx cp)) 49 [.slice (some ⟨gp, 0, none⟩) (nx + 1) cp]).cell j; rw [setCell_size] at h; exact h.trans hj⟩⟩
           have HNl2 : Hid (NilOk (.slice (some ⟨w2.heap.size, 0, none⟩) 1 1)) := Lib.hid (fun n c e => by cases e)
           have HSz2 : Hid (((w2.setCell ⟨g, k * 5 + 4, none⟩ (.slice (some ⟨gp, 0, none⟩) nx cp)).alloc (.cells #[.slice (some ⟨gp, 0, none⟩) (nx + 1) cp] 49)).heap.size = w2.heap.size + 1) := Lib.hid (by rw [alloc_size, setCell_size])
           have HS2 := Lib.hid h2.size
           clear h1 h2 h3 hb2 q4')
        | (refine wpl_many 36 49 i2 _ 1 24 Tryd.underlying36 hi2 hz2 hs2 hb2 rfl (by decide) HVb.out (by rfl) _ _ (by rfl) (by rfl) (.slice (some ⟨w2.heap.size, 0, none⟩) 1 1) (by rfl) [.slice (some ⟨gp, 0, none⟩) (nx + 1) cp] 1 rfl HNl2.out HSr2.out (by intro u hu; rw [List.mem_singleton.1 hu]; rfl) (by rw [HSz2.out]; have := HS2.out; rw [HSz.out] at this; omega) (by rw [HT.out.plen]; omega) (by decide) ?_
           intro v4 w4 h1 h2 h3
           have HV4 := Lib.hid h1
           have HG4 := Lib.hid h2
           clear h1 h2 h3))
      have HR4 := Lib.hid (RoomS.step (w1 := w2) (w3 := w4) (vm' := v4) HT.out HX.out
        (fun u hu hne => (HGr.out.block u (by rw [HSz.out]; omega) (by rw [← HX2.out]; exact fun e => hne e.symm)).trans (HBz.out.block u hu))
        (by have := HS2.out; rw [HSz.out] at this; omega)
        (by rw [HNp.out]; have h := HP2.out; rw [← pcCells_app] at h; show World.ownsRow _ _ _ _ _ (x.1.pieces ++ [markP]).length _; rw [List.length_append, HNp.out]; exact h)
        (by rcases HOb.out with h | h
            · left; rw [HX2.out]; exact h.symm.trans rfl
            · right; rw [HSz.out] at h; have h' : gp = wr.heap.size + 1 := Option.some.inj h; omega)
        (fun u hu hne => by rw [HNp.out]; exact (HG4.out.block u (by rw [HSz2.out]; omega) (fun e => hne e.symm)).trans (Below.heap_alloc _ _ u (by rw [setCell_size]; exact hu)))
        (by rw [HNp.out]; have h := HV4.out; show World.ownsRow _ _ _ _ _ (Ps ++ [_]).length _; rw [List.length_append]; exact h))
      have HB2 : Hid (Below w.heap.size w w2) := Lib.hid ((HB.out.trans (HBz.out.mono hbw)).grown HGr.out (by rw [HSz.out]; omega) (fun q e => by rw [← HX2.out, HGx.out] at e; cases e; exact hgx2))
      have HB4 : Hid (Below w.heap.size w w4) := Lib.hid (((HB2.out.setCell (p := ⟨g, k * 5 + 4, none⟩) hg1 _).alloc (by rw [setCell_size]; exact HB2.out.size) _).grown HG4.out (by rw [HSz2.out]; have := HB2.out.size; omega) (fun q e => (HT.out.mrow.lt q e).1))
      clear e4 e5
      go_roundw
      case rel => exact ⟨k + 1, _, _, by go_num, by omega, HR4.out, HB4.out⟩
      case measure => simp [RowKit.intOf]; omega
    · obtain rfl : k = n1 := by omega
      obtain ⟨av, nv, cv, rfl⟩ := own_isSl ht.mrow
      have HSz := Lib.hid (alloc_size wr (.cells #[.int .i64 0, .string ⟨#[109, 97, 114, 107]⟩, .string ⟨#[]⟩, .int .i64 0, .slice none 0 0] 51))
      have HBz := Lib.hid (below_alloc1 wr (.cells #[.int .i64 0, .string ⟨#[109, 97, 114, 107]⟩, .string ⟨#[]⟩, .int .i64 0, .slice none 0 0] 51))
      have HRm := Lib.hid (Row.new wr 51 [.int .i64 0, .string ⟨#[109, 97, 114, 107]⟩, .string ⟨#[]⟩, .int .i64 0, .slice none 0 0])
      have HA : Hid ((wr.alloc (.cells #[.int .i64 0, .string ⟨#[109, 97, 114, 107]⟩, .string ⟨#[]⟩, .int .i64 0, .slice none 0 0] 51)).ownsRow w.heap.size 51 5 (.slice a1 k c1) k (mvCells L)) := Lib.hid (by
        have h := own_below ht.row (below_alloc1 wr (.cells #[.int .i64 0, .string ⟨#[109, 97, 114, 107]⟩, .string ⟨#[]⟩, .int .i64 0, .slice none 0 0] 51))
        rw [HLl.out] at h
        exact h)
      have HSrc : Hid (∃ ad c, Value.slice (some ⟨wr.heap.size, 0, none⟩) 1 1 = .slice ad 1 c ∧ (0 < 1 → ∃ g off, ad = some ⟨g, off, none⟩ ∧ ∀ j u, (mvCells [(markM, .slice none 0 0)])[j]? = some u → (wr.alloc (.cells #[.int .i64 0, .string ⟨#[109, 97, 114, 107]⟩, .string ⟨#[]⟩, .int .i64 0, .slice none 0 0] 51)).cell? ⟨g, off + j, none⟩ = some u)) :=
        Lib.hid ⟨_, _, rfl, fun _ => ⟨_, 0, rfl, fun j u hj => by rw [Nat.zero_add]; exact (HRm.out.cell j).trans hj⟩⟩
      have HNl : Hid (NilOk (.slice (some ⟨wr.heap.size, 0, none⟩) 1 1)) := Lib.hid (fun n c e => by cases e)
      have hbw := HB.out.size
      clear ht
      go_wp2_with ((refine wpl_many 30 51 i0 _ 5 72 Tryd.underlying30 hi0 hz0 hs0 hb0 rfl (by decide) HA.out (by rfl) _ _ (by rfl) (by rfl) (.slice (some ⟨wr.heap.size, 0, none⟩) 1 1) (by rfl) (mvCells [(markM, .slice none 0 0)]) 1 rfl HNl.out HSrc.out (mvCells_one _ (by intro x hx; rw [List.mem_singleton.1 hx]; exact ⟨_, _, _, rfl⟩)) (by rw [HSz.out]; omega) (by omega) (by decide) ?_; intro v2 w2 h1 h2 h3; obtain ⟨gp, cp, rfl, hgp1, hgp2, hcp, _, _⟩ := own_form h1 (by omega); have HP2 := Lib.hid h1; have HGr := Lib.hid h2; clear h1 h2 h3))
      have HB2 := Lib.hid ((HB.out.trans (HBz.out.mono hbw)).grown HGr.out (by rw [HSz.out]; omega) (fun q e => (HA.out.lt q e).1))
      have hfin : Sl RMb 5 w2 (.slice (some ⟨gp, 0, none⟩) (k + 1) cp) (l ++ [markM]) ∧ Sl RPcs 1 w2 (.slice av nv cv) (l.map (fun m => m.pieces ++ [markP])) := by
        obtain ⟨h1, h2⟩ := RoomS.mb (w2 := w2) (by rw [HM.out]; exact HT.out) (fun u hu hne => (HGr.out.block u (by rw [HSz.out]; omega) (fun e => hne e.symm)).trans (HBz.out.block u hu))
        refine ⟨?_, h2⟩
        have h3 : OwnM w.heap.size w2 (.slice (some ⟨gp, 0, none⟩) (k + 1) cp) (L ++ [(markM, .slice none 0 0)]) := by
          have h := HP2.out
          rw [← mvCells_app] at h
          show World.ownsRow _ _ _ _ _ (L ++ [_]).length _
          rw [List.length_append, HLl.out]
          exact h
        have h4 := h3.sl (fun x hx => by
          rcases List.mem_append.1 hx with hx | hx
          · exact h1 x hx
          · rw [List.mem_singleton.1 hx]
            exact ⟨⟨none, 0, 0, 0, rfl, fun h => absurd h (by simp [markM]), fun j x hj => by simp [markM] at hj⟩, ⟨by decide, by decide⟩, ⟨by decide, by decide⟩⟩)
        rw [List.map_append, HT.out.fst] at h4
        exact h4
      have HF := Lib.hid hfin
      clear hfin HP2 HGr HA HSrc HNl HRm HBz HSz
      go_wp2
      go_ret2
      refine ⟨⟨gp, cp, _, by rw [HM.out]; rfl, by rw [HM.out]; exact hcp, by rw [HM.out]; exact HF.out.1, HF.out.2⟩, HB2.out⟩
end Go.Proofs.YtlecpjfggoehdaaDoor.Ar
