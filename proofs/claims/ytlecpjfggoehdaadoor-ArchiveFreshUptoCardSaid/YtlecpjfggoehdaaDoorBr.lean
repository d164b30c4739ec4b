/- Archive: the law ArchiveFresh, walked. -/
import Derived.Test.YtlecpjfggoehdaaDoorBq
set_option linter.unusedVariables false
set_option linter.unusedSimpArgs false
set_option maxRecDepth 100000
namespace Go.Proofs.YtlecpjfggoehdaaDoor.Ar
open Go.RowKit Go.Sort Go.Lib Go.Proofs.YtlecpjfggoehdaaDoor.Rs

/-- what Make answers of a list: the bytes, none where it refuses -/
def MkB (l : List Mb) (B : List UInt8) (c : Int) : Prop := (goodB l = true ∧ B = makeB l ∧ c = 0) ∨ (goodB l = false ∧ B = [] ∧ c = 211)
theorem mkB_ex (l : List Mb) : ∃ B c, MkB l B c := by
  cases h : goodB l with
  | true => exact ⟨_, _, .inl ⟨h, rfl, rfl⟩⟩
  | false => exact ⟨_, _, .inr ⟨h, rfl, rfl⟩⟩
theorem call_make2 (l : List Mb) (v : Value) (B : List UInt8) (c : Int) (w : World) (hk : MkB l B c) (hs : Sl RMb 5 w v l) (hl : LsSm l) (hp : Stp w) (hm : MaxL w) :
    Calls Tryd.prog 16 #[v] w fun e w' => ∃ va, e = .returned (.tuple #[va, .int .i64 c]) ∧ Own w.heap.size w' va B ∧ Below w.heap.size w w' := by
  refine (call_make l v w hs hl hp hm).mono ?_
  intro e w' h
  rcases hk with ⟨hg, rfl, rfl⟩ | ⟨hg, rfl, rfl⟩
  · rw [MakePost.good hg] at h
    obtain ⟨⟨v', rfl, ho⟩, hb⟩ := h
    exact ⟨v', rfl, ho, hb⟩
  · rw [MakePost.bad hg] at h
    obtain ⟨rfl, hb⟩ := h
    exact ⟨_, rfl, World.ownsRow_nil _ _ _ _, hb⟩
/-- what Open answers of those bytes -/
def OpB2 (l : List Mb) (B : List UInt8) (M : List Mb) (c : Int) : Prop := (goodB l = true ∧ B = makeB l ∧ M = l ∧ c = 0) ∨ (B = [] ∧ M = [] ∧ c = 210)
theorem opB_ex {l : List Mb} {B : List UInt8} {c : Int} (h : MkB l B c) : ∃ M c', OpB2 l B M c' := by
  rcases h with ⟨hg, rfl, rfl⟩ | ⟨hg, rfl, rfl⟩
  · exact ⟨_, _, .inl ⟨hg, rfl, rfl, rfl⟩⟩
  · exact ⟨_, _, .inr ⟨rfl, rfl, rfl⟩⟩
theorem call_open2 (l : List Mb) (vb : Value) (B : List UInt8) (M : List Mb) (c : Int) (w : World) (hk : OpB2 l B M c) (hl : LsSm l) (hs : Sl RByte 1 w vb B) (hc : ∀ a n c, vb = .slice a n c → n ≤ c) (hp : Stp w) (hm : MaxL w) :
    Calls Tryd.prog 21 #[vb] w fun e w' => ∃ v L, e = .returned (.tuple #[v, .int .i64 c]) ∧ MemS w.heap.size w' v M L ∧ Below w.heap.size w w' := by
  rcases hk with ⟨hg, rfl, rfl, rfl⟩ | ⟨rfl, rfl, rfl⟩
  · refine (call_open vb _ w hs (makeB_len13 hg hl) hc hp hm (make_hsm0 hg hl)).mono ?_
    intro e w' h
    rw [OpenPost.some_iff (back hg hl.mb)] at h
    obtain ⟨hb, v, L, rfl, hm⟩ := h
    exact ⟨v, L, rfl, hm, hb⟩
  · refine (call_open vb [] w hs (by simp) hc hp hm (fun i pre k m k' hi => absurd hi (by rw [show numN [] 8 = 0 by decide +kernel]; omega))).mono ?_
    intro e w' h
    rw [OpenPost.none_iff (pOpen_short (by simp))] at h
    obtain ⟨hb, rfl⟩ := h
    exact ⟨_, [], rfl, ⟨World.ownsRow_nil _ _ _ _, rfl, by simp, List.Pairwise.nil⟩, hb⟩
theorem opB_sm {l : List Mb} {B : List UInt8} {M : List Mb} {c : Int} (h : OpB2 l B M c) (hl : LsSm l) : LsSm M := by
  rcases h with ⟨_, _, rfl, _⟩ | ⟨_, rfl, _⟩
  · exact hl
  · exact ⟨by simp, by simp⟩
theorem mkB_len {l : List Mb} {B : List UInt8} {c : Int} (h : MkB l B c) (hl : LsSm l) : B.length ≤ 5000000000064 := by
  rcases h with ⟨hg, rfl, _⟩ | ⟨_, rfl, _⟩
  · exact makeB_len5 hg hl
  · simp
/-- the members kept by whatever leaves their rows alone -/
theorem MemS.kept {base : Nat} {W W' : World} {v : Value} {ms : List Mb} {L : List MV} (h : MemS base W v ms L) (hk : ∀ u, base ≤ u → u < W.heap.size → W'.heap[u]? = W.heap[u]?) : MemS base W' v ms L :=
  ⟨own_keep h.own (fun u e => hk u (h.own.lt u e).1 (h.own.lt u e).2), h.fst, fun x hx => own_keep (h.pcs x hx) (fun u e => hk u ((h.pcs x hx).lt u e).1 ((h.pcs x hx).lt u e).2), h.dis⟩
/-- the first k paths written over -/
def pathS (L : List MV) (k : Nat) : List MV := L.mapIdx fun i x => if i < k then ({ x.1 with path := mineB }, x.2) else x
theorem pathS_get (L : List MV) (k i : Nat) : (pathS L k)[i]? = L[i]?.map fun x => if i < k then ({ x.1 with path := mineB }, x.2) else x := by rw [pathS, List.getElem?_mapIdx]
theorem pathS_len (L : List MV) (k : Nat) : (pathS L k).length = L.length := by rw [pathS, List.length_mapIdx]
theorem pathS_zero (L : List MV) : pathS L 0 = L := by
  apply List.ext_getElem?
  intro i
  rw [pathS_get]
  cases L[i]? with
  | none => rfl
  | some x => simp
theorem pathS_snd {L : List MV} {k i : Nat} {y : MV} (h : (pathS L k)[i]? = some y) : ∃ x, L[i]? = some x ∧ y.2 = x.2 := by
  rw [pathS_get] at h
  obtain ⟨x, hx, rfl⟩ := Option.map_eq_some_iff.1 h
  refine ⟨x, hx, ?_⟩
  split <;> rfl
theorem pathS_step {L : List MV} {k : Nat} {x : MV} (h : L[k]? = some x) : (mvCells (pathS L k)).set (k * 5 + 1) (.string (bs mineB)) = mvCells (pathS L (k + 1)) := by
  have h1 : (pathS L k)[k]? = some x := by rw [pathS_get, h]; simp
  have h2 := flat_set mvRow 5 mvRow_len 1 (.string (bs mineB)) (fun x => ({ x.1 with path := mineB }, x.2)) (fun x => rfl) (by omega) (pathS L k) k x h1
  show ((pathS L k).map mvRow).flatten.set _ _ = _
  rw [h2]
  show mvCells _ = mvCells _
  congr 1
  apply List.ext_getElem?
  intro i
  by_cases e : k = i
  · subst e
    rw [List.getElem?_set_self (by rw [pathS_len]; exact (List.getElem?_eq_some_iff.1 h).1), pathS_get, h]
    simp
  · rw [List.getElem?_set_ne e, pathS_get, pathS_get]
    congr 1
    funext y
    by_cases e2 : i < k
    · rw [if_pos e2, if_pos (by omega)]
    · rw [if_neg e2, if_neg (by omega)]

theorem nil_of_own {w : World} {base e size n : Nat} {v : Value} {xs : List Value} (h : w.ownsRow base e size v n xs) : NilOk v := fun k c e => by
  subst e
  rcases h.2 with ⟨h, _⟩ | ⟨_, _, _, h, _⟩
  · cases h; exact ⟨rfl, rfl⟩
  · cases h
/-- the first k bytes written over -/
def fillB (B : List UInt8) (k : Nat) : List UInt8 := List.replicate k 3 ++ B.drop k
theorem fillB_step {B : List UInt8} {k : Nat} (h : k < B.length) : ((fillB B k).map byteV).set k (.int .u8 3) = (fillB B (k + 1)).map byteV := by
  have h3 : (Value.int .u8 3) = byteV 3 := rfl
  rw [h3, ← List.map_set]
  congr 1
  unfold fillB
  rw [List.set_append_right _ _ (by rw [List.length_replicate]; exact Nat.le_refl _), List.length_replicate, Nat.sub_self, List.drop_eq_getElem_cons h, List.set_cons_zero, List.replicate_succ', List.append_assoc]
  rfl
theorem fillB_get {B : List UInt8} {k j : Nat} (hj : j < k) : (fillB B k)[j]? = some 3 := by
  rw [fillB, List.getElem?_append_left (by rw [List.length_replicate]; exact hj), List.getElem?_replicate, if_pos hj]
theorem fillB_at {B : List UInt8} {k : Nat} (h : k < B.length) : ∃ x, (fillB B k)[k]? = some x := ⟨_, List.getElem?_eq_getElem (by rw [fillB, List.length_append, List.length_replicate, List.length_drop]; omega)⟩
theorem mem_aps {base : Nat} {W : World} {v : Value} {ms : List Mb} {L : List MV} (h : MemS base W v ms L) : ApS base W v L (L.map (·.1.pieces)) := by
  refine ⟨h.own, by rw [List.length_map], fun i x p hx hp => ?_, fun i j x y hne hx hy k h1 h2 => ?_⟩
  · rw [List.getElem?_map, hx] at hp
    cases hp
    exact h.pcs x (List.mem_of_getElem? hx)
  · obtain ⟨hi, e1⟩ := List.getElem?_eq_some_iff.1 hx
    obtain ⟨hj, e2⟩ := List.getElem?_eq_some_iff.1 hy
    have hp := List.pairwise_iff_getElem.1 h.dis
    rcases Nat.lt_or_ge i j with h5 | h5
    · have := hp i j hi hj h5 k (by rw [e1]; exact h1)
      rw [e2] at this
      exact this h2
    · have := hp j i hj hi (by omega) k (by rw [e2]; exact h2)
      rw [e1] at this
      exact this h1
theorem aps_path {base g c n : Nat} {W : World} {L : List MV} {PS : List (List Pc)} {k : Nat} {x : MV} (h : ApS base W (.slice (some ⟨g, 0, none⟩) n c) (pathS L k) PS) (hx : L[k]? = some x) (hn : n = L.length) :
    ApS base (W.setCell ⟨g, k * 5 + 1, none⟩ (.string (bs mineB))) (.slice (some ⟨g, 0, none⟩) n c) (pathS L (k + 1)) PS := by
  have hg : (Value.slice (some ⟨g, 0, none⟩) n c).ownBlock = some g := rfl
  refine ⟨?_, by rw [h.len, pathS_len, pathS_len], fun i y p hy hp => ?_, fun i j y z hne hy hz u h1 h2 => ?_⟩
  · have ho : W.ownsRow base 51 5 (.slice (some ⟨g, 0, none⟩) n c) (pathS L k).length (mvCells (pathS L k)) := h.own
    rw [pathS_len, ← hn] at ho
    have h2 := own_setc ho (k * 5 + 1) (.string (bs mineB))
    rw [pathS_step hx] at h2
    show World.ownsRow _ _ _ _ _ (pathS L (k + 1)).length _
    rw [pathS_len, ← hn]
    exact h2
  · obtain ⟨y', hy', e⟩ := pathS_snd hy
    have hy2 : ∃ z, (pathS L k)[i]? = some z ∧ z.2 = y'.2 := by
      rw [pathS_get, hy']
      refine ⟨_, rfl, ?_⟩
      split <;> rfl
    obtain ⟨z, hz, ez⟩ := hy2
    have ho := h.pcs i z p hz hp
    rw [ez, ← e] at ho
    exact own_keep ho (fun u eu => Below.heap_setCell W ⟨g, k * 5 + 1, none⟩ _ u (by intro e2; subst e2; exact own_apart ho h.own (by decide) eu hg))
  · have key : ∀ {q : Nat} {y : MV}, (pathS L (k + 1))[q]? = some y → ∃ z, (pathS L k)[q]? = some z ∧ z.2 = y.2 := fun hq => by
      obtain ⟨y', hy', e⟩ := pathS_snd hq
      rw [pathS_get, hy']
      refine ⟨_, rfl, ?_⟩
      rw [e]
      split <;> rfl
    obtain ⟨y', hy', e1⟩ := key hy
    obtain ⟨z', hz', e2⟩ := key hz
    exact h.dis i j y' z' hne hy' hz' u (by rw [e1]; exact h1) (by rw [e2]; exact h2)
theorem opB_mbR {l : List Mb} {B : List UInt8} {M : List Mb} {c : Int} {w : World} {v : Value} (h : OpB2 l B M c) (hv : Sl RMb 5 w v l) (hs : LsSm l) : ∀ m ∈ M, MbR m := by
  rcases h with ⟨_, _, rfl, _⟩ | ⟨_, rfl, _⟩
  · exact mbR_of hv hs
  · simp
theorem own_blk {w w' : World} {base base' e e' size size' n n' : Nat} {v v' : Value} {xs xs' : List Value} (h : w.ownsRow base e size v n xs) (h' : w'.ownsRow base' e' size' v' n' xs') (hb : w.heap.size ≤ base') : ∀ u, v'.ownBlock = some u → v.ownBlock ≠ some u := fun u e1 e2 => by
  have := (h.lt u e2).2
  have := (h'.lt u e1).1
  omega
set_option maxHeartbeats 4000000 in
theorem call_archiveFresh (v : Value) (l : List Mb) (w : World) (ha : ArgL w v l) (hp : Stp w) (hm : MaxL w) :
    Calls Tryd.prog 9 #[v] w fun e w' => e = .returned (.bool true) ∧ Below w.heap.size w w' := by
  obtain ⟨al, bl, ol, cl, rfl, hal, hcl⟩ := ha.sl
  obtain ⟨mp, hmp⟩ : ∃ n, l.length = n := ⟨_, rfl⟩
  have hcap := ha.cap _ _ _ rfl
  have hlen := ha.sm.len
  rw [hmp] at hal ha hcap hlen ⊢
  have HM := Lib.hid hmp
  have HA := Lib.hid ha
  have HP := Lib.hid hp
  have HMx := Lib.hid hm
  clear hmp ha hp hm hcl
  go_enter Tryd.func9, Tryd.ntmps9
  go_wp2_with fail
  refine (call_first w HP.out HMx.out).mono ?_
  rintro e w1 ⟨rfl, hb1⟩
  have HB1 := Lib.hid hb1
  have HAw := Lib.hid (HA.out.keep (keeps_below hb1))
  clear hb1
  go_upto_if 21 with (fail)
  go_cut [0] (fun v0 wc => w1 = wc ∧ ∃ l' a n c, v0 = .slice a n c ∧ n = l'.length ∧ ArgL w1 v0 l')
  case first =>
    by_cases h120 : 120 < mp
    · have hal' := hal (by omega)
      subst hal'
      have hc2 : (120 : Int) ≤ cl := by omega
      have HL : Hid (ArgL w1 (.slice (some ⟨bl, ol, none⟩) 120 cl) (l.take 120)) := Lib.hid ⟨Sl.take HAw.out.sl (by omega) cl, (fun n c e => by cases e), (fun a n c e => by cases e; omega), ⟨by rw [List.length_take]; omega, fun m hm => HA.out.sm.mb m (List.mem_of_mem_take hm)⟩⟩
      have HLn : Hid (120 = (l.take 120).length) := Lib.hid (by rw [List.length_take, HM.out]; omega)
      clear hal
      go_wp2
      go_meet
      case rel => exact ⟨rfl, _, _, _, _, rfl, HLn.out, HL.out⟩
    · go_wp2
      go_meet
      case rel => exact ⟨rfl, l, al, mp, cl, rfl, HM.out.symm, HAw.out⟩
  case rest =>
  obtain ⟨rfl, l', a0, n0, c0, rfl, hn0, ha0⟩ := hcut
  have HA1 := Lib.hid ha0
  obtain ⟨B, c, hBc⟩ := mkB_ex l'
  obtain ⟨M, c', hMc⟩ := opB_ex hBc
  have hBl := mkB_len hBc ha0.sm
  have HBc := Lib.hid hBc
  have HMc := Lib.hid hMc
  have HMs := Lib.hid (opB_sm hMc ha0.sm)
  obtain ⟨N, hN⟩ : ∃ N, B.length = N := ⟨_, rfl⟩
  have HN := Lib.hid hN
  rw [hN] at hBl
  clear ha0 hal hn0 hcap hlen hBc hMc hN HM HA HAw
  obtain ⟨i0, hi0, hz1, hs0, hb0⟩ := info_parts info5
  obtain ⟨i5, hi5, hz5, hs5, hb5⟩ := info_parts info51
  go_step; go_step
  go_wp2_with (first
    | (go_at_call 16; refine (call_make2 l' _ B c w1 HBc.out (Sl.mb HA1.out.sl) HA1.out.sm (HP.out.below HB1.out) (HMx.out.below HB1.out)).mono ?_; rintro e w2 ⟨va, rfl, ho2, hb2⟩; obtain ⟨aa, na, ca, rfl⟩ := own_isSl ho2; obtain rfl : na = N := (by rw [own_len' ho2, HN.out]); have HO2 := Lib.hid ho2; have HB2 := Lib.hid hb2; have HNa := Lib.hid (nil_of_own ho2); clear ho2 hb2)
    | (refine wpl_copyb rfl _ _ rfl rfl _ (by rfl) B (own_bytes HO2.out) HNa.out (by rw [HN.out]; omega) ?_; intro v3 w3 ho3 hb3; have HO3 := Lib.hid ho3; have HB3 := Lib.hid (HB2.out.trans (hb3.mono HB2.out.size)); have HB23 := Lib.hid hb3; have HOa : Hid ((w3.alloc (.cells #[.int .u8 1, .int .u8 2] 5)).ownsRow w1.heap.size 5 1 (.slice aa na ca) na (B.map byteV)) := Lib.hid (by have h := own_below (own_below HO2.out hb3) (below_alloc1 w3 (.cells #[.int .u8 1, .int .u8 2] 5)); rw [HN.out] at h; exact h); have HRm := Lib.hid (Row.new w3 5 [.int .u8 1, .int .u8 2]); have HSrc : Hid (∀ j u, (([1, 2] : List UInt8).map byteV)[j]? = some u → (w3.alloc (.cells #[.int .u8 1, .int .u8 2] 5)).cell? ((⟨w3.heap.size, 0, none⟩ : Addr).add j) = some u) := Lib.hid HRm.out.cells; have HBs : Hid (w1.heap.size ≤ (w3.alloc (.cells #[.int .u8 1, .int .u8 2] 5)).heap.size) := Lib.hid (by rw [alloc_size]; have := HB3.out.size; omega); clear ho3 hb3)
    | (at_builtin; refine wpl_appR 31 5 i0 _ 1 1 Tryd.underlying31 hi0 hz1 hs0 hb0 rfl (by decide) HOa.out (by rfl) _ _ (by rfl) (by rfl) ⟨w3.heap.size, 0, none⟩ 2 2 (by rfl) (([1, 2] : List UInt8).map byteV) rfl HSrc.out (one_bytes _) (by decide) HBs.out (by omega) (by decide) ?_; intro vl w4 h1 h2 h3 h4; obtain ⟨gl, cl4, rfl, _, _, hcl4, hcell4, _⟩ := own_form h1 (by omega); have HC4 : Hid (w4.cell? ⟨gl, na + 1, none⟩ = some (.int .u8 2)) := Lib.hid (hcell4 (na + 1) _ (by rw [List.getElem?_append_right (by rw [List.length_map, HN.out]; omega), List.length_map, HN.out, Nat.add_sub_cancel_left]; rfl)); have HO4a := Lib.hid h2; have HB4 : Hid (Below w1.heap.size w1 w4) := Lib.hid ((HB3.out.alloc HB3.out.size _).grown h3 HBs.out (fun r e => (HO2.out.lt r e).1)); have HO4k : Hid (Own w2.heap.size w4 v3 B) := Lib.hid (own_keep HO3.out (fun u e => (h3.block u (by rw [alloc_size]; have := (HO3.out.lt u e).2; omega) (fun e2 => own_blk HO2.out HO3.out (Nat.le_refl _) u e e2.symm)).trans (Below.heap_alloc w3 _ u (HO3.out.lt u e).2))); clear h1 h2 h3 h4 hcell4))
  have HLt2 : Hid (∀ u, (Value.slice aa na ca).ownBlock = some u → w1.heap.size ≤ u ∧ u < w2.heap.size) := Lib.hid (fun u e => ⟨(HO2.out.lt u e).1, (HO2.out.lt u e).2⟩)
  clear HOa HRm HSrc HBs HO3 HB3 HB23
  go_loopw [7] (fun i wr => ∃ k : Nat, i = .int .i64 k ∧ k ≤ na ∧ wr.ownsRow w1.heap.size 5 1 (.slice aa na ca) na ((fillB B k).map byteV) ∧ Own w2.heap.size wr v3 B ∧ wr.cell? ⟨gl, na + 1, none⟩ = some (.int .u8 2) ∧ Below w1.heap.size w1 wr) (fun i _ => na - (RowKit.intOf i).toNat)
  case atStart => exact ⟨0, rfl, Nat.zero_le _, HO4a.out, HO4k.out, HC4.out, HB4.out⟩
  case round =>
    obtain ⟨k, rfl, hk, hoa, hok, hcl, hbw⟩ := hrel
    have HOa := Lib.hid hoa
    have HOk := Lib.hid hok
    have HCl := Lib.hid hcl
    have HBw := Lib.hid hbw
    clear hoa hok hcl hbw HO4a HO4k HC4 HB4
    by_cases hlt : k < na
    · obtain ⟨ga, hga⟩ := own_addr HOa.out (by omega)
      subst hga
      obtain ⟨x, hx⟩ := fillB_at (B := B) (k := k) (by have := HN.out; omega)
      obtain ⟨c0, f0⟩ := own_cell HOa.out (j := k) (u := byteV x) (by rw [List.getElem?_map, hx]; rfl)
      have k0 : (0 : Int) ≤ k := by omega
      have k1 : (k : Int) < na := by omega
      obtain ⟨ga1, ga2⟩ := HLt2.out ga rfl
      have HC2 : Hid ((wr.setCell ⟨ga, k, none⟩ (.int .u8 3)).cell? ⟨gl, na + 1, none⟩ = some (.int .u8 2)) := Lib.hid ((World.cell?_setCell_other _ _ _ _ (by intro e; injection e with _ e; omega)).trans HCl.out)
      have HK2 : Hid (Own w2.heap.size (wr.setCell ⟨ga, k, none⟩ (.int .u8 3)) v3 B) := Lib.hid (own_keep HOk.out (fun u e => Below.heap_setCell wr ⟨ga, k, none⟩ _ u (by intro e2; subst e2; have := (HOk.out.lt _ e).1; omega)))
      have HA2 : Hid ((wr.setCell ⟨ga, k, none⟩ (.int .u8 3)).ownsRow w1.heap.size 5 1 (.slice (some ⟨ga, 0, none⟩) na ca) na ((fillB B (k + 1)).map byteV)) := Lib.hid (by have h := own_setc HOa.out k (.int .u8 3); rw [fillB_step (by have := HN.out; omega)] at h; exact h)
      have HW2 : Hid (Below w1.heap.size w1 (wr.setCell ⟨ga, k, none⟩ (.int .u8 3))) := Lib.hid (HBw.out.setCell ga1 _)
      unfold byteV at c0
      clear hx
      go_wp2_with fail
      go_roundw
      case rel => exact ⟨k + 1, by go_num, by omega, HA2.out, HK2.out, HC2.out, HW2.out⟩
      case measure => simp [RowKit.intOf]; omega
    · obtain rfl : na = k := by omega
      obtain ⟨w5, hw5⟩ : ∃ w5, wr = w5 := ⟨_, rfl⟩
      subst hw5
      have HA5 := Lib.hid (HA1.out.keep (keeps_below HBw.out))
      have HB5 := Lib.hid (below_after HB1.out HBw.out)
      have HMr : Hid (∀ m ∈ M, MbR m) := Lib.hid (opB_mbR HMc.out (Sl.mb HA1.out.sl) HA1.out.sm)
      go_wp2_with (first
        | (go_at_call 16; refine (call_make2 l' _ B c wr HBc.out (Sl.mb HA5.out.sl) HA1.out.sm (HP.out.below HB5.out) (HMx.out.below HB5.out)).mono ?_; rintro e w6 ⟨vb, rfl, ho6, hb6⟩; have HO6 := Lib.hid ho6; have HB6 := Lib.hid (below_after HB5.out hb6); have HK6 := Lib.hid (own_below HOk.out hb6); have HA6 := Lib.hid (own_below HOa.out hb6); have HC6 := Lib.hid (keeps_below hb6 _ _ _ HCl.out); clear ho6 hb6)
        | (go_at_call 17; refine (call_alike vb v3 B w6 (own_bytes HO6.out) (own_bytes HK6.out) (by rw [HN.out]; omega)).mono ?_; rintro e w7 ⟨rfl, hb7⟩; have HO7 := Lib.hid (own_below HO6.out hb7); have HB7 := Lib.hid (below_after HB6.out hb7); have HK7 := Lib.hid (own_below HK6.out hb7); have HA7 := Lib.hid (own_below HA6.out hb7); have HC7 := Lib.hid (keeps_below hb7 _ _ _ HC6.out); clear hb7)
        | (go_at_call 21; refine (call_open2 l' vb B M c' w8 HMc.out HA1.out.sm (own_bytes HO8.out) (own_cap HO8.out) (HP.out.below HB8.out) (HMx.out.below HB8.out)).mono ?_; rintro e w9 ⟨v9, L9, rfl, hm9, hb9⟩; have HM9 := Lib.hid hm9; have HX9 := Lib.hid (HM8.out.below hb9); have HBz9 := Lib.hid (below_after HBz8.out hb9); clear hm9 hb9)
        | (go_at_call 21; refine (call_open2 l' vb B M c' w7 HMc.out HA1.out.sm (own_bytes HO7.out) (own_cap HO7.out) (HP.out.below HB7.out) (HMx.out.below HB7.out)).mono ?_; rintro e w8 ⟨v8, L8, rfl, hm8, hb8⟩; have HM8 := Lib.hid hm8; have HO8 := Lib.hid (own_below HO7.out hb8); have HB8 := Lib.hid (below_after HB7.out hb8); have HBz8 := Lib.hid hb8; clear hm8 hb8)
        | (go_at_call 18; refine (call_same v8 v9 M w9 (HX9.out.mb HMr.out) (HM9.out.mb HMr.out) (LsSm.short HMs.out)).mono ?_; rintro e w10 ⟨rfl, hb10⟩; have HM10 := Lib.hid (HM9.out.below hb10); have HX10 := Lib.hid (HX9.out.below hb10); have HBz10 := Lib.hid (below_after HBz9.out hb10); clear hb10))
      obtain ⟨a8, n8, c8, rfl⟩ := own_isSl HX10.out.own
      have hn8 : n8 = L8.length := own_len' HX10.out.own
      have hL8 : L8.length = M.length := by rw [← HX10.out.fst, List.length_map]
      have hn8s : n8 ≤ 1048576 := by have := HMs.out.len; omega
      have HN8 := Lib.hid hn8
      have HLo : Hid (∀ x ∈ L8, ∀ u, x.2.ownBlock = some u → w7.heap.size ≤ u ∧ u < w8.heap.size) := Lib.hid (fun x hx u e => HM8.out.pcs x hx |>.lt u e)
      have HLg : Hid (∀ u, (Value.slice a8 n8 c8).ownBlock = some u → w7.heap.size ≤ u ∧ u < w8.heap.size) := Lib.hid (fun u e => HM8.out.own.lt u e)
      have HAp : Hid (ApS w7.heap.size w10 (.slice a8 n8 c8) (pathS L8 0) (L8.map (·.1.pieces))) := Lib.hid (by rw [pathS_zero]; exact mem_aps HX10.out)
      have HPl : Hid (∀ p ∈ L8.map (·.1.pieces), p.length ≤ 1048576) := Lib.hid (fun p hp => by
        obtain ⟨x, hx, rfl⟩ := List.mem_map.1 hp
        exact (HMs.out.mb x.1 (by rw [← HX10.out.fst]; exact List.mem_map_of_mem hx)).pieces)
      have HSl8 : Hid (∀ x ∈ L8, IsSl x.2) := Lib.hid (fun x hx => own_isSl (HX10.out.pcs x hx))
      clear hn8 hL8
      go_loopw [12] (fun i wr => ∃ k : Nat, i = .int .i64 k ∧ k ≤ n8 ∧ ApS w7.heap.size wr (.slice a8 n8 c8) (pathS L8 k) (L8.map (·.1.pieces)) ∧ MemS w8.heap.size wr v9 M L9 ∧ Below w7.heap.size w7 wr) (fun i _ => n8 - (RowKit.intOf i).toNat)
      case atStart => exact ⟨0, rfl, Nat.zero_le _, HAp.out, HM10.out, HBz10.out⟩
      case round =>
        obtain ⟨k, rfl, hk2, hap, hm9, hbz⟩ := hrel
        have HApk := Lib.hid hap
        have HM9k := Lib.hid hm9
        have HBzk := Lib.hid hbz
        clear hap hm9 hbz HAp HM10 HBz10 HX10
        by_cases hlt : k < n8
        · obtain ⟨g8, hg8⟩ := own_addr HApk.out.own (by omega)
          subst hg8
          obtain ⟨x, hx⟩ : ∃ x, L8[k]? = some x := ⟨_, List.getElem?_eq_getElem (by have := HN8.out; omega)⟩
          have hy : (pathS L8 k)[k]? = some x := by rw [pathS_get, hx]; simp
          obtain ⟨c0, f0⟩ := own_cell HApk.out.own (mvCells_get hy 1 (by omega))
          have c0' : wr.cell? ⟨g8, k * 5 + 1, none⟩ = some (.string (bs x.1.path)) := c0
          obtain ⟨gl1, gl2⟩ := HLg.out g8 rfl
          have k0 : (0 : Int) ≤ k := by omega
          have k1 : (k : Int) < n8 := by omega
          have HX := Lib.hid hx
          have HA2 : Hid (ApS w7.heap.size (wr.setCell ⟨g8, k * 5 + 1, none⟩ (.string ⟨#[109, 105, 110, 101]⟩)) (.slice (some ⟨g8, 0, none⟩) n8 c8) (pathS L8 (k + 1)) (L8.map (·.1.pieces))) := Lib.hid (aps_path HApk.out hx HN8.out)
          have HM2 : Hid (MemS w8.heap.size (wr.setCell ⟨g8, k * 5 + 1, none⟩ (.string ⟨#[109, 105, 110, 101]⟩)) v9 M L9) := Lib.hid (HM9k.out.kept (fun u h1 h2 => Below.heap_setCell wr ⟨g8, k * 5 + 1, none⟩ _ u (by intro e; simp only at e; omega)))
          have HZ2 : Hid (Below w7.heap.size w7 (wr.setCell ⟨g8, k * 5 + 1, none⟩ (.string ⟨#[109, 105, 110, 101]⟩))) := Lib.hid (HBzk.out.setCell gl1 _)
          clear hx hy c0
          go_wp2_with fail
          go_roundw
          case rel => exact ⟨k + 1, by go_num, by omega, HA2.out, HM2.out, HZ2.out⟩
          case measure => simp [RowKit.intOf]; omega
        · obtain rfl : n8 = k := by omega
          obtain ⟨LP, hLP⟩ : ∃ LP, pathS L8 n8 = LP := ⟨_, rfl⟩
          have hlp : LP.length = n8 := by rw [← hLP, pathS_len, ← HN8.out]
          have HLPl := Lib.hid hlp
          have HLP2 : Hid (∀ x ∈ LP, IsSl x.2 ∧ ∀ u, x.2.ownBlock = some u → w7.heap.size ≤ u ∧ u < w8.heap.size) := Lib.hid (fun x hx => by
            obtain ⟨j, hj⟩ := List.getElem?_of_mem hx
            rw [← hLP] at hj
            obtain ⟨y, hy, e⟩ := pathS_snd hj
            rw [e]
            exact ⟨HSl8.out y (List.mem_of_getElem? hy), HLo.out y (List.mem_of_getElem? hy)⟩)
          have HLPm : Hid (∀ (j : Nat) (x : MV), LP[j]? = some x → x.1.path = mineB) := Lib.hid (fun j x hj => by
            rw [← hLP, pathS_get] at hj
            obtain ⟨y, hy, rfl⟩ := Option.map_eq_some_iff.1 hj
            have := (List.getElem?_eq_some_iff.1 hy).1
            rw [if_pos (by have := HN8.out; omega)])
          rw [hLP] at HApk
          clear hLP hlp
          obtain ⟨w11, hw11⟩ : ∃ w11, wr = w11 := ⟨_, rfl⟩
          subst hw11
          go_wp2_with (first
            | (go_at_call 24; refine (call_apart w7.heap.size (.slice a8 n8 c8) LP (L8.map (·.1.pieces)) wr HApk.out (by rw [HLPl.out]; exact hn8s) HPl.out HBzk.out.size (fun x hx => (HLP2.out x hx).1)).mono ?_; rintro e w12 ⟨rfl, ht12⟩; have HM12 : Hid (MemS w8.heap.size w12 v9 M L9) := Lib.hid (HM9k.out.kept (fun u h1 h2 => ht12.block u h2 (fun x hx e => (by have := ((HLP2.out x hx).2 u e).2; omega)))); have HO12 : Hid (OwnM w7.heap.size w12 (.slice a8 n8 c8) LP) := Lib.hid (own_keep HApk.out.own (fun u e => ht12.block u (HApk.out.own.lt u e).2 (fun x hx e2 => (by obtain ⟨j, hj⟩ := List.getElem?_of_mem hx; have hjl := (List.getElem?_eq_some_iff.1 hj).1; exact own_apart (HApk.out.pcs j x _ hj (List.getElem?_eq_getElem (by have := HApk.out.len; omega))) HApk.out.own (by decide) e2 e)))); have HZ12 : Hid (Below w7.heap.size w7 w12) := Lib.hid (HBzk.out.trans ⟨ht12.os, ht12.tape, ht12.output, ht12.size, fun u hu => ht12.block u (Nat.lt_of_lt_of_le hu HBzk.out.size) (fun x hx e => (by have := ((HLP2.out x hx).2 u e).1; omega))⟩); have HOm : Hid ((w12.alloc (.cells #[.int .i64 0, .string ⟨#[98, 101, 104, 105, 110, 100]⟩, .string ⟨#[]⟩, .int .i64 0, .slice none 0 0] 51)).ownsRow w7.heap.size 51 5 (.slice a8 n8 c8) n8 (mvCells LP)) := Lib.hid (by have h : World.ownsRow _ _ _ _ _ LP.length _ := own_below HO12.out (below_alloc1 w12 (.cells #[.int .i64 0, .string ⟨#[98, 101, 104, 105, 110, 100]⟩, .string ⟨#[]⟩, .int .i64 0, .slice none 0 0] 51)); rw [HLPl.out] at h; exact h); have HSm : Hid (∀ j u, [Value.int .i64 0, .string ⟨#[98, 101, 104, 105, 110, 100]⟩, .string ⟨#[]⟩, .int .i64 0, .slice none 0 0][j]? = some u → (w12.alloc (.cells #[.int .i64 0, .string ⟨#[98, 101, 104, 105, 110, 100]⟩, .string ⟨#[]⟩, .int .i64 0, .slice none 0 0] 51)).cell? ((⟨w12.heap.size, 0, none⟩ : Addr).add j) = some u) := Lib.hid (Row.new w12 51 [Value.int .i64 0, .string ⟨#[98, 101, 104, 105, 110, 100]⟩, .string ⟨#[]⟩, .int .i64 0, .slice none 0 0]).cells; have HBm : Hid (w7.heap.size ≤ (w12.alloc (.cells #[.int .i64 0, .string ⟨#[98, 101, 104, 105, 110, 100]⟩, .string ⟨#[]⟩, .int .i64 0, .slice none 0 0] 51)).heap.size) := Lib.hid (by rw [alloc_size]; have := HZ12.out.size; omega); have HMz : Hid (MemS w8.heap.size (w12.alloc (.cells #[.int .i64 0, .string ⟨#[98, 101, 104, 105, 110, 100]⟩, .string ⟨#[]⟩, .int .i64 0, .slice none 0 0] 51)) v9 M L9) := Lib.hid (HM12.out.below (below_alloc1 _ _)); clear ht12)
            | (at_builtin; refine wpl_appR 30 51 i5 _ 5 72 Tryd.underlying30 hi5 hz5 hs5 hb5 rfl (by decide) HOm.out (by rfl) _ _ (by rfl) (by rfl) ⟨w12.heap.size, 0, none⟩ 1 1 (by rfl) [Value.int .i64 0, .string ⟨#[98, 101, 104, 105, 110, 100]⟩, .string ⟨#[]⟩, .int .i64 0, .slice none 0 0] rfl HSm.out (by intro u hu; simp only [List.mem_cons, List.not_mem_nil, or_false] at hu; rcases hu with rfl | rfl | rfl | rfl | rfl <;> rfl) (by decide) HBm.out (by omega) (by decide) ?_; intro vm w13 h1 h2 h3 h4; obtain ⟨gm, cm, rfl, _, _, hcm, hcellm, _⟩ := own_form h1 (by omega); have HCm : Hid (w13.cell? ⟨gm, n8 * 5 + 1, none⟩ = some (.string ⟨#[98, 101, 104, 105, 110, 100]⟩)) := Lib.hid (hcellm (n8 * 5 + 1) _ (by rw [List.getElem?_append_right (by rw [HOm.out.1]; omega), HOm.out.1, Nat.add_sub_cancel_left]; rfl)); have HOm3 := Lib.hid h2; have HZ13 : Hid (Below w7.heap.size w7 w13) := Lib.hid ((HZ12.out.alloc HZ12.out.size _).grown h3 HBm.out (fun r e => (HLg.out r e).1)); have HM13 : Hid (MemS w8.heap.size w13 v9 M L9) := Lib.hid (HMz.out.kept (fun u h1 h2 => h3.block u h2 (fun e => (by have := (HLg.out u e.symm).2; omega)))); have HOb := Lib.hid (own_below HO7.out HZ13.out); have HKb := Lib.hid (own_below HK7.out HZ13.out); have HBB := Lib.hid (below_after HB7.out HZ13.out); clear h1 h2 h3 h4 hcellm)
            | (go_at_call 21; refine (call_open2 l' vb B M c' w13 HMc.out HA1.out.sm (own_bytes HOb.out) (own_cap HOb.out) (HP.out.below HBB.out) (HMx.out.below HBB.out)).mono ?_; rintro e w14 ⟨v14, L14, rfl, hm14, hb14⟩; have HM14 := Lib.hid hm14; have HT14 := Lib.hid hb14; clear hm14 hb14)
            | (go_at_call 18; refine (call_same v14 v9 M w14 (HM14.out.mb HMr.out) ((HM13.out.below HT14.out).mb HMr.out) (LsSm.short HMs.out)).mono ?_; rintro e w15 ⟨rfl, hb15⟩; have HT15 := Lib.hid (below_after HT14.out hb15); clear hb15)
            | (go_at_call 17; refine (call_alike vb v3 B w15 (own_bytes (own_below HOb.out HT15.out)) (own_bytes (own_below HKb.out HT15.out)) (by rw [HN.out]; omega)).mono ?_; rintro e w16 ⟨rfl, hb16⟩; have HT16 := Lib.hid (below_after HT15.out hb16); clear hb16))
          have HA16 := Lib.hid (own_below (own_below HA7.out HZ13.out) HT16.out)
          have HO16 := Lib.hid (own_below HOm3.out HT16.out)
          have HCl := Lib.hid (keeps_below HT16.out _ _ _ (keeps_below HZ13.out _ _ _ HC7.out))
          have HCe := Lib.hid (keeps_below HT16.out _ _ _ HCm.out)
          have HBw := Lib.hid (below_after HBB.out HT16.out)
          go_loopw [15] (fun i wr => ∃ k : Nat, i = .int .i64 k ∧ k ≤ na ∧ wr = w16) (fun i _ => na - (RowKit.intOf i).toNat)
          case atStart => exact ⟨0, rfl, Nat.zero_le _, by trivial⟩
          case round =>
            obtain ⟨k, rfl, hk3, hwr⟩ := hrel
            subst hwr
            by_cases hlt : k < na
            · obtain ⟨ga, hga⟩ := own_addr HA16.out (by omega)
              subst hga
              obtain ⟨c0, f0⟩ := own_cell HA16.out (j := k) (u := .int .u8 3) (by rw [List.getElem?_map, fillB_get hlt]; rfl)
              have k0 : (0 : Int) ≤ k := by omega
              have k1 : (k : Int) < na := by omega
              go_wp2_with fail
              go_roundw
              case rel => exact ⟨k + 1, by go_num, by omega, by trivial⟩
              case measure => simp [RowKit.intOf]; omega
            · obtain rfl : na = k := by omega
              go_wp2_with fail
              go_loopw [16] (fun i w' => ∃ k : Nat, i = .int .i64 k ∧ k ≤ n8 ∧ w' = wr) (fun i _ => n8 - (RowKit.intOf i).toNat)
              case atStart => exact ⟨0, rfl, Nat.zero_le _, by trivial⟩
              case round =>
                obtain ⟨k, rfl, hk4, hwr⟩ := hrel
                subst hwr
                by_cases hlt : k < n8
                · obtain ⟨g8, hg8⟩ := own_addr HO16.out (by omega)
                  subst hg8
                  obtain ⟨x, hx⟩ : ∃ x, LP[k]? = some x := ⟨_, List.getElem?_eq_getElem (by have := HLPl.out; omega)⟩
                  obtain ⟨c0, f0⟩ := own_cell HO16.out (mvCells_get hx 1 (by omega))
                  have c0' : wr.cell? ⟨g8, k * 5 + 1, none⟩ = some (.string (bs mineB)) := by
                    rw [← HLPm.out k x hx]
                    exact c0
                  replace c0' : wr.cell? ⟨g8, k * 5 + 1, none⟩ = some (.string ⟨#[109, 105, 110, 101]⟩) := c0'
                  have k0 : (0 : Int) ≤ k := by omega
                  have k1 : (k : Int) < n8 := by omega
                  clear c0 hx
                  go_wp2_with fail
                  go_roundw
                  case rel => exact ⟨k + 1, by go_num, by omega, by trivial⟩
                  case measure => simp [RowKit.intOf]; omega
                · obtain rfl : n8 = k := by omega
                  have hcl := HCl.out
                  have hce := HCe.out
                  go_wp2_with fail
                  go_ret
                  exact ⟨rfl, HBw.out⟩
end Go.Proofs.YtlecpjfggoehdaaDoor.Ar
