
/- Archive: Make, the program's. -/
import Derived.Test.YtlecpjfggoehdaaGreatDoorArX
import Derived.Laws.CopyOwn
import Derived.Lib.SlBytesConst
import Derived.ArgAppend
import Derived.Deep.RegionLaw
import Derived.RangeFuncGives
set_option linter.unusedVariables false
set_option linter.unusedSimpArgs false
set_option maxRecDepth 100000
namespace Go.Proofs.YtlecpjfggoehdaaGreatDoor.Ar
open Go.RowKit Go.Sort Go.Lib Go.Proofs.YtlecpjfggoehdaaGreatDoor.Rs

/-- a text of one's own is not touched -/
theorem Own.touch {w w' : World} {lo B b1 b2 n base : Nat} {vl v : Value} {last : Option (List (List UInt8))} {fk fl : List UInt8 → Int} {L : List UInt8} (h : Touch w w' B b1 b2) (hl : LstV w lo B b1 b2 n vl last fk fl) (ho : Own base w v L) : Own base w' v L := by
  refine ⟨ho.1, ?_⟩
  rcases ho.2 with h0 | ⟨g, cap, cur, e, hb, hh, h1, h2, h3, h4⟩
  · exact .inl h0
  · refine .inr ⟨g, cap, cur, e, hb, ?_, h1, h2, h3, h4⟩
    have hr : Row w g 5 cur.toList := by show _ = _; rw [Array.toArray_toList]; exact hh
    have := h.row hl hr (by decide)
    rw [Row, Array.toArray_toList] at this
    exact this
/-- what is appended to a text elsewhere touches no list -/
theorem LstV.rest {w w' : World} {lo B b1 b2 n : Nat} {vl v : Value} {last : Option (List (List UInt8))} {fk fl : List UInt8 → Int} (h : LstV w lo B b1 b2 n vl last fk fl) (hr : Rest w w' v) (h0 : v.ownBlock ≠ some B) (h1 : v.ownBlock ≠ some b1) (h2 : v.ownBlock ≠ some b2)
    (hv : ∀ b, vl.ownBlock = some b → v.ownBlock ≠ some b) : LstV w' lo B b1 b2 n vl last fk fl := by
  refine ⟨(hr B h.row.lt h0).trans h.row, ?_, h.kinds.kept (hr b1 h.kinds.lt h1), h.links.kept (hr b2 h.links.lt h2), h.lo1, h.lo2, h.loB, h.ne⟩
  cases last with
  | none => exact h.last
  | some l =>
    obtain ⟨B', c, e, hc, hs⟩ := h.last
    refine ⟨B', c, e, hc, fun j s hj => ?_⟩
    have hcj := hs j s hj
    exact (World.cell?_of_block (a := ⟨B', j, none⟩) (hr B' (World.block_lt_of_cell? w _ hcj) (hv B' (by rw [e]; rfl)))).trans hcj

theorem flAt_le (l : List Mb) (q : List UInt8) (k : Nat) : 0 ≤ flAt l k q ∧ flAt l k q ≤ k := by
  rw [flAt_count]
  have h := List.length_filter_le (fun x : Mb => decide (x.kind = 3) && x.link == q) (l.take k)
  rw [List.length_take] at h
  omega
theorem lastAt_len (l : List Mb) (hl : LsSm l) : ∀ (k : Nat) (ns : List (List UInt8)), lastAt l k = some ns → ns.length ≤ 1048577
  | 0, _, h => by cases h
  | k + 1, ns, h => by
    rw [lastAt] at h
    cases hm : l[k]? with
    | none => rw [hm] at h; cases h
    | some m =>
      rw [hm] at h
      have h2 : namesB m.path = some ns := h
      have h3 := names_some h2
      have h4 := split47_length m.path
      rw [h3.1] at h4
      have := h3.2.2
      omega
theorem add_data {last : Option (List (List UInt8))} {fk fl : List UInt8 → Int} {m : Mb} (h : addOk last fk fl m = true) : ∀ p ∈ m.pieces, p.data.length ≤ 512 := by
  unfold addOk at h
  split at h
  · cases h
  · rw [Bool.and_eq_true, Bool.and_eq_true] at h
    have hk := h.2.2
    have he : bareB m = true → m.pieces = [] := fun hb => by
      rw [bareB, Bool.and_eq_true] at hb
      exact List.isEmpty_iff.1 hb.2
    unfold kindOkP at hk
    intro p hp
    split at hk
    · rw [Bool.and_eq_true] at hk
      rw [he hk.1] at hp; cases hp
    · split at hk
      · rw [Bool.and_eq_true] at hk
        have h3 : piecesOk m.size 0 m.pieces = true := (Bool.and_eq_true _ _ ▸ hk.2).2
        exact piecesOk_data h3 p hp
      · split at hk
        · rw [linkOkP, Bool.and_eq_true] at hk
          rw [he hk.1] at hp; cases hp
        · cases hk
theorem out_le {l : List Mb} (hl : LsSm l) (hlen : l.length ≤ 8192) {k : Nat} (h : ∀ j m, j < k → l[j]? = some m → addAt l j m = true) : ((l.take k).map memberB).flatten.length ≤ 5000000000000 := by
  have h1 := flat_le (l := (l.take k).map memberB) (m := 600000000) (fun x hx => by
    obtain ⟨y, hy, rfl⟩ := List.mem_map.1 hx
    obtain ⟨j, hj, rfl⟩ := List.getElem_of_mem hy
    have hj2 : j < k ∧ j < l.length := by rw [List.length_take] at hj; omega
    rw [List.getElem_take]
    exact memberB_le (hl.mb _ (List.getElem_mem _)) (add_data (h j _ hj2.1 (List.getElem?_eq_getElem hj2.2))))
  have h3 : ((l.take k).map memberB).length ≤ 8192 := by simp; omega
  have := Nat.mul_le_mul_left 600000000 h3
  omega
theorem lstAt_succ {l : List Mb} {k : Nat} {m : Mb} (hm : l[k]? = some m) : lastAt l (k + 1) = namesB m.path ∧ fkAt l (k + 1) = updI (fkAt l k) m.path m.kind ∧ flAt l (k + 1) = linksP (flAt l k) m := by
  refine ⟨by rw [lastAt, hm]; rfl, by rw [fkAt, hm], ?_⟩
  rw [flAt, hm]; rfl
theorem line_splice (n : Int) : splice (List.replicate 64 (Value.int .u8 0)) 0 ((magicB ++ halfB n).map byteV) = (lineB n).map byteV := by
  rfl

set_option maxHeartbeats 1000000 in
/-- half, behind a full row of another's -/
theorem call_halfG (b n : Nat) (olds : List UInt8) (x : Int) (w : World) (hn : olds.length = n) (hc : ∀ j c, olds[j]? = some c → w.cell? ⟨b, j, none⟩ = some (byteV c)) (hn2 : n ≤ 100000000000000) (hb : b < w.heap.size) :
    Calls Tryz.prog 20 #[.slice (some ⟨b, 0, none⟩) n n, .int .i64 x] w fun e w' => ∃ v', e = .returned v' ∧ w'.ownsRow w.heap.size 5 1 v' (n + 4) ((olds ++ halfB x).map byteV) ∧ Below w.heap.size w w' := by
  obtain ⟨i0, hi, hz0, hz1, hz2⟩ := info_parts info5
  have y2 : IntKind.u64.wrap x = x % 18446744073709551616 := by first | rfl | simp [IntKind.wrap]
  have y0 : 0 ≤ IntKind.u64.wrap x := by rw [y2]; omega
  have y1 : IntKind.u64.wrap x < 18446744073709551616 := by rw [y2]; omega
  have Y0 := Lib.hid y0
  have Y1 := Lib.hid y1
  have Y2 := Lib.hid y2
  have HC := Lib.hid hc
  have HN := Lib.hid hn
  clear y0 y1 y2 hc hn
  have C0 := Lib.hid ((Row.new w 96 [.int .u64 (IntKind.u64.wrap x)]).cell 0)
  go_enter Tryz.func20, Tryz.ntmps20
  go_wp2_with (first | (go_at_call 40; refine (call_bytes1 _ _ _ _ Y0.out Y1.out _ C0.out).mono ?_; rintro e w1 ⟨v1, rfl, ho1, hb1⟩; obtain ⟨g1, c1, rfl, hg1, hc1, hcell⟩ := own_cells ho1 (by omega); clear ho1; have HB1 := Lib.hid ((below_alloc1 w (.cells #[.int .u64 (IntKind.u64.wrap x)] 96)).trans (hb1.mono (by rw [alloc_size]; omega))); have HC1 := Lib.hid hcell; clear hb1 hcell) | refine wpList_append_grows w1 rfl _ _ 22 rfl 5 i0 (.int .u8 0) 1 1 Tryz.underlying22 hi hz0 hz1 hz2 rfl (by decide) (some ⟨b, 0, none⟩) n n (olds.map byteV) rfl (fun h => by cases h) ?c1 ?c2 ⟨g1, 0, none⟩ 4 c1 ((halfB x).map byteV) rfl rfl ?c3 (one_bytes _) (by omega) (by simp only [maxLen]; omega) (by omega) ?c4)
  case c1 => rw [List.length_map, HN.out, Nat.mul_one]
  case c2 =>
    intro b' e j u hj
    cases e
    rw [add0]
    rw [List.getElem?_map, Option.map_eq_some_iff] at hj
    obtain ⟨c, hc, rfl⟩ := hj
    exact (HB1.out.cell (p := ⟨b, j, none⟩) hb).trans (HC.out j c hc)
  case c3 =>
    intro j u hj
    rw [add0]
    apply HC1.out
    have hj4 : j < 4 := by have := (List.getElem?_eq_some_iff.1 hj).1; simpa [halfB] using this
    rw [Y2.out]
    match j, hj4 with
    | 0, _ | 1, _ | 2, _ | 3, _ =>
      cases hj
      simp [wordB, byteAt_mod]
  intro v' w' h1 h2
  have H1 := Lib.hid h1
  have H2 := Lib.hid (HB1.out.grown h2 HB1.out.size (fun k e => by cases e))
  clear h1 h2
  go_wp2
  go_ret
  refine ⟨_, rfl, ?_, H2.out⟩
  rw [List.map_append]
  exact own_mono H1.out HB1.out.size
/-- a call of a function of two arguments, at a step of a region that draws -/
theorem step_call2 {P : Program} {ops : Array Oper} {o : Oper} {a : Act} {w : World} {K : Act → World → Prop} {Q : Exit → Act → World → Prop} {E : Prop} (hgd : o.guard = none) (x y : Operand) (t1 t2 : TypeId) (f : Nat)
    (ho : o.op = .call { callee := .value (.func f), args := #[x, y], argTypes := #[t1, t2] }) (vx vy : Value) (hx : a.eval x = vx) (hy : a.eval y = vy) (he : ∀ args w, (callFunc f args).run P w = .ok (.enter f args) w)
    (h : Calls P f #[vx, vy] w fun e w' => ∃ v, e = .returned v ∧ K (a.put o.dst v) w') :
    if Region.wanted o (yielded ops a.tmps) = true then Oper.wp P o a w K Q else E := by
  have hw : Region.wanted o (yielded ops a.tmps) = true := by simp [Region.wanted, hgd]
  rw [if_pos hw]
  unfold Oper.wp execOp
  simp only [ho, resolve, invoke, Sem.run_bind, Sem.run_pure, Result.andThen_ok, List.map_toArray, List.map_cons, List.map_nil, hx, hy]
  rw [show a.eval (.func f) = .func (.func f) #[] #[] from rfl]
  simp only [Deferred.ofValue, Sem.run_pure, Result.andThen_ok, Array.append_empty, Array.empty_append, he]
  rw [Oper.upon_enter]
  refine h.mono ?_
  rintro e w' ⟨v, rfl, hk⟩
  exact hk
/-- what Make answers -/
def MakePost (w : World) (l : List Mb) (e : Ending) (w' : World) : Prop :=
  (if goodB l = true then ∃ v', e = .returned (.tuple #[v', .int .i64 0]) ∧ Own w.heap.size w' v' (makeB l) else e = .returned (.tuple #[.slice none 0 0, .int .i64 211])) ∧ Below w.heap.size w w'
theorem MakePost.good {w : World} {l : List Mb} {e : Ending} {w' : World} (h : goodB l = true) : MakePost w l e w' ↔ (∃ v', e = .returned (.tuple #[v', .int .i64 0]) ∧ Own w.heap.size w' v' (makeB l)) ∧ Below w.heap.size w w' := by unfold MakePost; rw [if_pos h]
theorem MakePost.bad {w : World} {l : List Mb} {e : Ending} {w' : World} (h : goodB l = false) : MakePost w l e w' ↔ e = .returned (.tuple #[.slice none 0 0, .int .i64 211]) ∧ Below w.heap.size w w' := by unfold MakePost; rw [if_neg (by rw [h]; simp)]
theorem below_drew' {N : Nat} {w w' : World} (h : Below N w w') : Below N w w'.drew := h.drew
set_option maxHeartbeats 8000000 in
theorem call_make (l : List Mb) (v : Value) (w : World) (hs : Sl RMb 5 w v l) (hl : LsSm l) (hp : Stp w) (hm : MaxL w) :
    Calls Tryz.prog 10 #[v] w (MakePost w l) := by
  have HSl := Lib.hid hs
  obtain ⟨al, bl, ol, cl, rfl, ha, hc⟩ := hs
  obtain ⟨mp, hmp⟩ : ∃ n, l.length = n := ⟨_, rfl⟩
  have hlen := hl.len
  rw [hmp] at ha HSl hlen ⊢
  have HM := Lib.hid hmp
  have HC := Lib.hid hc
  have HL := Lib.hid hl
  have HP := Lib.hid hp
  have HMx := Lib.hid hm
  clear hc hl hp hm
  by_cases h0 : 8192 < mp
  · have hg : goodB l = false := by rw [goodB, decide_eq_false (by omega)]; rfl
    have HG := Lib.hid hg
    clear hg hmp
    go_enter Tryz.func10, Tryz.ntmps10
    go_wp2
    go_ret2
    exact (MakePost.bad HG.out).2 ⟨rfl, Below.refl _ _⟩
  · have h02 : mp ≤ 8192 := by omega
    have HP1 : Hid (∀ w', Below w.heap.size w w' → Stp w') := Lib.hid (fun w' hb => HP.out.below hb)
    clear hmp
    go_enter Tryz.func10, Tryz.ntmps10
    go_wp2_with (go_at_call 19; refine (call_newList _).mono ?_; rintro e w1 ⟨B, b1, b2, rfl, hl1, hb1⟩; have HL1 := Lib.hid hl1; have HB1 := Lib.hid hb1; clear hl1 hb1)
    generalize hwA : w1.alloc _ = wA
    have hRA : Row wA w1.heap.size 53 (List.replicate 64 (.int .u8 0)) := by rw [← hwA]; exact Row.new w1 53 (List.replicate 64 (.int .u8 0))
    have hzA : wA.heap.size = w1.heap.size + 1 := by rw [← hwA, alloc_size]
    have hbA : Below w1.heap.size w1 wA := by rw [← hwA]; exact below_alloc1 w1 _
    obtain ⟨A, hA⟩ : ∃ n, w1.heap.size = n := ⟨_, rfl⟩
    obtain ⟨Z, hZ⟩ : ∃ n, wA.heap.size = n := ⟨_, rfl⟩
    have hAZ : A < Z := by omega
    have HA := Lib.hid hA
    have HZ := Lib.hid hZ
    have HRA : Hid (Row wA A 53 (List.replicate 64 (.int .u8 0))) := Lib.hid (by rw [← hA]; exact hRA)
    have HBA := Lib.hid hbA
    have hcv : (convert 22 22 (.slice (some ⟨wA.heap.size, 0, none⟩) 8 8)).run Tryz.prog ((wA.alloc (.cells #[.int .u8 70, .int .u8 85, .int .u8 82, .int .u8 82, .int .u8 79, .int .u8 87, .int .u8 65, .int .u8 82] 5)).drew) = .ok (.slice (some ⟨wA.heap.size, 0, none⟩) 8 8) ((wA.alloc (.cells #[.int .u8 70, .int .u8 85, .int .u8 82, .int .u8 82, .int .u8 79, .int .u8 87, .int .u8 65, .int .u8 82] 5 (8, 9))).drew) :=
      Lib.run_convert_bytes_const wA.drew 22 5 #[.int .u8 70, .int .u8 85, .int .u8 82, .int .u8 82, .int .u8 79, .int .u8 87, .int .u8 65, .int .u8 82] 8 8 Tryz.underlying22 Tryz.underlying5
    have HBz := Lib.hid (below_drew' (below_alloc1 wA (.cells #[.int .u8 70, .int .u8 85, .int .u8 82, .int .u8 82, .int .u8 79, .int .u8 87, .int .u8 65, .int .u8 82] 5 (8, 9))))
    have HCz : Hid (∀ j c, magicB[j]? = some c → ((wA.alloc (.cells #[.int .u8 70, .int .u8 85, .int .u8 82, .int .u8 82, .int .u8 79, .int .u8 87, .int .u8 65, .int .u8 82] 5 (8, 9))).drew).cell? ⟨wA.heap.size, j, none⟩ = some (byteV c)) := Lib.hid (fun j c hj => by
      have h : (wA.alloc (.cells #[.int .u8 70, .int .u8 85, .int .u8 82, .int .u8 82, .int .u8 79, .int .u8 87, .int .u8 65, .int .u8 82] 5 (8, 9))).heap[wA.heap.size]? = some (.cells #[.int .u8 70, .int .u8 85, .int .u8 82, .int .u8 82, .int .u8 79, .int .u8 87, .int .u8 65, .int .u8 82] 5 (8, 9)) := by show (wA.heap.push _)[wA.heap.size]? = _; simp
      show (wA.alloc _).cell? _ = _
      simp only [World.cell?, h]
      have hj8 : j < 8 := (List.getElem?_eq_some_iff.1 hj).1
      match j, hj8 with
      | 0, _ | 1, _ | 2, _ | 3, _ | 4, _ | 5, _ | 6, _ | 7, _ => cases hj; rfl)
    have HSz : Hid (wA.heap.size < (wA.alloc (.cells #[.int .u8 70, .int .u8 85, .int .u8 82, .int .u8 82, .int .u8 79, .int .u8 87, .int .u8 65, .int .u8 82] 5 (8, 9))).drew.heap.size) := Lib.hid (by show _ < (wA.alloc _).heap.size; rw [alloc_size]; omega)
    clear hRA hzA hbA hwA hZ
    rw [hA]
    clear hA
    go_region_law ((first
        | (refine step_call2 (by rfl) _ _ 22 3 20 (by rfl) _ _ (by rfl) (by rfl) (enters_of Tryz.func20 (by kernel_rfl) rfl) ((call_halfG wA.heap.size 8 magicB mp _ rfl HCz.out (by omega) HSz.out).mono ?_); rintro e w2 ⟨v2, rfl, ho2, hb2⟩; refine ⟨_, rfl, ?_⟩; obtain ⟨g2, c2, rfl, hg2, hc2, hcell2⟩ := own_cells ho2 (by omega); have HC2 := Lib.hid hcell2; have HB2 : Hid (Below Z wA w2) := Lib.hid ((HBz.out.trans (hb2.mono (Nat.le_of_lt HSz.out))).mono (by rw [HZ.out]; exact Nat.le_refl _)); clear ho2 hb2 hcell2)
        | (refine step_copy_splice (by rfl) _ _ 22 22 (by rfl) 5 Tryz.underlying22 (by kernel_rfl) (some ⟨A, 0, none⟩) (some ⟨g2, 0, none⟩) 64 64 12 c2 (by rfl) (by rfl) A 0 (List.replicate 64 (.int .u8 0)) 53 (HRA.out.below HB2.out hAZ) ((magicB ++ halfB mp).map byteV) (by rfl) (fun _ => ⟨rfl, ⟨g2, 0, none⟩, rfl, fun j v hj => by rw [add0]; exact HC2.out j v hj⟩) (by show 0 + 12 ≤ 64; omega) (one_bytes _) A w1 (by have h := HBA.out; rw [HA.out] at h; exact h.trans (HB2.out.mono (Nat.le_of_lt hAZ))) (Nat.le_refl _) ?_; intro w3 hg3 hb3; have HB3 := Lib.hid hb3; clear hb3)))
    have HR3 : Hid (Row w3 A 53 ((lineB mp).map byteV)) := hg3
    have HB0 := HB1
    have HBl := Lib.hid (HB1.out.trans (HB3.out.mono (by rw [← HA.out]; exact HB1.out.size)))
    have HW := HB3
    have hB1 : B < A := by have := HL1.out.row.lt; have := HA.out; omega
    have hB2 : b1 < A := by have := HL1.out.kinds.lt; have := HA.out; omega
    have hB3 : b2 < A := by have := HL1.out.links.lt; have := HA.out; omega
    have hwA : w.heap.size ≤ A := by have := HB1.out.size; have := HA.out; omega
    clear hg3 HRA HBA HBz HCz HSz hcv HB2 HC2 HB3 HZ hAZ
    have hLL := lineB_len mp
    generalize hL : lineB mp = L at *
    have HL0 := Lib.hid hL
    clear hL
    have hCL := closeB_len L hLL
    clear HBl
    go_wp2_with (first
      | refine wpl_load HR3.out rfl 53 _ rfl rfl _ 64 (by simpa using hLL) Tryz.underlying53 rfl (by kernel_rfl) ?_
      | (go_at_call 21; refine (call_close L hLL _ (HP1.out _ (HB0.out.trans (HW.out.mono hwA)))).mono ?_; rintro e w4 ⟨rfl, hb4⟩; have HR4 := Lib.hid (HR3.out.below hb4 HR3.out.lt); have HW4 := Lib.hid (HW.out.trans (hb4.mono (Nat.le_of_lt HR3.out.lt))); clear hb4)
      | (refine wpl_storeA HR4.out rfl 53 _ _ rfl ((closeB L).map byteV) rfl rfl 64 (by simpa using hLL) (by simpa using hCL) (one_bytes _) (by kernel_rfl) ?_
         intro w5 hr5 hk5 hs5
         have HR5 := Lib.hid hr5
         have HW5 := Lib.hid (hk5 _ _ HW4.out (Nat.le_refl A))
         have HS5 := Lib.hid hs5
         have HO5 : Hid ((w5.alloc (.cells #[] 5)).ownsRow w5.heap.size 5 1 (.slice (some ⟨w5.heap.size, 0, none⟩) 0 0) 0 (([] : List UInt8).map byteV)) := Lib.hid (World.ownsRow_made w5 #[] 0 (e := 5) (size := 1) (Nat.le_refl _) (by simp [maxLen]) rfl)
         clear hr5 hk5 hs5)
      | (refine wpl_app HO5.out rfl _ _ rfl rfl A 0 64 64 rfl (closeB L) hCL (row_bytes (HR5.out.alloc _)) (by rw [alloc_size]; omega) (by omega) ?_
         intro v6 w6 ho6 hb6
         have HO6 : Hid (Own w5.heap.size w6 v6 (closeB L)) := Lib.hid (by have h := Own.app ho6 (by rw [hCL]; rfl); exact h)
         have HW6 := Lib.hid (HW5.out.trans ((below_alloc1 w5 (.cells #[] 5)).trans hb6 |>.mono (Nat.le_of_lt HS5.out)))
         have HS6 := Lib.hid (Nat.le_trans (by rw [alloc_size]; omega : w5.heap.size ≤ (w5.alloc (.cells #[] 5)).heap.size) hb6.size)
         clear ho6 hb6))
    obtain ⟨H5, hH5⟩ : ∃ n, w5.heap.size = n := ⟨_, rfl⟩
    rw [hH5] at HO6 HS6
    have hA5 : A < H5 := by rw [← hH5]; exact HS5.out
    have HL6 := Lib.hid (HL1.out.below (by rw [HA.out]; exact HW6.out))
    have HB6 := Lib.hid (HB0.out.trans (HW6.out.mono hwA))
    clear HO5 HR5 HR4 HR3 HW HW4 HW5 HW6 HL1 HA hH5 HS5
    go_loopw [6, 27] (fun v i wr => ∃ (k : Nat), i = .int .i64 k ∧ k ≤ mp ∧ Own H5 wr v (closeB L ++ ((l.take k).map memberB).flatten) ∧ Below w.heap.size w wr ∧ H5 ≤ wr.heap.size ∧ (∀ j m, j < k → l[j]? = some m → addAt l j m = true) ∧
        ∃ n vl, n ≤ 2 * k ∧ LstV wr w.heap.size B b1 b2 n vl (lastAt l k) (fkAt l k) (flAt l k))
      (fun _ i _ => mp - (RowKit.intOf i).toNat)
    case atStart => exact ⟨0, rfl, Nat.zero_le _, by simpa using HO6.out, HB6.out, HS6.out, fun j m h => by omega, 0, _, Nat.le_refl _, HL6.out⟩
    case round =>
      obtain ⟨k, rfl, hk, ho, hb, hsz, hadd, n, vl, hn, hls⟩ := hrel
      clear HO6 HB6 HS6 HL6
      have HO := Lib.hid ho
      have HB := Lib.hid hb
      have HS := Lib.hid hsz
      have HAd := Lib.hid hadd
      have HLs := Lib.hid hls
      clear ho hb hsz hadd hls
      by_cases hlt : k < mp
      · obtain ⟨m, hm⟩ : ∃ r, l[k]? = some r := ⟨_, List.getElem?_eq_getElem (by have := HM.out; omega)⟩
        have ha' := ha (by omega)
        subst ha'
        obtain ⟨vp, c0', c1', c2', c3', c4', hvw⟩ := HC.out k m hm
        obtain ⟨pa, pn, pc, rfl⟩ : ∃ a m' c, vp = .slice a m' c := by obtain ⟨a, b, o, c, h, _⟩ := hvw.pieces; exact ⟨_, _, _, h⟩
        have c0 := keeps_below HB.out _ _ _ c0'
        have c1 := keeps_below HB.out _ _ _ c1'
        have c2 := keeps_below HB.out _ _ _ c2'
        have c3 := keeps_below HB.out _ _ _ c3'
        have c4 := keeps_below HB.out _ _ _ c4'
        have hv := hvw.keep (keeps_below HB.out)
        have HVw := Lib.hid hvw
        clear c0' c1' c2' c3' c4' hvw
        have HMm := Lib.hid (HL.out.mb m (List.mem_of_getElem? hm))
        have HMk := Lib.hid hm
        have k0 : (0 : Int) ≤ k := by omega
        have k1 : (k : Int) < mp := by omega
        have HVa := Lib.hid (hv.keep (keeps_alloc wr (.cells (mbCells m (.slice pa pn pc)).toArray 58)))
        have HRa := Lib.hid (Row.new wr 58 (mbCells m (.slice pa pn pc)))
        have HLa := Lib.hid (HLs.out.below (below_alloc1 wr (.cells (mbCells m (.slice pa pn pc)).toArray 58)))
        have HBa := Lib.hid (HB.out.alloc HB.out.size (.cells (mbCells m (.slice pa pn pc)).toArray 58))
        have HMa := Lib.hid (HMx.out.below HBa.out)
        have HOa := Lib.hid (HO.out.below (below_alloc1 wr (.cells (mbCells m (.slice pa pn pc)).toArray 58)))
        have HLt : Hid (∀ b, u6.ownBlock = some b → b < wr.heap.size) := Lib.hid (fun b e => (HO.out.lt b e).2)
        have HGe : Hid (∀ b, u6.ownBlock = some b → H5 ≤ b) := Lib.hid (fun b e => (HO.out.lt b e).1)
        have d0 := (show _ = some (Value.int .i64 m.kind) from HRa.out.cell 0)
        have d1 := (show _ = some (Value.string (bs m.path)) from HRa.out.cell 1)
        have d2 := (show _ = some (Value.string (bs m.link)) from HRa.out.cell 2)
        have d3 := (show _ = some (Value.int .i64 m.size) from HRa.out.cell 3)
        have d4 := (show _ = some (Value.slice pa pn pc) from HRa.out.cell 4)
        have HN1 : Hid (n < 100000) := Lib.hid (by omega)
        have HFl : Hid (∀ q, 0 ≤ flAt l k q ∧ flAt l k q ≤ 1000000) := Lib.hid (fun q => by have := flAt_le l q k; omega)
        have HLast : Hid (∀ ns, lastAt l k = some ns → ns.length ≤ 1048577) := Lib.hid (fun ns h => lastAt_len l HL.out k ns h)
        simp only [mbCells] at d0 d1 d2 d3 d4 HVa HLa HBa HMa HOa HRa
        clear hm hv ha
        cases hok : addAt l k m with
        | false =>
          have HBad : Hid (goodB l = false) := Lib.hid (bad_of_add HAd.out HMk.out hok)
          have HOk := Lib.hid hok
          clear hok
          go_wp2_with (go_at_call 22; refine (call_add m (.slice pa pn pc) _ HVa.out HMm.out HMa.out HLa.out HN1.out HFl.out HLast.out).mono ?_; rintro e w7 ⟨rfl, ht7, _⟩; rw [show addOk (lastAt l k) (fkAt l k) (flAt l k) m = false from HOk.out]; have HB7 := Lib.hid (HBa.out.trans (ht7.below HLa.out.loB HLa.out.lo1 HLa.out.lo2 HBa.out.size)); clear ht7)
          go_ret2
          exact (MakePost.bad HBad.out).2 ⟨rfl, HB7.out⟩
        | true =>
          have HOk := Lib.hid hok
          clear hok
          go_wp2_with (go_at_call 22; refine (call_add m (.slice pa pn pc) _ HVa.out HMm.out HMa.out HLa.out HN1.out HFl.out HLast.out).mono ?_; rintro e w7 ⟨rfl, ht7, hl7⟩; rw [show addOk (lastAt l k) (fkAt l k) (flAt l k) m = true from HOk.out] at hl7 ⊢; obtain ⟨vl7, n7, hn7, hls7, hfr7⟩ := hl7 rfl; have HT7 := Lib.hid ht7; have HL7 := Lib.hid hls7; have HF7 := Lib.hid hfr7; clear ht7 hl7 hls7 hfr7 d0 d1 d2 d3 d4; have HR7 := Lib.hid (HT7.out.row HLa.out HRa.out (by decide)); have e0 := (show _ = some (Value.int .i64 m.kind) from HR7.out.cell 0); have e1 := (show _ = some (Value.string (bs m.path)) from HR7.out.cell 1); have e2 := (show _ = some (Value.string (bs m.link)) from HR7.out.cell 2); have e3 := (show _ = some (Value.int .i64 m.size) from HR7.out.cell 3); have e4 := (show _ = some (Value.slice pa pn pc) from HR7.out.cell 4))
          have HB7 := Lib.hid (HBa.out.trans (HT7.out.below HLa.out.loB HLa.out.lo1 HLa.out.lo2 HBa.out.size))
          have HO7 : Hid (Own H5 w7 u6 (closeB L ++ ((l.take k).map memberB).flatten)) := Lib.hid (Own.touch HT7.out HLa.out HOa.out)
          have hS7 : H5 ≤ w7.heap.size := by have h1 := HS.out; have h2 := HT7.out.size; rw [alloc_size] at h2; omega
          have HS7 := Lib.hid hS7
          have HV7 := Lib.hid (HVw.out.keep (keeps_below HB7.out))
          have HP7 := Lib.hid (HP1.out _ HB7.out)
          have HMl := Lib.hid (memberB_le HMm.out (add_data HOk.out))
          have HMb := Lib.hid (out_le HL.out (by rw [HM.out]; exact h02) HAd.out)
          have hm20 : 0 < (memberB m).length := by
            have e2 : (((numsOf m).map halfB).flatten).length = 20 := rfl
            rw [memberB, List.length_append, innerB, List.length_append, frontB, List.length_append, List.length_append, e2]; omega
          have H20 := Lib.hid hm20
          generalize hCC : closeB L ++ ((l.take k).map memberB).flatten = CC at HO7
          have HCC := Lib.hid hCC
          have HCl : Hid (CC.length ≤ 6000000000000) := Lib.hid (by rw [← hCC, List.length_append, hCL]; have := HMb.out; omega)
          clear hCC hm20 hS7 HVa HRa HLa HBa HMa HOa HO
          go_wp2_with (first
            | (go_at_call 23; refine (call_member m (.slice pa pn pc) _ HV7.out HMm.out HP7.out).mono ?_; rintro e w8 ⟨v8, rfl, ho8, hb8⟩
               obtain ⟨hl8, _, g8, c8, rfl, hg8, hc8⟩ := bytes_own ho8 H20.out
               have HO8 := Lib.hid (HO7.out.below hb8)
               have HB8 := Lib.hid (below_after HB7.out hb8)
               have HL8 := Lib.hid (HL7.out.below hb8)
               have HC8 := Lib.hid hc8
               have HZ8 := Lib.hid hb8.size
               clear ho8 hb8 hc8 hg8 hl8)
            | (refine wpl_appG HO8.out rfl _ _ rfl rfl g8 0 (memberB m).length c8 rfl (memberB m) rfl (fun j b hj => by rw [Nat.zero_add]; exact HC8.out j b hj) (Nat.le_trans HS7.out HZ8.out) (by have := HCl.out; have := HMl.out; omega) ?_
               intro v9 w9 h9 hb9 hg9
               have HO9 := Lib.hid (Own.app h9 rfl)
               have HB9 := Lib.hid (HB8.out.trans (hb9.mono (by omega)))
               have HS9 := Lib.hid (Nat.le_trans (Nat.le_trans HS7.out HZ8.out) hb9.size)
               have HL9 := Lib.hid (LstV.rest HL8.out hg9.rest (fun e => by have := HGe.out _ e; omega) (fun e => by have := HGe.out _ e; omega) (fun e => by have := HGe.out _ e; omega) (fun b hb e => by have h1 := HF7.out b hb; have h2 := HLt.out b e; rw [alloc_size] at h1; omega))
               clear h9 hb9 hg9))
          go_roundw
          case rel =>
            refine ⟨k + 1, by go_num, by omega, ?_, HB9.out, HS9.out, fun j x hj hx => ?_, n7, vl7, by omega, ?_⟩
            · have h := HO9.out
              rw [← HCC.out] at h
              rw [List.take_add_one, HMk.out]
              simpa using h
            · by_cases e : j = k
              · subst e
                rw [HMk.out] at hx
                cases hx
                exact HOk.out
              · exact HAd.out j x (by omega) hx
            · obtain ⟨h1, h2, h3⟩ := lstAt_succ HMk.out
              rw [h1, h2, h3]
              exact HL9.out
          case measure => simp [RowKit.intOf]; omega
      · obtain rfl : k = mp := by omega
        have hgood : goodB l = true := good_of_adds (by rw [HM.out]; exact h02) (fun j m hj hm => HAd.out j m (by rw [HM.out] at hj; exact hj) hm)
        have HG := Lib.hid hgood
        have HMF : Hid (closeB L ++ ((l.take k).map memberB).flatten = makeB l) := Lib.hid (by
          rw [List.take_of_length_le (by have := HM.out; omega), makeB, HM.out, ← HL0.out])
        clear ha hgood
        go_wp2
        go_ret2
        refine (MakePost.good HG.out).2 ⟨⟨_, rfl, ?_⟩, HB.out⟩
        have h := HO.out
        rw [HMF.out] at h
        exact own_mono h (by omega)
end Go.Proofs.YtlecpjfggoehdaaGreatDoor.Ar
