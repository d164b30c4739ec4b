
/- Archive: whether a member may stand at its place, the reference's. -/
import Derived.Test.YtlecpjfggoehdaaGreatDoorArN
import Derived.Test.YtlecpjfggoehdaaGreatDoorArM
import Derived.Test.YtlecpjfggoehdaaGreatDoorArO
import Derived.Test.YtlecpjfggoehdaaGreatDoorArP
import Derived.IntWalk
import Derived.Deep.DeepCutAuto
set_option linter.unusedVariables false
set_option linter.unusedSimpArgs false
set_option maxRecDepth 100000
namespace Go.Proofs.YtlecpjfggoehdaaGreatDoor.Ar
open Go.RowKit Go.Sort Go.Lib Go.Proofs.YtlecpjfggoehdaaGreatDoor.Rs

/-- the kind of the member of a path, among the first n -/
def kAt (l : List Mb) (n : Nat) (path : List UInt8) : Option Int := ((l.take n).find? (fun m => m.path == path)).map (·.kind)
theorem atI_cases (l : List Mb) (n : Nat) (path : List UInt8) (hn : n ≤ l.length) : (atI l n path = -1 ∧ kAt l n path = none) ∨ ∃ k m, k < n ∧ l[k]? = some m ∧ atI l n path = (k : Int) ∧ kAt l n path = some m.kind := by
  cases h : (l.take n).findIdx? (fun m => m.path == path) with
  | none =>
    left
    refine ⟨by rw [atI, h], ?_⟩
    rw [kAt, List.find?_eq_none.2]
    · rfl
    · intro x hx
      rw [List.findIdx?_eq_none_iff.1 h x hx]
      simp
  | some k =>
    right
    obtain ⟨h1, h2, h3⟩ := List.findIdx?_eq_some_iff_getElem.1 h
    rw [List.length_take] at h1
    refine ⟨k, l[k]'(by omega), by omega, List.getElem?_eq_getElem (by omega), by rw [atI, h], ?_⟩
    rw [kAt]
    have : (l.take n).find? (fun m => m.path == path) = some (l[k]'(by omega)) := by
      rw [List.find?_eq_some_iff_getElem]
      refine ⟨by rw [List.getElem_take] at h2; exact h2, k, by rw [List.length_take]; omega, by rw [List.getElem_take], fun j hj => by simpa using h3 j hj⟩
    rw [this]
    rfl
/-- what a member's kind asks -/
def kindOk (l : List Mb) (i : Nat) (m : Mb) : Bool :=
  if m.kind = 2 then m.link.isEmpty && decide (m.size = 0) && m.pieces.isEmpty
  else if m.kind = 1 then m.link.isEmpty && piecesB m.size m.pieces
  else if m.kind = 3 then decide (kAt l i m.link = some 1) && decide (m.size = 0) && m.pieces.isEmpty
  else false
def orderOk (l : List Mb) (i : Nat) (ns : List (List UInt8)) : Bool := decide (i = 0) || aheadB ((namesB ((l[i - 1]?.map (·.path)).getD [])).getD []) ns
def upOk (l : List Mb) (i : Nat) (p : List UInt8) : Bool := (parentB p).isEmpty || decide (kAt l i (parentB p) = some 2)
def fitsB (l : List Mb) (i : Nat) (m : Mb) : Bool := match namesB m.path with
  | none => false
  | some ns => orderOk l i ns && upOk l i m.path && kindOk l i m
structure LsSm (l : List Mb) : Prop where
  len : l.length ≤ 1048576
  mb : ∀ m ∈ l, MbSm m

set_option maxHeartbeats 8000000 in
theorem call_fits (l : List Mb) (v : Value) (i : Nat) (m : Mb) (w : World) (hs : Sl RMb 5 w v l) (hi : l[i]? = some m) (hl : LsSm l) :
    Calls Tryz.prog 69 #[v, .int .i64 i] w fun e w' => e = .returned (.bool (fitsB l i m)) ∧ Below w.heap.size w w' := by
  have HSl := Lib.hid hs
  obtain ⟨al, bl, ol, cl, rfl, ha, hc⟩ := hs
  obtain ⟨mp, hmp⟩ : ∃ n, l.length = n := ⟨_, rfl⟩
  have hlen := hl.len
  rw [hmp] at ha HSl hlen ⊢
  have hilt : i < mp := by rw [← hmp]; exact (List.getElem?_eq_some_iff.1 hi).1
  have ha' := ha (by omega)
  subst ha'
  have HM := Lib.hid hmp
  have HC := Lib.hid hc
  have HL := Lib.hid hl
  have HI := Lib.hid hi
  have hms := hl.mb m (List.mem_of_getElem? hi)
  have HMs := Lib.hid hms
  obtain ⟨vp, c0, c1, c2, c3, c4, hv⟩ := hc i m hi
  obtain ⟨ap, pp, cp, rfl⟩ : ∃ a m' c, vp = .slice a m' c := by obtain ⟨a, b, o, c, h, _⟩ := hv.pieces; exact ⟨_, _, _, h⟩
  have hpp : m.pieces.length = pp := by obtain ⟨a, b, o, c, h, _⟩ := hv.pieces; cases h; rfl
  have HPp := Lib.hid hpp
  have hpl := hms.pieces
  rw [hpp] at hpl
  have HV := Lib.hid hv
  have B1 := mbS (N := 1) (Box.new w 58 (mbCells m (.slice ap pp cp))) (by show _ ≤ (w.alloc _).heap.size; rw [alloc_size]; omega)
  have B0 := Lib.hid B1
  have hi2 : (i : Int) < mp := by omega
  clear hmp hc hl hi hms hv ha hpp
  simp only [mbCells] at B1
  cases hnm : namesB m.path with
  | none =>
    have HF : Hid (fitsB l i m = false) := Lib.hid (by rw [fitsB, hnm])
    have HNm := Lib.hid hnm
    clear hnm
    go_enter Tryz.func69, Tryz.ntmps69
    go_wp2_with (go_at_call 81; refine (call_rnames m.path HMs.out.path _).mono ?_; rintro e w1 ⟨⟨v1, rfl, hn1⟩, hb1⟩; rw [HNm.out] at hn1 ⊢; obtain rfl := hn1; have HB1 := Lib.hid (B1.box.2.trans (hb1.mono B1.box.2.size)))
    go_ret
    exact ⟨by rw [HF.out]; rfl, HB1.out⟩
  | some ns =>
    have HF : Hid (fitsB l i m = (orderOk l i ns && upOk l i m.path && kindOk l i m)) := Lib.hid (by rw [fitsB, hnm])
    have HNm := Lib.hid hnm
    clear hnm
    go_enter Tryz.func69, Tryz.ntmps69
    go_upto_if 26 with (go_at_call 81; refine (call_rnames m.path HMs.out.path _).mono ?_; rintro e w1 ⟨⟨v1, rfl, hn1⟩, hb1⟩; rw [HNm.out] at hn1 ⊢; have HN1 := Lib.hid hn1; have HB1 := Lib.hid (MbS.step B0.out (by omega) (hb1.mono B0.out.size)); clear hn1 hb1)
    clear B1 B0 c0 c1 c2 c3 c4
    go_cut [8, 9] (fun v8 v9 wc => orderOk l i ns = true ∧ MbS w m (.slice ap pp cp) 1 wc)
    case first =>
      by_cases h0 : i = 0
      · have d0 : decide (0 < i) = false := by rw [h0]; rfl
        have ho : orderOk l i ns = true := by rw [orderOk, h0]; rfl
        rw [d0]
        clear h0 d0
        go_wp2
        go_meet
        case rel => exact ⟨ho, HB1.out⟩
      · have d0 : decide (0 < i) = true := by rw [decide_eq_true_iff]; omega
        rw [d0]
        obtain ⟨pm, hpm⟩ : ∃ x, l[i - 1]? = some x := ⟨_, List.getElem?_eq_getElem (by have := HM.out; omega)⟩
        obtain ⟨vq, q0, q1, q2, q3, q4, _⟩ := RMb.stays _ _ (keeps_below HB1.out.box.2) _ _ _ (HC.out (i - 1) pm hpm)
        have HPm := Lib.hid (HL.out.mb pm (List.mem_of_getElem? hpm))
        have ho : orderOk l i ns = aheadB ((namesB pm.path).getD []) ns := by
          rw [orderOk, hpm]
          simp [h0]
        have HOo := Lib.hid ho
        have s1 : IntKind.i64.wrap ((i : Int) - 1) = (i : Int) - 1 := IntWalk.i64_in _ (by omega)
        have s2 : (0 : Int) ≤ (i : Int) - 1 := by omega
        have s3 : (i : Int) - 1 < mp := by omega
        have s4 : ((i : Int) - 1).toNat = i - 1 := by omega
        have hnl1 : ((namesB pm.path).getD []).length ≤ 1048577 := by
          cases h : namesB pm.path with
          | none => simp
          | some x =>
            rw [namesB] at h
            split at h
            · cases h
            · split at h
              · cases h
                have := split47_length pm.path
                have := HPm.out.path
                simp only [Option.getD_some]; omega
              · cases h
        have hnl2 : ns.length ≤ 1048577 := by
          have h := HNm.out
          rw [namesB] at h
          split at h
          · cases h
          · split at h
            · cases h
              have := split47_length m.path
              have := HMs.out.path
              omega
            · cases h
        have HL1 := Lib.hid hnl1
        have HL2 := Lib.hid hnl2
        clear ho hpm q0 q2 q3 q4 d0 hnl1 hnl2
        cases ha : aheadB ((namesB pm.path).getD []) ns with
        | true =>
          have HA := Lib.hid ha
          clear ha
          go_wp2_with (first
            | (go_at_call 81; refine (call_rnames pm.path HPm.out.path _).mono ?_; rintro e w2 ⟨⟨v2, rfl, hn2⟩, hb2⟩; have HN2 := Lib.hid hn2; have HN1b := Lib.hid (HN1.out.keep (keeps_below hb2)); have HB2 := Lib.hid (MbS.step HB1.out (by omega) (hb2.mono HB1.out.size)); clear hn2 hb2)
            | (go_at_call 82; refine (call_rAhead _ _ _ _ _ HN2.out.sl HN1b.out.sl HL1.out HL2.out).mono ?_; rintro e w3 ⟨rfl, hb3⟩; rw [Option.getD_some, HA.out]; have HB3 := Lib.hid (MbS.step HB2.out (by omega) (hb3.mono HB2.out.size)); clear hb3))
          go_meet
          case rel => exact ⟨by rw [HOo.out]; exact HA.out, HB3.out⟩
        | false =>
          have HA := Lib.hid ha
          have HFx : Hid (fitsB l i m = false) := Lib.hid (by rw [HF.out, HOo.out, HA.out]; rfl)
          clear ha
          go_wp2_with (first
            | (go_at_call 81; refine (call_rnames pm.path HPm.out.path _).mono ?_; rintro e w2 ⟨⟨v2, rfl, hn2⟩, hb2⟩; have HN2 := Lib.hid hn2; have HN1b := Lib.hid (HN1.out.keep (keeps_below hb2)); have HB2 := Lib.hid (MbS.step HB1.out (by omega) (hb2.mono HB1.out.size)); clear hn2 hb2)
            | (go_at_call 82; refine (call_rAhead _ _ _ _ _ HN2.out.sl HN1b.out.sl HL1.out HL2.out).mono ?_; rintro e w3 ⟨rfl, hb3⟩; rw [Option.getD_some, HA.out]; have HB3 := Lib.hid (MbS.step HB2.out (by omega) (hb3.mono HB2.out.size)); clear hb3))
          go_ret
          exact ⟨by rw [HFx.out]; rfl, HB3.out.box.2⟩
    case rest =>
      obtain ⟨ho, hS⟩ := hcut
      have HS := Lib.hid hS
      have HOo := Lib.hid ho
      have HF2 : Hid (fitsB l i m = (upOk l i m.path && kindOk l i m)) := Lib.hid (by rw [HF.out, ho]; rfl)
      obtain ⟨up, hup⟩ : ∃ x, parentB m.path = x := ⟨_, rfl⟩
      have HUp := Lib.hid hup
      have hupl : up.length ≤ 1048576 := by
        rw [← hup]
        have h : ∀ (p : List UInt8) (k : Nat), (parentAt p k).length ≤ p.length := fun p k => by
          induction k with
          | zero => simp [parentAt]
          | succ k ih =>
            rw [parentAt]
            split
            · rw [List.length_take]; omega
            · exact ih
        exact Nat.le_trans (h m.path _) HMs.out.path
      clear ho HB1 HN1 hup
      go_step; go_step
      go_upto_if 45 with (go_at_call 83; refine (call_parent m.path HMs.out.path _).mono ?_; rintro e w2 ⟨rfl, rfl⟩; rw [HUp.out])
      rw [bs_toList]
      clear hS
      go_cut [11] (fun v11 wc => upOk l i m.path = true ∧ MbS w m (.slice ap pp cp) 1 wc)
      case first =>
        cases hue : up.isEmpty with
        | true =>
          have huo : upOk l i m.path = true := by rw [upOk, HUp.out, hue]; rfl
          clear hue
          go_wp2
          go_meet
          case rel => exact ⟨huo, HS.out⟩
        | false =>
          have huo : upOk l i m.path = decide (kAt l i up = some 2) := by rw [upOk, HUp.out, hue]; rfl
          have HUo := Lib.hid huo
          have HSw := Lib.hid (HSl.out.keep RMb.stays (keeps_below HS.out.box.2))
          clear hue huo
          rcases atI_cases l i up (by have := HM.out; omega) with ⟨ha, hk⟩ | ⟨k, mk, hki, hmk, ha, hk⟩
          · have HFx : Hid (fitsB l i m = false) := Lib.hid (by rw [HF2.out, HUo.out, hk]; rfl)
            have HA := Lib.hid ha
            clear ha hk
            go_wp2_with (go_at_call 84; refine (call_at l _ i up _ HSw.out (by have := HM.out; omega) HL.out.len).mono ?_; rintro e w3 ⟨rfl, rfl⟩; rw [HA.out])
            go_ret
            exact ⟨by rw [HFx.out]; rfl, HS.out.box.2⟩
          · obtain ⟨vq, q0, q1, q2, q3, q4, _⟩ := RMb.stays _ _ (keeps_below HS.out.box.2) _ _ _ (HC.out k mk hmk)
            have HA := Lib.hid ha
            have k1 : (k : Int) < mp := by omega
            have k2 : (0 : Int) ≤ k := by omega
            have k3 : ¬ (k : Int) < 0 := by omega
            by_cases hk2 : mk.kind = 2
            · have b2 : (mk.kind != 2) = false := by rw [hk2]; rfl
              have huo2 : upOk l i m.path = true := by rw [HUo.out, hk, hk2]; rfl
              clear ha hk hmk q1 q2 q3 q4
              go_wp2_with (go_at_call 84; refine (call_at l _ i up _ HSw.out (by have := HM.out; omega) HL.out.len).mono ?_; rintro e w3 ⟨rfl, rfl⟩; rw [HA.out])
              go_meet
              case rel => exact ⟨huo2, HS.out⟩
            · have b2 : (mk.kind != 2) = true := bne_iff_ne.2 hk2
              have HFx : Hid (fitsB l i m = false) := Lib.hid (by rw [HF2.out, HUo.out, hk]; simp [hk2])
              clear ha hk hmk q1 q2 q3 q4
              go_wp2_with (go_at_call 84; refine (call_at l _ i up _ HSw.out (by have := HM.out; omega) HL.out.len).mono ?_; rintro e w3 ⟨rfl, rfl⟩; rw [HA.out])
              go_ret
              exact ⟨by rw [HFx.out]; rfl, HS.out.box.2⟩
      case rest =>
        obtain ⟨huo, hS⟩ := hcut
        have HF3 : Hid (fitsB l i m = kindOk l i m) := Lib.hid (by rw [HF2.out, huo]; rfl)
        clear HS huo
        have HS := Lib.hid hS
        have HSw := Lib.hid (HSl.out.keep RMb.stays (keeps_below HS.out.box.2))
        have el := bs_toList m.link
        have HPm : Hid (m.pieces.isEmpty = decide (pp = 0)) := Lib.hid (by rw [← HPp.out]; cases m.pieces <;> simp)
        go_step; go_step
        by_cases k2 : m.kind = 2
        · cases hle : m.link.isEmpty with
          | false =>
            have HFx : Hid (fitsB l i m = false) := Lib.hid (by rw [HF3.out]; simp [kindOk, k2, hle])
            go_wp2
            go_ret
            exact ⟨by rw [HFx.out]; rfl, HS.out.box.2⟩
          | true =>
            by_cases hz : m.size = 0
            · have bz : (m.size == 0) = true := beq_iff_eq.2 hz
              by_cases hp0 : pp = 0
              · have bp : ((pp : Int) == 0) = true := by rw [hp0]; rfl
                have HFx : Hid (fitsB l i m = true) := Lib.hid (by rw [HF3.out]; simp [kindOk, k2, hle, hz, HPm.out, hp0])
                go_wp2
                go_ret
                exact ⟨by rw [HFx.out]; rfl, HS.out.box.2⟩
              · have bp : ((pp : Int) == 0) = false := by rw [beq_eq_false_iff_ne]; omega
                have HFx : Hid (fitsB l i m = false) := Lib.hid (by rw [HF3.out]; simp [kindOk, k2, hle, hz, HPm.out, hp0])
                go_wp2
                go_ret
                exact ⟨by rw [HFx.out]; rfl, HS.out.box.2⟩
            · have bz : (m.size == 0) = false := beq_eq_false_iff_ne.2 hz
              have HFx : Hid (fitsB l i m = false) := Lib.hid (by rw [HF3.out]; simp [kindOk, k2, hle, hz])
              go_wp2
              go_ret
              exact ⟨by rw [HFx.out]; rfl, HS.out.box.2⟩
        · by_cases k1 : m.kind = 1
          · cases hle : m.link.isEmpty with
            | false =>
              have HFx : Hid (fitsB l i m = false) := Lib.hid (by rw [HF3.out]; simp [kindOk, k1, hle])
              go_wp2
              go_ret
              exact ⟨by rw [HFx.out]; rfl, HS.out.box.2⟩
            | true =>
              have HFx : Hid (fitsB l i m = piecesB m.size m.pieces) := Lib.hid (by rw [HF3.out]; simp [kindOk, k1, hle])
              go_wp2_with (go_at_call 85; refine (call_rpieces m.size _ m.pieces _ (HV.out.pieces.keep RPc.stays (keeps_below HS.out.box.2)) HMs.out.pieces HMs.out.data HV.out.size.1 HV.out.size.2).mono ?_; rintro e w3 ⟨rfl, hb3⟩)
              go_ret
              exact ⟨by rw [HFx.out]; rfl, below_then HS.out.box.2 HS.out.box.2.size hb3⟩
          · by_cases k3 : m.kind = 3
            · rcases atI_cases l i m.link (by have := HM.out; omega) with ⟨ha, hk⟩ | ⟨k, mk, hki, hmk, ha, hk⟩
              · have HFx : Hid (fitsB l i m = false) := Lib.hid (by rw [HF3.out]; simp [kindOk, k3, hk])
                have HA := Lib.hid ha
                clear ha hk
                go_wp2_with (go_at_call 84; refine (call_at l _ i m.link _ HSw.out (by have := HM.out; omega) HL.out.len).mono ?_; rintro e w3 ⟨rfl, rfl⟩; rw [HA.out])
                go_ret
                exact ⟨by rw [HFx.out]; rfl, HS.out.box.2⟩
              · obtain ⟨vq, q0, q1, q2, q3, q4, _⟩ := RMb.stays _ _ (keeps_below HS.out.box.2) _ _ _ (HC.out k mk hmk)
                have HA := Lib.hid ha
                have g1 : (k : Int) < mp := by omega
                have g2 : (0 : Int) ≤ k := by omega
                have HFk : Hid (fitsB l i m = (decide (mk.kind = 1) && decide (m.size = 0) && m.pieces.isEmpty)) := Lib.hid (by rw [HF3.out]; simp [kindOk, k3, hk])
                clear q1 q2 q3 q4 ha hk hmk
                by_cases hk1 : mk.kind = 1
                · have b1 : (mk.kind == 1) = true := beq_iff_eq.2 hk1
                  by_cases hz : m.size = 0
                  · have bz : (m.size == 0) = true := beq_iff_eq.2 hz
                    by_cases hp0 : pp = 0
                    · have bp : ((pp : Int) == 0) = true := by rw [hp0]; rfl
                      have HFx : Hid (fitsB l i m = true) := Lib.hid (by rw [HFk.out]; simp [hk1, hz, HPm.out, hp0])
                      go_wp2_with (go_at_call 84; refine (call_at l _ i m.link _ HSw.out (by have := HM.out; omega) HL.out.len).mono ?_; rintro e w3 ⟨rfl, rfl⟩; rw [HA.out])
                      go_ret
                      exact ⟨by rw [HFx.out]; rfl, HS.out.box.2⟩
                    · have bp : ((pp : Int) == 0) = false := by rw [beq_eq_false_iff_ne]; omega
                      have HFx : Hid (fitsB l i m = false) := Lib.hid (by rw [HFk.out]; simp [hk1, hz, HPm.out, hp0])
                      go_wp2_with (go_at_call 84; refine (call_at l _ i m.link _ HSw.out (by have := HM.out; omega) HL.out.len).mono ?_; rintro e w3 ⟨rfl, rfl⟩; rw [HA.out])
                      go_ret
                      exact ⟨by rw [HFx.out]; rfl, HS.out.box.2⟩
                  · have bz : (m.size == 0) = false := beq_eq_false_iff_ne.2 hz
                    have HFx : Hid (fitsB l i m = false) := Lib.hid (by rw [HFk.out]; simp [hz])
                    go_wp2_with (go_at_call 84; refine (call_at l _ i m.link _ HSw.out (by have := HM.out; omega) HL.out.len).mono ?_; rintro e w3 ⟨rfl, rfl⟩; rw [HA.out])
                    go_ret
                    exact ⟨by rw [HFx.out]; rfl, HS.out.box.2⟩
                · have b1 : (mk.kind == 1) = false := beq_eq_false_iff_ne.2 hk1
                  have HFx : Hid (fitsB l i m = false) := Lib.hid (by rw [HFk.out]; simp [hk1])
                  go_wp2_with (go_at_call 84; refine (call_at l _ i m.link _ HSw.out (by have := HM.out; omega) HL.out.len).mono ?_; rintro e w3 ⟨rfl, rfl⟩; rw [HA.out])
                  go_ret
                  exact ⟨by rw [HFx.out]; rfl, HS.out.box.2⟩
            · have b2 : (m.kind == 2) = false := beq_eq_false_iff_ne.2 k2
              have b1 : (m.kind == 1) = false := beq_eq_false_iff_ne.2 k1
              have b3 : (m.kind == 3) = false := beq_eq_false_iff_ne.2 k3
              have HFx : Hid (fitsB l i m = false) := Lib.hid (by rw [HF3.out]; simp [kindOk, k1, k2, k3])
              go_wp2
              go_ret
              exact ⟨by rw [HFx.out]; rfl, HS.out.box.2⟩
end Go.Proofs.YtlecpjfggoehdaaGreatDoor.Ar
