
/- Archive: a good list, the reference's. -/
import Derived.Test.YtlecpjfggoehdaaGreatDoorArQ
set_option linter.unusedVariables false
set_option linter.unusedSimpArgs false
set_option maxRecDepth 100000
namespace Go.Proofs.YtlecpjfggoehdaaGreatDoor.Ar
open Go.RowKit Go.Sort Go.Lib Go.Proofs.YtlecpjfggoehdaaGreatDoor.Rs

/-- a further name of the same file -/
def isLinkOf (m x : Mb) : Bool := decide (m.kind = 3) && (decide (x.kind = 3) && x.link == m.link)
def linkCount (l : List Mb) (m : Mb) (k : Nat) : Nat := ((l.take k).filter (isLinkOf m)).length
def stepOk (l : List Mb) (i : Nat) (m : Mb) : Bool := fitsB l i m && decide (linkCount l m (i + 1) < 100)
def goodB (l : List Mb) : Bool := decide (l.length ≤ 8192) && (List.range l.length).all fun i => (l[i]?.map (stepOk l i)).getD true
theorem goodB_false {l : List Mb} {i : Nat} {m : Mb} (hi : l[i]? = some m) (h : stepOk l i m = false) : goodB l = false := by
  have hlt := (List.getElem?_eq_some_iff.1 hi).1
  unfold goodB
  have : ((List.range l.length).all fun i => (l[i]?.map (stepOk l i)).getD true) = false := by
    rw [Bool.eq_false_iff]
    intro ha
    have := List.all_eq_true.1 ha i (by simp [hlt])
    rw [hi] at this
    simp [h] at this
  rw [this, Bool.and_false]
theorem goodB_true {l : List Mb} (hl : l.length ≤ 8192) (h : ∀ i m, i < l.length → l[i]? = some m → stepOk l i m = true) : goodB l = true := by
  unfold goodB
  rw [decide_eq_true hl, Bool.true_and, List.all_eq_true]
  intro i hi
  have hlt : i < l.length := by simpa using hi
  rw [List.getElem?_eq_getElem hlt]
  exact h i _ hlt (List.getElem?_eq_getElem hlt)
theorem linkCount_succ {l : List Mb} {m x : Mb} {k : Nat} (hx : l[k]? = some x) : linkCount l m (k + 1) = linkCount l m k + (if isLinkOf m x then 1 else 0) := by
  unfold linkCount
  rw [List.take_add_one, hx, List.filter_append, List.length_append]
  simp only [Option.toList_some, List.filter_cons, List.filter_nil]
  split <;> simp
theorem linkCount_le (l : List Mb) (m : Mb) (k : Nat) : linkCount l m k ≤ k := by
  unfold linkCount
  have := List.length_filter_le (isLinkOf m) (l.take k)
  rw [List.length_take] at this
  omega

theorem below_drewN' {N : Nat} {w w' : World} (h : Below N w w') (n : Nat) : Below N w (w'.drewN n) := ⟨h.os, h.tape, h.output, h.size, h.block⟩
set_option maxHeartbeats 8000000 in
theorem call_good (l : List Mb) (v : Value) (w : World) (hs : Sl RMb 5 w v l) (hl : LsSm l) :
    Calls Tryz.prog 47 #[v] w fun e w' => e = .returned (.bool (goodB l)) ∧ Below w.heap.size w w' := by
  have HSl := Lib.hid hs
  obtain ⟨al, bl, ol, cl, rfl, ha, hc⟩ := hs
  obtain ⟨mp, hmp⟩ : ∃ n, l.length = n := ⟨_, rfl⟩
  have hlen := hl.len
  rw [hmp] at ha HSl hlen ⊢
  have HM := Lib.hid hmp
  have HC := Lib.hid hc
  have HL := Lib.hid hl
  clear hc hl
  by_cases h0 : 8192 < mp
  · have hg : goodB l = false := by rw [goodB, decide_eq_false (by omega)]; rfl
    rw [hg]
    clear hg
    go_enter Tryz.func47, Tryz.ntmps47
    go_wp2
    go_ret
    exact ⟨rfl, Below.refl _ _⟩
  · have h02 : mp ≤ 8192 := by omega
    clear hmp
    go_enter Tryz.func47, Tryz.ntmps47
    go_wp2
    go_loopw [3] (fun i wr => ∃ (k : Nat), i = .int .i64 k ∧ k ≤ mp ∧ (∀ i m, i < k → l[i]? = some m → stepOk l i m = true) ∧ Below w.heap.size w wr)
      (fun i _ => mp - (RowKit.intOf i).toNat)
    case atStart => exact ⟨0, rfl, Nat.zero_le _, fun i m h => by omega, Below.refl _ _⟩
    case round =>
      obtain ⟨k, rfl, hk, hall, hb⟩ := hrel
      have HA := Lib.hid hall
      have HB := Lib.hid hb
      clear hall hb
      by_cases hlt : k < mp
      · obtain ⟨m, hm⟩ : ∃ r, l[k]? = some r := ⟨_, List.getElem?_eq_getElem (by have := HM.out; omega)⟩
        have ha' := ha (by omega)
        subst ha'
        have HMk := Lib.hid hm
        have HSw := Lib.hid (HSl.out.keep RMb.stays (keeps_below HB.out))
        clear hm ha
        cases hf : fitsB l k m with
        | false =>
          have hg : goodB l = false := goodB_false HMk.out (by rw [stepOk, hf]; rfl)
          have HG := Lib.hid hg
          have HF := Lib.hid hf
          clear hg hf
          go_wp2_with (go_at_call 69; refine (call_fits l _ k m _ HSw.out HMk.out HL.out).mono ?_; rintro e w1 ⟨rfl, hb1⟩; rw [HF.out])
          go_ret
          exact ⟨by rw [HG.out]; rfl, below_then HB.out HB.out.size hb1⟩
        | true =>
          have HF := Lib.hid hf
          clear hf
          go_wp2_with (go_at_call 69; refine (call_fits l _ k m _ HSw.out HMk.out HL.out).mono ?_; rintro e w1 ⟨rfl, hb1⟩; rw [HF.out]; have HB1 := Lib.hid (below_then HB.out HB.out.size hb1); clear hb1 HSw)
          go_loopw [4, 5] (fun c j wr => ∃ (q : Nat), j = .int .i64 q ∧ q ≤ k + 1 ∧ c = .int .i64 (linkCount l m q) ∧ Below w.heap.size w wr)
            (fun _ j _ => k + 1 - (RowKit.intOf j).toNat)
          case atStart => exact ⟨0, rfl, Nat.zero_le _, by simp [linkCount], HB1.out⟩
          case round =>
            obtain ⟨q, rfl, hq, rfl, hb⟩ := hrel
            clear HB1
            have HB1 := Lib.hid hb
            have hcle := linkCount_le l m q
            obtain ⟨cn, hcn⟩ : ∃ c, linkCount l m q = c := ⟨_, rfl⟩
            rw [hcn] at hcle ⊢
            have HCn := Lib.hid hcn
            clear hb hcn
            by_cases hq2 : q ≤ k
            · obtain ⟨x, hx⟩ : ∃ r, l[q]? = some r := ⟨_, List.getElem?_eq_getElem (by have := HM.out; omega)⟩
              obtain ⟨va, p0, p1, p2, p3, p4, _⟩ := RMb.stays _ _ (keeps_below HB1.out) _ _ _ (HC.out k m HMk.out)
              obtain ⟨vb, r0, r1, r2, r3, r4, _⟩ := RMb.stays _ _ (keeps_below HB1.out) _ _ _ (HC.out q x hx)
              have hsc : linkCount l m (q + 1) = cn + (if isLinkOf m x then 1 else 0) := by rw [linkCount_succ hx, HCn.out]
              have HSc := Lib.hid hsc
              have em := bs_toList m.link
              have ex := bs_toList x.link
              have g1 : (k : Int) < mp := by omega
              have g2 : (q : Int) < mp := by omega
              have g3 : (0 : Int) ≤ k := by omega
              have g4 : (0 : Int) ≤ q := by omega
              clear hx p1 p3 p4 r1 r3 r4 hsc
              by_cases c1 : m.kind = 3
              · have b1 : (m.kind == 3) = true := beq_iff_eq.2 c1
                by_cases c2 : x.kind = 3
                · have b2 : (x.kind == 3) = true := beq_iff_eq.2 c2
                  cases c3 : (x.link == m.link) with
                  | true =>
                    have HS2 : Hid (linkCount l m (q + 1) = cn + 1) := Lib.hid (by rw [HSc.out, isLinkOf, c3]; simp [c1, c2])
                    go_wp2_with fail
                    go_quiet (fail)
                    go_wp2
                    go_roundw
                    case rel => exact ⟨q + 1, by go_num, by omega, by rw [HS2.out]; go_num, below_drewN' HB1.out _⟩
                    case measure => simp [RowKit.intOf]; omega
                  | false =>
                    have HS2 : Hid (linkCount l m (q + 1) = cn) := Lib.hid (by rw [HSc.out, isLinkOf, c3]; simp)
                    go_wp2_with fail
                    go_quiet (fail)
                    go_wp2
                    go_roundw
                    case rel => exact ⟨q + 1, by go_num, by omega, by rw [HS2.out], below_drewN' HB1.out _⟩
                    case measure => simp [RowKit.intOf]; omega
                · have b2 : (x.kind == 3) = false := beq_eq_false_iff_ne.2 c2
                  have HS2 : Hid (linkCount l m (q + 1) = cn) := Lib.hid (by rw [HSc.out, isLinkOf]; simp [c2])
                  go_wp2_with fail
                  go_quiet (fail)
                  go_wp2
                  go_roundw
                  case rel => exact ⟨q + 1, by go_num, by omega, by rw [HS2.out], below_drewN' HB1.out _⟩
                  case measure => simp [RowKit.intOf]; omega
              · have b1 : (m.kind == 3) = false := beq_eq_false_iff_ne.2 c1
                have HS2 : Hid (linkCount l m (q + 1) = cn) := Lib.hid (by rw [HSc.out, isLinkOf]; simp [c1])
                go_wp2_with fail
                go_quiet (fail)
                go_wp2
                go_roundw
                case rel => exact ⟨q + 1, by go_num, by omega, by rw [HS2.out], below_drewN' HB1.out _⟩
                case measure => simp [RowKit.intOf]; omega
            · obtain rfl : q = k + 1 := by omega
              by_cases c9 : cn < 100
              · have hst : stepOk l k m = true := by rw [stepOk, HF.out, HCn.out]; simp [c9]
                have HSt := Lib.hid hst
                clear hst
                go_wp2
                go_roundw
                case rel =>
                  refine ⟨k + 1, by go_num, by omega, fun i y hi hy => ?_, HB1.out⟩
                  by_cases e : i = k
                  · subst e
                    rw [HMk.out] at hy
                    cases hy
                    exact HSt.out
                  · exact HA.out i y (by omega) hy
                case measure => simp [RowKit.intOf]; omega
              · have hg : goodB l = false := goodB_false HMk.out (by rw [stepOk, HCn.out, decide_eq_false c9, Bool.and_false])
                have HG := Lib.hid hg
                clear hg
                go_wp2
                go_ret
                exact ⟨by rw [HG.out]; rfl, HB1.out⟩
      · obtain rfl : k = mp := by omega
        have hg : goodB l = true := goodB_true (by have := HM.out; omega) (fun i m hi => HA.out i m (by have := HM.out; omega))
        have HG := Lib.hid hg
        clear hg ha
        go_wp2
        go_ret
        exact ⟨by rw [HG.out]; rfl, HB.out⟩
end Go.Proofs.YtlecpjfggoehdaaGreatDoor.Ar
