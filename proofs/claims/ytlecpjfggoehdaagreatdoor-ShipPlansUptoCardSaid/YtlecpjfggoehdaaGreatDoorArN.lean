
/- Archive: a file's pieces, the reference's. -/
import Derived.Test.YtlecpjfggoehdaaGreatDoorArL
import Derived.IntWalk
set_option linter.unusedVariables false
set_option linter.unusedSimpArgs false
set_option maxRecDepth 100000
namespace Go.Proofs.YtlecpjfggoehdaaGreatDoor.Ar
open Go.RowKit Go.Sort Go.Lib Go.Proofs.YtlecpjfggoehdaaGreatDoor.Rs

/-- what is known of the piece ahead -/
def Prev (l : List Pc) (k : Nat) (nx : Int) : Prop := (k = 0 ∧ nx = 0) ∨ ∃ pr, 0 < k ∧ l[k - 1]? = some pr ∧ nx = pr.off + 512 ∧ pr.off % 512 = 0 ∧ 0 ≤ pr.off ∧ pr.off < 262144

theorem below_drewN {N : Nat} {w w' : World} (h : Below N w w') (n : Nat) : Below N w (w'.drewN n) := ⟨h.os, h.tape, h.output, h.size, h.block⟩
set_option maxHeartbeats 20000000 in
theorem call_rpieces (size : Int) (vp : Value) (l : List Pc) (w : World) (hsl : Sl RPc 2 w vp l) (hl : l.length ≤ 1048576) (hd : ∀ p ∈ l, p.data.length ≤ 1048576) (i1l : -9223372036854775808 ≤ size) (i1h : size ≤ 9223372036854775807) :
    Calls Tryz.prog 85 #[.int .i64 size, vp] w fun e w' => e = .returned (.bool (piecesB size l)) ∧ Below w.heap.size w w' := by
  obtain ⟨ap, bb, oo, cp, rfl, ha, hc⟩ := hsl
  obtain ⟨mp, hmp⟩ : ∃ n, l.length = n := ⟨_, rfl⟩
  rw [hmp] at ha hl ⊢
  have HM := Lib.hid hmp
  have HD := Lib.hid hd
  clear hmp hd
  by_cases h0 : size < 0
  · have hv : piecesB size l = false := by simp [piecesB]; omega
    rw [hv]
    go_enter Tryz.func85, Tryz.ntmps85
    go_wp2
    go_ret
    exact ⟨rfl, Below.refl _ _⟩
  · by_cases h1 : 262144 < size
    · have hv : piecesB size l = false := by simp [piecesB]; omega
      rw [hv]
      go_enter Tryz.func85, Tryz.ntmps85
      go_wp2
      go_ret
      exact ⟨rfl, Below.refl _ _⟩
    · have hv : piecesB size l = piecesOk size 0 l := by simp [piecesB]; omega
      rw [hv]
      clear hv
      go_enter Tryz.func85, Tryz.ntmps85
      go_wp2
      go_loopw [5] (fun i wr => ∃ (k : Nat) (nx : Int), i = .int .i64 k ∧ Prev l k nx ∧ k ≤ mp ∧ piecesOk size nx (l.drop k) = piecesOk size 0 l ∧ Below w.heap.size w wr)
        (fun i _ => mp - (RowKit.intOf i).toNat)
      case atStart => exact ⟨0, 0, rfl, .inl ⟨rfl, rfl⟩, Nat.zero_le _, rfl, Below.refl _ _⟩
      case round =>
        obtain ⟨k, nx, rfl, hpv, hk, hp, hb⟩ := hrel
        have HPO := Lib.hid hp
        have HB := Lib.hid hb
        have HPv := Lib.hid hpv
        clear hp hpv
        by_cases hlt : k < mp
        · obtain ⟨pc, hpc⟩ : ∃ r, l[k]? = some r := ⟨_, List.getElem?_eq_getElem (by have := HM.out; omega)⟩
          have ha' := ha (by omega)
          subst ha'
          obtain ⟨m0, m1, i0⟩ := RPc.stays _ _ (keeps_below hb) _ _ _ (hc k pc hpc)
          have hdl := HD.out pc (List.mem_of_getElem? hpc)
          have HDl := Lib.hid hdl
          obtain ⟨nd, hnd⟩ : ∃ n, pc.data.length = n := ⟨_, rfl⟩
          have zd : (bs pc.data).size = nd := (bs_size _).trans hnd
          rw [hnd] at hdl
          obtain ⟨of, hof⟩ : ∃ n, pc.off = n := ⟨_, rfl⟩
          rw [hof] at m0 i0
          obtain ⟨i0l, i0h⟩ := i0
          have HND := Lib.hid hnd
          have HOF := Lib.hid hof
          have HPc := Lib.hid hpc
          have hdr : l.drop k = pc :: l.drop (k + 1) := by
            obtain ⟨h1, h2⟩ := List.getElem?_eq_some_iff.1 hpc
            rw [List.drop_eq_getElem_cons h1, h2]
          have hOK : piecesOk size 0 l = (pcOk size nx pc && piecesOk size (of + 512) (l.drop (k + 1))) := by
            rw [← HPO.out, hdr, piecesOk_cons, hof]
          have HOK := Lib.hid hOK
          have R0 := Row.new wr 62 [.int .i64 of, .string (bs pc.data)]
          have f0 := R0.cell 0
          have f1 := R0.cell 1
          have HB2 := Lib.hid (hb.alloc hb.size (.cells #[.int .i64 of, .string (bs pc.data)] 62))
          have nx0 : 0 ≤ nx := by rcases HPv.out with ⟨_, h⟩ | ⟨_, _, _, h, _, h2, _⟩ <;> omega
          clear hpc hnd hof hdr hOK R0
          by_cases c1 : of < 0
          · have d1 : decide (of < 0) = true := decide_eq_true c1
            have hn : pcOk size nx pc = false := by simp [pcOk, HOF.out]; omega
            have HNo : Hid (piecesOk size 0 l = false) := Lib.hid (by rw [HOK.out, hn]; rfl)
            clear hn hc ha
            go_wp2_with fail
            go_quiet (fail)
            go_wp2
            go_ret
            exact ⟨by rw [HNo.out]; rfl, below_drewN HB2.out _⟩
          · have d1 : decide (of < 0) = false := decide_eq_false c1
            have tm : of.tmod 512 = of % 512 := Int.tmod_eq_emod_of_nonneg (by omega)
            by_cases c2 : of % 512 = 0
            · have b2 : (of.tmod 512 == 0) = true := by rw [tm, c2]; rfl
              clear tm
              by_cases c3 : size ≤ of
              · have d3 : decide (size ≤ of) = true := decide_eq_true c3
                have hn : pcOk size nx pc = false := by simp [pcOk, HOF.out]; omega
                have HNo : Hid (piecesOk size 0 l = false) := Lib.hid (by rw [HOK.out, hn]; rfl)
                clear hn hc ha
                go_wp2_with fail
                go_quiet (fail)
                go_wp2
                go_ret
                exact ⟨by rw [HNo.out]; rfl, below_drewN HB2.out _⟩
              · have d3 : decide (size ≤ of) = false := decide_eq_false c3
                rcases HPv.out with ⟨hk0, hnx⟩ | ⟨pr, hk0, hpr, hnx, hpr1, hpr2, hpr3⟩
                · have d4 : decide (0 < k) = false := decide_eq_false (by omega)
                  have hle : nx ≤ of := by omega
                  clear hk0
                  obtain ⟨mn, hmn⟩ : ∃ x, min 512 (size - of) = x := ⟨_, rfl⟩
                  have HMN := Lib.hid hmn
                  cases hz : zerosB pc.data with
                  | true =>
                    have HZ := Lib.hid hz
                    have hn : pcOk size nx pc = false := by simp [pcOk, hz]
                    have HNo : Hid (piecesOk size 0 l = false) := Lib.hid (by rw [HOK.out, hn]; rfl)
                    clear hn hc ha hz
                    by_cases c5 : (512 : Int) < size - of
                    · by_cases c6 : nd = 512
                      · have b6 : ((nd : Int) == 512) = true := by rw [c6]; rfl
                        go_wp2_with fail
                        go_quiet (fail)
                        go_wp2_with (go_at_call 101; refine (call_zeros pc.data HDl.out _).mono ?_; rintro e w1 ⟨rfl, rfl⟩; rw [HZ.out])
                        go_ret
                        exact ⟨by rw [HNo.out]; rfl, below_drewN HB2.out _⟩
                      · have b6 : ((nd : Int) == 512) = false := by rw [beq_eq_false_iff_ne]; omega
                        go_wp2_with fail
                        go_quiet (fail)
                        go_wp2
                        go_ret
                        exact ⟨by rw [HNo.out]; rfl, below_drewN HB2.out _⟩
                    · by_cases c6 : (nd : Int) = size - of
                      · have b6 : ((nd : Int) == size - of) = true := beq_iff_eq.2 c6
                        go_wp2_with fail
                        go_quiet (fail)
                        go_wp2_with (go_at_call 101; refine (call_zeros pc.data HDl.out _).mono ?_; rintro e w1 ⟨rfl, rfl⟩; rw [HZ.out])
                        go_ret
                        exact ⟨by rw [HNo.out]; rfl, below_drewN HB2.out _⟩
                      · have b6 : ((nd : Int) == size - of) = false := by rw [beq_eq_false_iff_ne]; exact c6
                        go_wp2_with fail
                        go_quiet (fail)
                        go_wp2
                        go_ret
                        exact ⟨by rw [HNo.out]; rfl, below_drewN HB2.out _⟩
                  | false =>
                    have HZ := Lib.hid hz
                    have hfin : (nd : Int) = mn → piecesOk size 0 l = piecesOk size (of + 512) (l.drop (k + 1)) := fun e => by
                      have hn : pcOk size nx pc = true := by simp [pcOk, hz, HOF.out, HND.out, c2, HMN.out, e]; omega
                      rw [HOK.out, hn]; rfl
                    have hno : ¬ (nd : Int) = mn → piecesOk size 0 l = false := fun e => by
                      have hn : pcOk size nx pc = false := by simp [pcOk, HOF.out, HND.out, HMN.out]; intro _ _ _ h; exact absurd h e
                      rw [HOK.out, hn]; rfl
                    have HFin := Lib.hid hfin
                    have HNO := Lib.hid hno
                    have HPrev : Hid (Prev l (k + 1) (of + 512)) := .inr ⟨pc, by omega, by rw [Nat.add_sub_cancel]; exact HPc.out, by rw [HOF.out], by rw [HOF.out]; exact c2, by rw [HOF.out]; omega, by rw [HOF.out]; omega⟩
                    clear hc ha hz hfin hno
                    by_cases c5 : (512 : Int) < size - of
                    · have HMn : Hid (mn = 512) := by show _ = _; rw [← hmn]; omega
                      clear hmn
                      by_cases c6 : nd = 512
                      · have b6 : ((nd : Int) == 512) = true := by rw [c6]; rfl
                        go_wp2_with fail
                        go_quiet (fail)
                        go_wp2_with (go_at_call 101; refine (call_zeros pc.data HDl.out _).mono ?_; rintro e w1 ⟨rfl, rfl⟩; rw [HZ.out])
                        go_roundw
                        case rel => exact ⟨k + 1, of + 512, by go_num, HPrev.out, by omega, (HFin.out (by rw [HMn.out, c6]; rfl)).symm, below_drewN HB2.out _⟩
                        case measure => simp [RowKit.intOf]; omega
                      · have b6 : ((nd : Int) == 512) = false := by rw [beq_eq_false_iff_ne]; omega
                        go_wp2_with fail
                        go_quiet (fail)
                        go_wp2
                        go_ret
                        exact ⟨by rw [HNO.out (by rw [HMn.out]; omega)]; rfl, below_drewN HB2.out _⟩
                    · have HMn : Hid (mn = size - of) := by show _ = _; rw [← hmn]; omega
                      clear hmn
                      by_cases c6 : (nd : Int) = size - of
                      · have b6 : ((nd : Int) == size - of) = true := beq_iff_eq.2 c6
                        go_wp2_with fail
                        go_quiet (fail)
                        go_wp2_with (go_at_call 101; refine (call_zeros pc.data HDl.out _).mono ?_; rintro e w1 ⟨rfl, rfl⟩; rw [HZ.out])
                        go_roundw
                        case rel => exact ⟨k + 1, of + 512, by go_num, HPrev.out, by omega, (HFin.out (by rw [HMn.out, c6])).symm, below_drewN HB2.out _⟩
                        case measure => simp [RowKit.intOf]; omega
                      · have b6 : ((nd : Int) == size - of) = false := by rw [beq_eq_false_iff_ne]; exact c6
                        go_wp2_with fail
                        go_quiet (fail)
                        go_wp2
                        go_ret
                        exact ⟨by rw [HNO.out (by rw [HMn.out]; exact c6)]; rfl, below_drewN HB2.out _⟩
                · have d4 : decide ((0 : Int) < k) = true := decide_eq_true (by omega)
                  obtain ⟨p0, p1, pi0, pi1⟩ := RPc.stays _ _ (keeps_below hb) _ _ _ (hc (k - 1) pr hpr)
                  obtain ⟨po, hpo⟩ : ∃ n, pr.off = n := ⟨_, rfl⟩
                  rw [hpo] at p0 hnx hpr1 hpr2 hpr3
                  replace p0 := keeps_alloc wr (.cells #[.int .i64 of, .string (bs pc.data)] 62) _ _ _ p0
                  have s1 : IntKind.i64.wrap ((k : Int) - 1) = (k : Int) - 1 := IntWalk.i64_in _ (by omega)
                  have s2 : (0 : Int) ≤ (k : Int) - 1 := by omega
                  have s3 : (k : Int) - 1 < mp := by omega
                  have s4 : ((k : Int) - 1).toNat = k - 1 := by omega
                  by_cases c4 : of ≤ po
                  · have d5 : decide (of ≤ po) = true := decide_eq_true c4
                    have hn : pcOk size nx pc = false := by simp [pcOk, HOF.out]; omega
                    have HNo : Hid (piecesOk size 0 l = false) := Lib.hid (by rw [HOK.out, hn]; rfl)
                    clear hn hc ha
                    go_wp2_with fail
                    go_quiet (fail)
                    go_wp2
                    go_ret
                    exact ⟨by rw [HNo.out]; rfl, below_drewN HB2.out _⟩
                  · have d5 : decide (of ≤ po) = false := decide_eq_false c4
                    have hle : nx ≤ of := by omega
                    obtain ⟨mn, hmn⟩ : ∃ x, min 512 (size - of) = x := ⟨_, rfl⟩
                    have HMN := Lib.hid hmn
                    cases hz : zerosB pc.data with
                    | true =>
                      have HZ := Lib.hid hz
                      have hn : pcOk size nx pc = false := by simp [pcOk, hz]
                      have HNo : Hid (piecesOk size 0 l = false) := Lib.hid (by rw [HOK.out, hn]; rfl)
                      clear hn hc ha hz
                      by_cases c5 : (512 : Int) < size - of
                      · by_cases c6 : nd = 512
                        · have b6 : ((nd : Int) == 512) = true := by rw [c6]; rfl
                          go_wp2_with fail
                          go_quiet (fail)
                          go_wp2_with (go_at_call 101; refine (call_zeros pc.data HDl.out _).mono ?_; rintro e w1 ⟨rfl, rfl⟩; rw [HZ.out])
                          go_ret
                          exact ⟨by rw [HNo.out]; rfl, below_drewN HB2.out _⟩
                        · have b6 : ((nd : Int) == 512) = false := by rw [beq_eq_false_iff_ne]; omega
                          go_wp2_with fail
                          go_quiet (fail)
                          go_wp2
                          go_ret
                          exact ⟨by rw [HNo.out]; rfl, below_drewN HB2.out _⟩
                      · by_cases c6 : (nd : Int) = size - of
                        · have b6 : ((nd : Int) == size - of) = true := beq_iff_eq.2 c6
                          go_wp2_with fail
                          go_quiet (fail)
                          go_wp2_with (go_at_call 101; refine (call_zeros pc.data HDl.out _).mono ?_; rintro e w1 ⟨rfl, rfl⟩; rw [HZ.out])
                          go_ret
                          exact ⟨by rw [HNo.out]; rfl, below_drewN HB2.out _⟩
                        · have b6 : ((nd : Int) == size - of) = false := by rw [beq_eq_false_iff_ne]; exact c6
                          go_wp2_with fail
                          go_quiet (fail)
                          go_wp2
                          go_ret
                          exact ⟨by rw [HNo.out]; rfl, below_drewN HB2.out _⟩
                    | false =>
                      have HZ := Lib.hid hz
                      have hfin : (nd : Int) = mn → piecesOk size 0 l = piecesOk size (of + 512) (l.drop (k + 1)) := fun e => by
                        have hn : pcOk size nx pc = true := by simp [pcOk, hz, HOF.out, HND.out, c2, HMN.out, e]; omega
                        rw [HOK.out, hn]; rfl
                      have hno : ¬ (nd : Int) = mn → piecesOk size 0 l = false := fun e => by
                        have hn : pcOk size nx pc = false := by simp [pcOk, HOF.out, HND.out, HMN.out]; intro _ _ _ h; exact absurd h e
                        rw [HOK.out, hn]; rfl
                      have HFin := Lib.hid hfin
                      have HNO := Lib.hid hno
                      have HPrev : Hid (Prev l (k + 1) (of + 512)) := .inr ⟨pc, by omega, by rw [Nat.add_sub_cancel]; exact HPc.out, by rw [HOF.out], by rw [HOF.out]; exact c2, by rw [HOF.out]; omega, by rw [HOF.out]; omega⟩
                      clear hc ha hz hfin hno
                      by_cases c5 : (512 : Int) < size - of
                      · have HMn : Hid (mn = 512) := by show _ = _; rw [← hmn]; omega
                        clear hmn
                        by_cases c6 : nd = 512
                        · have b6 : ((nd : Int) == 512) = true := by rw [c6]; rfl
                          go_wp2_with fail
                          go_quiet (fail)
                          go_wp2_with (go_at_call 101; refine (call_zeros pc.data HDl.out _).mono ?_; rintro e w1 ⟨rfl, rfl⟩; rw [HZ.out])
                          go_roundw
                          case rel => exact ⟨k + 1, of + 512, by go_num, HPrev.out, by omega, (HFin.out (by rw [HMn.out, c6]; rfl)).symm, below_drewN HB2.out _⟩
                          case measure => simp [RowKit.intOf]; omega
                        · have b6 : ((nd : Int) == 512) = false := by rw [beq_eq_false_iff_ne]; omega
                          go_wp2_with fail
                          go_quiet (fail)
                          go_wp2
                          go_ret
                          exact ⟨by rw [HNO.out (by rw [HMn.out]; omega)]; rfl, below_drewN HB2.out _⟩
                      · have HMn : Hid (mn = size - of) := by show _ = _; rw [← hmn]; omega
                        clear hmn
                        by_cases c6 : (nd : Int) = size - of
                        · have b6 : ((nd : Int) == size - of) = true := beq_iff_eq.2 c6
                          go_wp2_with fail
                          go_quiet (fail)
                          go_wp2_with (go_at_call 101; refine (call_zeros pc.data HDl.out _).mono ?_; rintro e w1 ⟨rfl, rfl⟩; rw [HZ.out])
                          go_roundw
                          case rel => exact ⟨k + 1, of + 512, by go_num, HPrev.out, by omega, (HFin.out (by rw [HMn.out, c6])).symm, below_drewN HB2.out _⟩
                          case measure => simp [RowKit.intOf]; omega
                        · have b6 : ((nd : Int) == size - of) = false := by rw [beq_eq_false_iff_ne]; exact c6
                          go_wp2_with fail
                          go_quiet (fail)
                          go_wp2
                          go_ret
                          exact ⟨by rw [HNO.out (by rw [HMn.out]; exact c6)]; rfl, below_drewN HB2.out _⟩
            · have b2 : (of % 512 != 0) = true := bne_iff_ne.2 c2
              clear tm
              have hn : pcOk size nx pc = false := by simp [pcOk, HOF.out]; omega
              have HNo : Hid (piecesOk size 0 l = false) := Lib.hid (by rw [HOK.out, hn]; rfl)
              clear hn hc ha
              go_wp2_with fail
              go_quiet (fail)
              go_wp2
              go_ret
              exact ⟨by rw [HNo.out]; rfl, below_drewN HB2.out _⟩
        · obtain rfl : k = mp := by omega
          have hv2 : piecesOk size 0 l = true := by
            rw [← HPO.out, List.drop_of_length_le (by have := HM.out; omega)]
            rfl
          have HV2 := Lib.hid hv2
          clear hv2 hc ha
          go_wp2
          go_ret
          exact ⟨by rw [HV2.out]; rfl, HB.out⟩
end Go.Proofs.YtlecpjfggoehdaaGreatDoor.Ar
