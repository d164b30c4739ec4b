
/- Archive: a file's pieces, the program's. -/
import Derived.Test.YtlecpjfggoehdaaGreatDoorArL
set_option linter.unusedVariables false
set_option linter.unusedSimpArgs false
set_option maxRecDepth 100000
namespace Go.Proofs.YtlecpjfggoehdaaGreatDoor.Ar
open Go.RowKit Go.Sort Go.Lib Go.Proofs.YtlecpjfggoehdaaGreatDoor.Rs

set_option maxHeartbeats 2000000 in
theorem call_pieces (m : Mb) (vp : Value) (w : World) (hv : MbV w m vp) (hs : MbSm m) :
    Calls Tryz.prog 67 #[.agg (mbCells m vp).toArray] w fun e w' => e = .returned (.bool (piecesB m.size m.pieces)) ∧ Below w.heap.size w w' := by
  obtain ⟨ap, mp, cp, rfl⟩ : ∃ a m' c, vp = .slice a m' c := by obtain ⟨a, b, o, c, h, _⟩ := hv.pieces; exact ⟨_, _, _, h⟩
  have hmp : m.pieces.length = mp := by obtain ⟨a, b, o, c, h, _⟩ := hv.pieces; cases h; rfl
  have HM := Lib.hid hmp
  have HV := Lib.hid hv
  have HSm := Lib.hid hs
  have l3 := hs.pieces
  rw [hmp] at l3
  obtain ⟨i1l, i1h⟩ := hv.size
  have B1 := mbS (N := 1) (Box.new w 58 (mbCells m (.slice ap mp cp))) (by show _ ≤ (w.alloc _).heap.size; rw [alloc_size]; omega)
  have B0 := Lib.hid B1
  simp only [mbCells] at B1 ⊢
  clear hv hs hmp
  by_cases h0 : m.size < 0
  · have hv : piecesB m.size m.pieces = false := by simp [piecesB]; omega
    rw [hv]
    go_enter Tryz.func67, Tryz.ntmps67
    go_wp2
    go_ret
    exact ⟨rfl, B1.box.2⟩
  · by_cases h1 : 262144 < m.size
    · have hv : piecesB m.size m.pieces = false := by simp [piecesB]; omega
      rw [hv]
      go_enter Tryz.func67, Tryz.ntmps67
      go_wp2
      go_ret
      exact ⟨rfl, B1.box.2⟩
    · have hv : piecesB m.size m.pieces = piecesOk m.size 0 m.pieces := by simp [piecesB]; omega
      rw [hv]
      clear hv
      go_enter Tryz.func67, Tryz.ntmps67
      go_wp2
      clear B1
      go_loopw [3, 17] (fun q i wr => ∃ (k : Nat) (nx : Int), i = .int .i64 k ∧ q = .int .i64 nx ∧ 0 ≤ nx ∧ nx ≤ 1000000 ∧ k ≤ mp ∧ piecesOk m.size nx (m.pieces.drop k) = piecesOk m.size 0 m.pieces ∧ MbS w m (.slice ap mp cp) 1 wr)
        (fun _ i _ => mp - (RowKit.intOf i).toNat)
      case atStart => exact ⟨0, 0, rfl, rfl, by omega, by omega, Nat.zero_le _, rfl, by have h := B0.out; simp only [mbCells] at h; exact h⟩
      case round =>
        obtain ⟨k, nx, rfl, rfl, hx0, hx1, hk, hp, hS⟩ := hrel
        have HPO := Lib.hid hp
        have HS := Lib.hid hS
        clear hp B0
        by_cases hlt : k < mp
        · obtain ⟨pc, hpc⟩ : ∃ r, m.pieces[k]? = some r := ⟨_, List.getElem?_eq_getElem (by have := HM.out; omega)⟩
          obtain ⟨aa, bb, oo, cc, ee, ha, hc⟩ := HV.out.pieces.keep RPc.stays (keeps_below hS.box.2)
          rw [HM.out] at ee ha
          cases ee
          have ha' := ha (by omega)
          subst ha'
          obtain ⟨m0, m1, i0⟩ := hc k pc hpc
          have hdl := HSm.out.data pc (List.mem_of_getElem? hpc)
          have HDl := Lib.hid hdl
          obtain ⟨nd, hnd⟩ : ∃ n, pc.data.length = n := ⟨_, rfl⟩
          have zd : (bs pc.data).size = nd := (bs_size _).trans hnd
          rw [hnd] at hdl
          obtain ⟨of, hof⟩ : ∃ n, pc.off = n := ⟨_, rfl⟩
          rw [hof] at m0 i0
          obtain ⟨i0l, i0h⟩ := i0
          have HND := Lib.hid hnd
          have HOF := Lib.hid hof
          have hdr : m.pieces.drop k = pc :: m.pieces.drop (k + 1) := by
            obtain ⟨h1, h2⟩ := List.getElem?_eq_some_iff.1 hpc
            rw [List.drop_eq_getElem_cons h1, h2]
          have hOK : piecesOk m.size 0 m.pieces = (pcOk m.size nx pc && piecesOk m.size (of + 512) (m.pieces.drop (k + 1))) := by
            rw [← HPO.out, hdr, piecesOk_cons, hof]
          have HOK := Lib.hid hOK
          have R0 := Row.new wr 62 [.int .i64 of, .string (bs pc.data)]
          have f0 := R0.cell 0
          have f1 := R0.cell 1
          have hS2 := MbS.step hS (by omega) ((Below.refl _ _).alloc HS.out.size (.cells #[.int .i64 of, .string (bs pc.data)] 62))
          have HB2 := Lib.hid hS2.box.2
          have HS2 := Lib.hid hS2
          clear hpc hnd hof ha hc hdr hOK R0 hS
          by_cases c1 : of < nx
          · have hn : pcOk m.size nx pc = false := by simp [pcOk, HOF.out]; omega
            have HNo : Hid (piecesOk m.size 0 m.pieces = false) := Lib.hid (by rw [HOK.out, hn]; rfl)
            clear hn
            go_wp2
            go_ret
            exact ⟨by rw [HNo.out]; rfl, HB2.out⟩
          · by_cases c2 : m.size ≤ of
            · have hn : pcOk m.size nx pc = false := by simp [pcOk, HOF.out]; omega
              have HNo : Hid (piecesOk m.size 0 m.pieces = false) := Lib.hid (by rw [HOK.out, hn]; rfl)
              clear hn
              go_wp2
              go_ret
              exact ⟨by rw [HNo.out]; rfl, HB2.out⟩
            · have of0 : 0 ≤ of := by omega
              have of1 : of < 262144 := by omega
              by_cases c3 : of % 512 = 0
              · have b3 : (of % 512 == 0) = true := by rw [c3]; rfl
                by_cases c4 : (nd : Int) = min 512 (m.size - of)
                · have b4 : ((nd : Int) == min 512 (m.size - of)) = true := beq_iff_eq.2 c4
                  obtain ⟨t, ht⟩ : ∃ t, Lib.trimB pc.data 0 = t := ⟨_, rfl⟩
                  have HT := Lib.hid ht
                  cases hz : zerosB pc.data with
                  | true =>
                    have ht0 : t = [] := by rw [← ht]; exact (trimB_zeros _).2 hz
                    have et : (bs t).toList = [] := (bs_toList t).trans ht0
                    have hn : pcOk m.size nx pc = false := by simp [pcOk, hz]
                    have HNo : Hid (piecesOk m.size 0 m.pieces = false) := Lib.hid (by rw [HOK.out, hn]; rfl)
                    clear hn hz ht ht0
                    go_wp2_with (go_at_call 80; refine (call_trim0 pc.data HDl.out _).mono ?_; rintro e w1 ⟨rfl, hb1⟩; rw [HT.out])
                    go_ret
                    exact ⟨by rw [HNo.out]; rfl, below_then HB2.out HB2.out.size hb1⟩
                  | false =>
                    have ht0 : ¬ t = [] := by rw [← ht]; intro e; have := (trimB_zeros _).1 e; rw [hz] at this; cases this
                    have et : (bs t).toList = t := bs_toList t
                    have et2 : t.isEmpty = false := by simpa using ht0
                    have hn : pcOk m.size nx pc = true := by simp [pcOk, hz, HOF.out, HND.out, c3, ← c4]; omega
                    have HNo : Hid (piecesOk m.size 0 m.pieces = piecesOk m.size (of + 512) (m.pieces.drop (k + 1))) := Lib.hid (by rw [HOK.out, hn]; rfl)
                    clear hn hz ht
                    go_wp2_with (go_at_call 80; refine (call_trim0 pc.data HDl.out _).mono ?_; rintro e w1 ⟨rfl, hb1⟩; rw [HT.out]; have HS3 := Lib.hid (MbS.step HS2.out (by omega) (hb1.mono HS2.out.size)); have F0 := Lib.hid ((Row.new wr 62 [.int .i64 of, .string (bs pc.data)]).below hb1 (by rw [alloc_size]; omega)); have g0 := F0.out.cell 0; clear f0 f1 hS2)
                    go_roundw
                    case rel => exact ⟨k + 1, of + 512, by go_num, rfl, by omega, by omega, by omega, HNo.out.symm, HS3.out⟩
                    case measure => simp [RowKit.intOf]; omega
                · have b4 : ((nd : Int) == min 512 (m.size - of)) = false := by rw [beq_eq_false_iff_ne]; exact c4
                  have hn : pcOk m.size nx pc = false := by simp [pcOk, HOF.out, HND.out]; intro _ _ _ h; exact absurd h c4
                  have HNo : Hid (piecesOk m.size 0 m.pieces = false) := Lib.hid (by rw [HOK.out, hn]; rfl)
                  clear hn
                  go_wp2
                  go_ret
                  exact ⟨by rw [HNo.out]; rfl, HB2.out⟩
              · have b3 : (of % 512 == 0) = false := by rw [beq_eq_false_iff_ne]; exact c3
                have hn : pcOk m.size nx pc = false := by simp [pcOk, HOF.out]; omega
                have HNo : Hid (piecesOk m.size 0 m.pieces = false) := Lib.hid (by rw [HOK.out, hn]; rfl)
                clear hn
                go_wp2
                go_ret
                exact ⟨by rw [HNo.out]; rfl, HB2.out⟩
        · obtain rfl : k = mp := by omega
          have hv2 : piecesOk m.size 0 m.pieces = true := by
            rw [← HPO.out, List.drop_of_length_le (by have := HM.out; omega)]
            rfl
          have HV2 := Lib.hid hv2
          clear hv2
          go_wp2
          go_ret
          exact ⟨by rw [HV2.out]; rfl, HS.out.box.2⟩
end Go.Proofs.YtlecpjfggoehdaaGreatDoor.Ar
