
/- Archive: Open. -/
import Derived.Test.YtlecpjfggoehdaaGreatDoorOpI
set_option linter.unusedVariables false
set_option linter.unusedSimpArgs false
set_option maxRecDepth 100000
namespace Go.Proofs.YtlecpjfggoehdaaGreatDoor.Ar
open Go.RowKit Go.Sort Go.Lib Go.Proofs.YtlecpjfggoehdaaGreatDoor.Rs

theorem lastAt_len2 (l : List Mb) (hl : ∀ m ∈ l, MbSm m) : ∀ (k : Nat) (ns : List (List UInt8)), lastAt l k = some ns → ns.length ≤ 1048577
  | 0, _, h => by cases h
  | k + 1, ns, h => by
    rw [lastAt] at h
    cases hm : l[k]? with
    | none => rw [hm] at h; cases h
    | some m =>
      rw [hm] at h
      have h2 : namesB m.path = some ns := h
      have h3 := names_some h2
      have h4 := split47_length m.path
      rw [h3.1] at h4
      have := (hl m (List.mem_of_getElem? hm)).path
      omega
attribute [local go_sem] Oper.semAt_some
set_option maxHeartbeats 8000000 in
theorem call_open (vb : Value) (b : List UInt8) (w : World) (hs : Sl RByte 1 w vb b) (hl : b.length ≤ 10000000000000) (hc : ∀ a n c, vb = .slice a n c → n ≤ c) (hp : Stp w) (hm : MaxL w)
    (hsm : ∀ i pre k m k', i < numN b 8 → parse b i = some (pre, k) → pMem b k = some (m, k') → MbSm m) :
    Calls Tryz.prog 15 #[vb] w (OpenPost w b) := by
  refine callsIn_wide (n := 9).1 ?_
  have hdep : ∀ m, Fence.wide.depth.isSome = true → 1 ≤ m := fun m h => by cases h
  have HS := Lib.hid hs
  obtain ⟨av, bv, ov, cv, rfl, hav, hcv⟩ := hs
  have HC := Lib.hid hc
  have HP := Lib.hid hp
  have HM := Lib.hid hm
  have HSm := Lib.hid hsm
  clear hav hcv hc hp hm hsm
  refine callsIn_of_wpAt_marks Tryz.func15 rfl ?_
  simp only [Tryz.ntmps15, List.size_toArray, List.length_cons, List.length_nil, Nat.reduceAdd, Nat.reduceSub, Array.replicate_succ, Array.replicate_zero, List.push_toArray, List.append_toArray, List.nil_append, List.cons_append]
  refine wpAt_seq (wpAt_of (n := 9) ?_)
  gi_wp2
  refine wpAt_seq (wpAt_of (n := 9) ?_)
  gi_wp2
  refine wpAt_seq (wpAt_of (n := 9) ?_)
  gi_wp2
  refine wpAt_seq (wpAt_of (n := 9) ?_)
  gi_wp2
  generalize hwa : World.alloc _ (.cells #[.pointer (some ⟨w.heap.size + 1 + 1, 0, none⟩)] 74) = wa
  obtain ⟨N, hN⟩ : ∃ N, w.heap.size = N := ⟨_, rfl⟩
  have hza : wa.heap.size = N + 4 := by rw [← hwa]; simp only [alloc_size]; omega
  have hba : Below N w wa := by rw [← hwa, ← hN]; exact (((below_alloc1 w _).trans ((below_alloc1 _ _).mono (by rw [alloc_size]; omega))).trans ((below_alloc1 _ _).mono (by rw [alloc_size, alloc_size]; omega))).trans ((below_alloc1 _ _).mono (by rw [alloc_size, alloc_size, alloc_size]; omega))
  have rA : Row wa N 33 [.slice none 0 0] := by rw [← hwa, ← hN]; exact (((Row.new w 33 _).alloc _).alloc _).alloc _
  have rB : Row wa (N + 1) 25 [.int .i64 0] := by rw [← hwa, ← hN]; exact ((row_new1 w _ 25 _).alloc _).alloc _
  have rR : Row wa (N + 1 + 1) 76 [.slice av b.length cv, .int .i64 0] := by
    rw [← hwa, ← hN]
    have h := Row.new ((w.alloc (.cells #[.slice none 0 0] 33)).alloc (.cells #[.int .i64 0] 25)) 76 [.slice av b.length cv, .int .i64 0]
    rw [alloc_size, alloc_size] at h
    exact h.alloc _
  have rV : Row wa (N + 1 + 1 + 1) 74 [.pointer (some ⟨N + 1 + 1, 0, none⟩)] := by
    rw [← hwa, ← hN]
    have h := Row.new (((w.alloc (.cells #[.slice none 0 0] 33)).alloc (.cells #[.int .i64 0] 25)).alloc (.cells #[.slice av b.length cv, .int .i64 0] 76)) 74 [.pointer (some ⟨w.heap.size + 1 + 1, 0, none⟩)]
    rw [alloc_size, alloc_size, alloc_size] at h
    exact h
  clear hwa
  rw [hN]
  refine ⟨trivial, (callsIn_wide.2 (call_newList _)).mono ?_⟩
  rintro e w1 ⟨LB, b1, b2, rfl, hl1, hb1⟩
  have hz1 : N + 4 ≤ w1.heap.size := by have := hb1.size; omega
  replace rA := rA.below hb1 rA.lt
  replace rB := rB.below hb1 rB.lt
  replace rR := rR.below hb1 rR.lt
  replace rV := rV.below hb1 rV.lt
  have hB1 : Below N w w1 := hba.trans (hb1.mono (by omega))
  have rL : Row (w1.alloc (.cells #[.pointer (some ⟨LB, 0, none⟩)] 50)) w1.heap.size 50 [.pointer (some ⟨LB, 0, none⟩)] := Row.new w1 50 _
  replace rA := Lib.hid (rA.alloc (.cells #[.pointer (some ⟨LB, 0, none⟩)] 50))
  replace rB := Lib.hid (rB.alloc (.cells #[.pointer (some ⟨LB, 0, none⟩)] 50))
  replace rR := Lib.hid (rR.alloc (.cells #[.pointer (some ⟨LB, 0, none⟩)] 50))
  replace rV := Lib.hid (rV.alloc (.cells #[.pointer (some ⟨LB, 0, none⟩)] 50))
  have hl2 := hl1.below (below_alloc1 w1 (.cells #[.pointer (some ⟨LB, 0, none⟩)] 50))
  have HL := Lib.hid hl2
  have HB1 := Lib.hid (below_after (by rw [hN]; exact hB1 : Below w.heap.size w w1) (below_alloc1 w1 (.cells #[.pointer (some ⟨LB, 0, none⟩)] 50)))
  have HRL := Lib.hid rL
  have hZ := Lib.hid hz1
  have HZa := Lib.hid hza
  have HNn := Lib.hid hN
  have v0 := (show _ = some (Value.pointer (some ⟨N + 1 + 1, 0, none⟩)) from rV.out.cell 0)
  clear rL hl2 hl1 hb1 hz1 hB1 hba hza hN
  gi_wp2
  refine wpAt_seq (wpAt_seq (wpAt_of (n := 9) ?_))
  gi_wp2
  clear v0
  refine ⟨trivial, (callsIn_wide.2 (call_allv _ _)).mono ?_⟩
  rintro e w2 ⟨rfl, rfl⟩
  gi_wp2
  have hr4 := HRL.out
  obtain ⟨Lx, hLx⟩ : ∃ n, w1.heap.size = n := ⟨_, rfl⟩
  rw [hLx] at hr4 ⊢
  obtain ⟨Wb, hWb⟩ : ∃ W, w1.alloc (.cells #[.pointer (some ⟨LB, 0, none⟩)] 50) = W := ⟨_, rfl⟩
  have hBx : Wb.heap.size = Lx + 1 := by rw [← hWb, alloc_size, hLx]
  rw [hWb] at rA rB rR rV HL HB1 hr4 ⊢
  have h0 : OpS w ⟨N, N + 1, N + 1 + 1 + 1, Wb.heap.size, Lx, N + 1 + 1, LB, b1, b2⟩ (.slice av b.length cv) b [] 0 (Wb.alloc (.cells #[.pointer (some ⟨N + 1 + 1, 0, none⟩)] 74)) :=
    ⟨below_after HB1.out (below_alloc1 _ _), ⟨_, [], rA.out.alloc _, World.ownsRow_nil _ _ _ _, rfl, by simp, List.Pairwise.nil⟩, rB.out.alloc _,
      ⟨rR.out.alloc _, HS.out.keep RByte.stays (keeps_below (below_after HB1.out (below_alloc1 _ _))), hl, HC.out, by omega⟩, Row.new Wb 74 _, rV.out.alloc _, hr4.alloc _,
      ⟨0, _, by simp, (HL.out.below (below_alloc1 _ _)).lo (by rw [HZa.out, HNn.out]; omega)⟩, by simp, by simp, by simp, by rw [HNn.out]; exact Nat.le_refl _, by rw [HNn.out]; exact Nat.le_succ _, by rw [HNn.out]; show N ≤ N + 1 + 1; omega⟩
  have H0 := Lib.hid h0
  clear h0 rA rB rR rV HL HB1 HRL hr4 hWb hLx hZ HZa
  rw [hBx] at H0
  clear hBx
  refine wpAt_block (wpIn_range_open (w0 := w) (x := ⟨N, N + 1, N + 1 + 1 + 1, Lx + 1, Lx, N + 1 + 1, LB, b1, b2⟩) (vb := .slice av b.length cv) (b := b) rfl rfl H0.out HP.out HSm.out
    (fun v M => { tmps := #[.slice av b.length cv, undef, .pointer (some ⟨N, 0, none⟩), .pointer (some ⟨N + 1, 0, none⟩), .pointer (some ⟨N + 1 + 1 + 1, 0, none⟩), .pointer (some ⟨Lx, 0, none⟩), .pointer (some ⟨M, 0, none⟩), .func (.func 32) #[] #[.pointer (some ⟨N, 0, none⟩), .pointer (some ⟨N + 1, 0, none⟩)], .slice av b.length cv, .agg #[.slice av b.length cv, .int .i64 0], .pointer (some ⟨N + 1 + 1, 0, none⟩), .pointer (some ⟨LB, 0, none⟩), .pointer (some ⟨N + 1 + 1, 0, none⟩), .func (.func 52) #[] #[.pointer (some ⟨Lx + 1, 0, none⟩)], v, undef, undef, undef, undef, undef, undef, undef, undef, undef, undef, undef, undef, undef, undef, undef, undef, undef, undef, undef, undef, undef, undef, undef, undef, undef], defers := [] }) ?assign ?body ?done ?bad)
  case assign =>
    rintro l m vp W K ⟨a, n, c, rfl⟩ hK
    simp only [mbCells] at hK ⊢
    gi_wp2
    exact hK
  case bad =>
    intro D W hq hbd hD hlo
    exact leave_bad hq hD hlo hbd rfl rfl
  case done =>
    intro D ms k W hS hok hpa hD hlo
    refine wpAt_of (n := 9) ?_
    have x1 := (show _ = some (Value.pointer (some ⟨N + 1 + 1, 0, none⟩)) from hS.vx.cell 0)
    have x2 := (show _ = some (Value.int .i64 k) from hS.rd.row.cell 1)
    obtain ⟨bl, hbl⟩ : ∃ n, b.length = n := ⟨_, rfl⟩
    have HBl := Lib.hid hbl
    have HS2 := Lib.hid hS
    have HD := Lib.hid hD
    have HPa := Lib.hid hpa
    rw [hbl]
    by_cases hk : k = bl
    · subst hk
      obtain ⟨v, L, hA, hMM⟩ := hS.mem
      have HYes : Hid (pOpen b = some ms) := Lib.hid (open_yes hok (by rw [HBl.out]; exact hpa) hS.len hS.adds)
      have y0 := (show _ = some v from hA.cell 0)
      have y1 := hA.free 0
      have y2 := (show _ = some (Value.int .i64 0) from hS.err.cell 0)
      have y3 := hS.err.free 0
      obtain ⟨ma, mn, mc, rfl⟩ := own_isSl hMM.own
      have HId1 := Lib.hid (setCell_id (j := 0) (v := .slice ma mn mc) hA rfl)
      have HId2 := Lib.hid (setCell_id (j := 0) (v := .int .i64 0) hS.err rfl)
      have y4 : (W.setCell ⟨N, 0, none⟩ (.slice ma mn mc)).cell? ⟨N + 1, 0, none⟩ = some (.int .i64 0) := by rw [HId1.out]; exact y2
      have y5 : (W.setCell ⟨N, 0, none⟩ (.slice ma mn mc)).frozen? ⟨N + 1, 0, none⟩ = false := by rw [HId1.out]; exact y3
      clear hS hA hMM hD hpa hbl
      gi_wp2
      rw [HId1.out, HId2.out]
      exact leave_good HS2.out HD.out hlo HYes.out rfl rfl
    · have HNo : Hid (pOpen b = none) := Lib.hid (open_end hpa (by rw [hbl]; exact hk))
      clear hS hD hpa hbl
      gi_wp2
      refine ⟨trivial, (callsIn_wide.2 (call_fail _ _)).mono ?_⟩
      rintro e w8 ⟨rfl, rfl⟩
      exact leave_bad HS2.out.q HD.out hlo HNo.out rfl rfl
  case body =>
    rintro l pre k m vp M W hS hP hpi hi1 hi2 hms hM hMlo hmf
    obtain ⟨v, L, hA, hMM, hdis⟩ := hmf
    have HDis := Lib.hid hdis
    clear hdis
    obtain ⟨n, vl, hn, hlst⟩ := hS.lst
    obtain ⟨pa, pn, pc, rfl⟩ := own_isSl hP
    obtain ⟨ma, mn, mc, rfl⟩ := own_isSl hMM.own
    have hmn : mn = pre.length := by rw [own_len hMM.own, ← hMM.fst, List.length_map]
    have hlen := hS.len
    have x0 := (show _ = some (Value.pointer (some ⟨LB, 0, none⟩)) from hS.lx.cell 0)
    have d0 := (show _ = some (Value.int .i64 m.kind) from hM.cell 0)
    have d1 := (show _ = some (Value.string (bs m.path)) from hM.cell 1)
    have d2 := (show _ = some (Value.string (bs m.link)) from hM.cell 2)
    have d3 := (show _ = some (Value.int .i64 m.size) from hM.cell 3)
    have d4 := (show _ = some (Value.slice pa pn pc) from hM.cell 4)
    have HVa : Hid (MbV W m (.slice pa pn pc)) := Lib.hid ⟨hP.sl hpi, hi1, hi2⟩
    have HMs := Lib.hid hms
    have HMx := Lib.hid (HM.out.below hS.below)
    have HLa := Lib.hid hlst
    have HN1 : Hid (n < 100000) := Lib.hid (by omega)
    have HFl : Hid (∀ q, 0 ≤ flAt pre pre.length q ∧ flAt pre pre.length q ≤ 1000000) := Lib.hid (fun q => by have := flAt_le pre q pre.length; omega)
    have HLs := Lib.hid (lastAt_len2 pre hS.sm pre.length)
    have HSt := Lib.hid hS
    have HA := Lib.hid hA
    have HMM := Lib.hid hMM
    have HPp := Lib.hid hP
    have HMr := Lib.hid hM
    have Hn := Lib.hid hn
    have HMn := Lib.hid hmn
    have hlen : mn ≤ 8192 := by omega
    obtain ⟨i0, hi0, hz0, hs0, hb0⟩ := info_parts info51
    clear hS hP hpi hi1 hi2 hms hM hA hMM hn hlst hmn
    obtain ⟨ok, hok⟩ : ∃ x, addOk (lastAt pre pre.length) (fkAt pre pre.length) (flAt pre pre.length) m = x := ⟨_, rfl⟩
    have HOk := Lib.hid hok
    gi_wp2
    clear d0 d1 d2 d3 d4 x0
    refine ⟨trivial, (CallsIn.inRound l (callsIn_wide.2 (call_add m (.slice pa pn pc) _ HVa.out HMs.out HMx.out HLa.out HN1.out HFl.out HLs.out))).mono ?_⟩
    rintro e w7 ⟨rfl, ht7, hl7⟩
    rw [hok]
    rw [hok] at hl7
    cases ok with
    | false =>
      have HQ := Lib.hid (HSt.out.touchQ HLa.out ht7)
      have HK := Lib.hid (KeepsRec.touch ht7 HLa.out)
      have HV := Lib.hid (ht7.row HLa.out HSt.out.vx (by decide))
      have x1 := (show _ = some (Value.pointer (some ⟨N + 1 + 1, 0, none⟩)) from HV.out.cell 0)
      clear hl7 ht7 hok
      gi_wp2
      refine ⟨trivial, (CallsIn.inRound l (callsIn_wide.2 (call_fail _ _))).mono ?_⟩
      rintro e w8 ⟨rfl, rfl⟩
      exact ⟨rfl, rfl, HK.out, .inl HOk.out, HQ.out⟩
    | true =>
      obtain ⟨vl7, n7, hn7, hls7, hfr7⟩ := hl7 rfl
      have HT := Lib.hid ht7
      have HL7 := Lib.hid hls7
      have HF7 := Lib.hid hfr7
      have HN7 := Lib.hid hn7
      have HK := Lib.hid (KeepsRec.touch ht7 HLa.out)
      have HA7 := Lib.hid (ht7.row HLa.out HA.out (by decide))
      have HM7 := Lib.hid (ht7.row HLa.out HMr.out (by decide))
      have y0 := (show _ = some (Value.slice ma mn mc) from HA7.out.cell 0)
      by_cases h82 : mn = 8192
      · subst h82
        have HQ := Lib.hid (HSt.out.touchQ HLa.out ht7)
        have HV := Lib.hid (ht7.row HLa.out HSt.out.vx (by decide))
        have x1 := (show _ = some (Value.pointer (some ⟨N + 1 + 1, 0, none⟩)) from HV.out.cell 0)
        have HBd : Hid (BdB pre m) := Lib.hid (.inr HMn.out.symm)
        clear hl7 ht7 hok hls7 hfr7 hn7
        gi_wp2
        refine ⟨trivial, (CallsIn.inRound l (callsIn_wide.2 (call_fail _ _))).mono ?_⟩
        rintro e w8 ⟨rfl, rfl⟩
        exact ⟨rfl, rfl, HK.out, HBd.out, HQ.out⟩
      · have d0 := (show _ = some (Value.int .i64 m.kind) from HM7.out.cell 0)
        have d1 := (show _ = some (Value.string (bs m.path)) from HM7.out.cell 1)
        have d2 := (show _ = some (Value.string (bs m.link)) from HM7.out.cell 2)
        have d3 := (show _ = some (Value.int .i64 m.size) from HM7.out.cell 3)
        have d4 := (show _ = some (Value.slice pa pn pc) from HM7.out.cell 4)
        have hq : ((mn : Int) == 8192) = false := by simp; omega
        have HO7 : Hid (w7.ownsRow w.heap.size 58 5 (.slice ma mn mc) mn (mvCells L)) := Lib.hid (by
          have h := own_touch ht7 HLa.out HMM.out.own (by decide)
          have e : L.length = mn := by rw [HMn.out, ← HMM.out.fst, List.length_map]
          have h2 : w7.ownsRow w.heap.size 58 5 (.slice ma mn mc) L.length (mvCells L) := h
          rw [e] at h2
          exact h2)
        have HO8 : Hid ((w7.alloc (.cells #[.int .i64 m.kind, .string (bs m.path), .string (bs m.link), .int .i64 m.size, .slice pa pn pc] 58)).ownsRow w.heap.size 58 5 (.slice ma mn mc) mn (mvCells L)) := Lib.hid (own_below HO7.out (below_alloc1 w7 _))
        have HRm := Lib.hid (Row.new w7 58 [.int .i64 m.kind, .string (bs m.path), .string (bs m.link), .int .i64 m.size, .slice pa pn pc])
        have HE1 : Hid (mvCells [(m, .slice pa pn pc)] = [.int .i64 m.kind, .string (bs m.path), .string (bs m.link), .int .i64 m.size, .slice pa pn pc]) := Lib.hid (by simp [mvCells, mvRow, mbCells])
        have HSrc : Hid (∀ j u, (mvCells [(m, .slice pa pn pc)])[j]? = some u → (w7.alloc (.cells #[.int .i64 m.kind, .string (bs m.path), .string (bs m.link), .int .i64 m.size, .slice pa pn pc] 58)).cell? ((⟨w7.heap.size, 0, none⟩ : Addr).add j) = some u) := Lib.hid (by rw [HE1.out]; exact HRm.out.cells)
        have HOne : Hid (∀ u ∈ mvCells [(m, .slice pa pn pc)], u.oneCell' = true) := Lib.hid (mvCells_one _ (by intro y hy; rw [List.mem_singleton.1 hy]; exact ⟨_, _, _, rfl⟩))
        have HBs : Hid (w.heap.size ≤ (w7.alloc (.cells #[.int .i64 m.kind, .string (bs m.path), .string (bs m.link), .int .i64 m.size, .slice pa pn pc] 58)).heap.size) := Lib.hid (by rw [alloc_size]; have := HSt.out.below.size; have := ht7.size; omega)
        have HB8 := Lib.hid (below_alloc1 w7 (.cells #[.int .i64 m.kind, .string (bs m.path), .string (bs m.link), .int .i64 m.size, .slice pa pn pc] 58))
        have HA8 := Lib.hid (HA7.out.alloc (.cells #[.int .i64 m.kind, .string (bs m.path), .string (bs m.link), .int .i64 m.size, .slice pa pn pc] 58))
        clear hl7 ht7 hok hls7 hfr7 hn7
        gi_wp2_with (refine wpListIn_append_own _ rfl _ _ 33 rfl w.heap.size 58 i0 _ 5 72 Tryz.underlying33 hi0 hz0 hs0 hb0 rfl (by decide) (.slice ma mn mc) mn (mvCells L) (by rfl) HO8.out ⟨w7.heap.size, 0, none⟩ 1 1 (mvCells [(m, .slice pa pn pc)]) (by rfl) (by rw [HE1.out]; rfl) HSrc.out HOne.out (by simp only [maxLen]; omega) (by omega) HBs.out ?_; intro v9 w9 h1 h2 h3; obtain ⟨a9, n9, c9, rfl⟩ := own_isSl h1; have H1 := Lib.hid h1; have H2 := Lib.hid h2; have HA9 := Lib.hid (HA8.out.grown h2 (own_row_ne HO8.out HA8.out (by decide))); have z0 := (show _ = some (Value.slice ma mn mc) from HA9.out.cell 0); have z1 := HA9.out.free 0; clear h1 h2 h3 y0 d0 d1 d2 d3 d4)
        exact OpS.turn4 HSt.out HS.out HA.out HMM.out HLa.out Hn.out HPp.out HMs.out HDis.out HOk.out (by rw [← HMn.out]; omega) HT.out HL7.out HN7.out HF7.out HB8.out (by
          have h := H1.out
          rw [show L.length = mn by rw [HMn.out, ← HMM.out.fst, List.length_map]]
          exact h) H2.out
end Go.Proofs.YtlecpjfggoehdaaGreatDoor.Ar
