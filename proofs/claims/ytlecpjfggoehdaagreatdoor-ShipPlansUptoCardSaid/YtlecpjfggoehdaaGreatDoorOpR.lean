
/- Archive: the reference's Open. -/
import Derived.Test.YtlecpjfggoehdaaGreatDoorOpQ
import Derived.Test.YtlecpjfggoehdaaGreatDoorOpJ
import Derived.Test.YtlecpjfggoehdaaGreatDoorOpP
set_option linter.unusedVariables false
set_option linter.unusedSimpArgs false
set_option maxRecDepth 100000
namespace Go.Proofs.YtlecpjfggoehdaaGreatDoor.Ar
open Go.RowKit Go.Sort Go.Lib Go.Proofs.YtlecpjfggoehdaaGreatDoor.Rs

theorem raw_i64 {b : List UInt8} {k K : Nat} {m : Mb} (h : rawMem b k = some (m, K)) : I64 m.kind ∧ I64 m.size ∧ ∀ p ∈ m.pieces, I64 p.off := by
  rw [rawMem] at h
  split at h
  · obtain ⟨r, hp, h3⟩ := Option.bind_eq_some_iff.1 h
    split at h3
    · cases h3
      exact ⟨num_i64 _ _, num_i64 _ _, rawPcs_i64 hp⟩
    · cases h3
  · cases h
theorem rawPcs_sm {b : List UInt8} : ∀ {n k : Nat} {r : List Pc × Nat}, rawPcs b n k = some r → ∀ p ∈ r.1, p.data.length ≤ b.length
  | 0, k, r, h => by cases h; simp
  | n + 1, k, r, h => by
    rw [rawPcs] at h
    split at h
    · rename_i hk
      obtain ⟨q, hq, rfl⟩ := Option.map_eq_some_iff.1 h
      intro p hp
      rcases List.mem_cons.1 hp with rfl | hp
      · rw [txt_len (by omega)]; omega
      · exact rawPcs_sm hq p hp
    · cases h
theorem raw_small {b : List UInt8} {k K : Nat} {m : Mb} (h : rawMem b k = some (m, K)) (hb : b.length ≤ 1048576) : MbSm m := by
  rw [rawMem] at h
  split at h
  · rename_i hk
    obtain ⟨r, hp, h3⟩ := Option.bind_eq_some_iff.1 h
    split at h3
    · rename_i hK
      cases h3
      obtain ⟨h1, h2, h4⟩ := rawPcs_len hp
      refine ⟨by rw [txt_len (by omega)]; omega, by rw [txt_len (by omega)]; omega, ?_, fun p hp2 => Nat.le_trans (rawPcs_sm hp p hp2) hb⟩
      show r.1.length ≤ _
      rw [h1]; omega
    · cases h3
  · cases h
structure MbR (m : Mb) : Prop where
  kind : I64 m.kind
  size : I64 m.size
  offs : ∀ p ∈ m.pieces, I64 p.off
  sm : MbSm m
theorem parseR_mb {b : List UInt8} (hb : b.length ≤ 1048576) : ∀ {i k : Nat} {ms : List Mb}, parseR b i = some (ms, k) → ∀ m ∈ ms, MbR m
  | 0, k, ms, e => by cases e; simp
  | i + 1, k, ms, e => by
    rw [parseR] at e
    obtain ⟨r, hr, e2⟩ := Option.bind_eq_some_iff.1 e
    obtain ⟨x, hx, e3⟩ := Option.map_eq_some_iff.1 e2
    cases e3
    intro m hm
    rcases List.mem_append.1 hm with hm | hm
    · exact parseR_mb hb (ms := r.1) (k := r.2) hr m hm
    · rw [List.mem_singleton.1 hm]
      obtain ⟨h1, h2, h3⟩ := raw_i64 (m := x.1) (K := x.2) hx
      exact ⟨h1, h2, h3, raw_small (m := x.1) (K := x.2) hx hb⟩
theorem parseR_none {b : List UInt8} {i : Nat} (h : parseR b i = none) : ∀ n, i ≤ n → parseR b n = none
  | 0, hn => by obtain rfl : i = 0 := by omega
                exact h
  | n + 1, hn => by
    rcases Nat.lt_or_ge i (n + 1) with h' | h'
    · rw [parseR, parseR_none h n (by omega)]; rfl
    · obtain rfl : i = n + 1 := by omega
      exact h
theorem parseR_count {b : List UInt8} : ∀ {i k : Nat} {ms : List Mb}, parseR b i = some (ms, k) → ms.length = i ∧ 64 + 24 * i ≤ k
  | 0, k, ms, e => by cases e; exact ⟨rfl, Nat.le_refl _⟩
  | i + 1, k, ms, e => by
    rw [parseR] at e
    obtain ⟨r, hr, e2⟩ := Option.bind_eq_some_iff.1 e
    obtain ⟨x, hx, e3⟩ := Option.map_eq_some_iff.1 e2
    cases e3
    obtain ⟨h1, h2⟩ := parseR_count (ms := r.1) (k := r.2) hr
    obtain ⟨g1, g2, g3⟩ := mem_txt (m := x.1) (K := x.2) hx
    exact ⟨by rw [List.length_append, h1]; rfl, by omega⟩
theorem MemS.mb {base : Nat} {W : World} {v : Value} {ms : List Mb} {L : List MV} (h : MemS base W v ms L) (hr : ∀ m ∈ ms, MbR m) : Sl RMb 5 W v ms := by
  have := h.own.sl (fun x hx => by
    have hm : x.1 ∈ ms := by rw [← h.fst]; exact List.mem_map_of_mem hx
    exact ⟨(h.pcs x hx).sl (hr _ hm).offs, (hr _ hm).kind, (hr _ hm).size⟩)
  rw [h.fst] at this
  exact this
theorem MemS.grown89 {base : Nat} {W W' : World} {C : Nat} {cur : List Value} {v : Value} {ms : List Mb} {L : List MV} (h : MemS base W v ms L) (hC : Row W C 66 cur) (hg : W.grownBy W' (some C)) : MemS base W' v ms L :=
  ⟨own_keep h.own (fun u e => hg.block u (h.own.lt u e).2 (by intro e2; cases e2; exact own_row_ne h.own hC (by decide) e.symm)), h.fst,
    fun x hx => own_keep (h.pcs x hx) (fun u e => hg.block u ((h.pcs x hx).lt u e).2 (by intro e2; cases e2; exact own_row_ne (h.pcs x hx) hC (by decide) e.symm)), h.dis⟩

/-- what the reference's loop knows -/
def ROL (w : World) (b : List UInt8) (n C : Nat) (vb v : Value) (j K : Nat) (q : Bool) (wr : World) : Prop :=
  Row wr C 66 [vb, .int .i64 K, .bool q] ∧ K ≤ b.length ∧ Below w.heap.size w wr ∧ IsSl v ∧ (q = false → ∃ ms L, MemS w.heap.size wr v ms L ∧ parseR b j = some (ms, K)) ∧ (q = true → parseR b n = none)

theorem MemS.push {base : Nat} {W W' : World} {v v' : Value} {ms : List Mb} {L : List MV} {m : Mb} {vp : Value} (h : MemS base W v ms L) (ho : OwnP base W vp m.pieces) (hd : ∀ y ∈ L, ∀ u, y.2.ownBlock = some u → vp.ownBlock ≠ some u)
    (h1 : W'.ownsRow base 58 5 v' (L.length + 1) (mvCells L ++ mvCells [(m, vp)])) (hg : W.grownBy W' v.ownBlock) : MemS base W' v' (ms ++ [m]) (L ++ [(m, vp)]) := by
  have key : ∀ {vq : Value} {q : List Pc}, OwnP base W vq q → OwnP base W' vq q := fun hq => own_keep hq (fun u e => hg.block u (hq.lt u e).2 (fun e2 => own_apart hq h.own (by decide) e e2.symm))
  refine ⟨?_, by rw [List.map_append, h.fst]; rfl, fun y hy => ?_, List.pairwise_append.2 ⟨h.dis, List.pairwise_singleton _ _, fun y hy z hz => by rw [List.mem_singleton.1 hz]; exact hd y hy⟩⟩
  · show World.ownsRow _ _ _ _ _ (L ++ [(m, vp)]).length _
    rw [List.length_append, mvCells_app]
    exact h1
  · rcases List.mem_append.1 hy with hy | hy
    · exact key (h.pcs y hy)
    · rw [List.mem_singleton.1 hy]; exact key ho
theorem ropen_none {b : List UInt8} (h : parseR b (numN b 8) = none) : pOpen b = none := by
  rw [open_eq, rOpen]
  split
  · rw [h]; rfl
  · rfl
theorem ropen_end {b : List UInt8} {ms : List Mb} {k : Nat} (h : parseR b (numN b 8) = some (ms, k)) (hk : k ≠ b.length) : pOpen b = none := by
  rw [open_eq, rOpen]
  split
  · rw [h, Option.bind_some, if_neg (fun h => hk h.1)]
  · rfl
theorem ropen_bad {b : List UInt8} {ms : List Mb} {k : Nat} (h : parseR b (numN b 8) = some (ms, k)) (hg : goodB ms = false) : pOpen b = none := by
  rw [open_eq, rOpen]
  split
  · rw [h, Option.bind_some, if_neg (fun h => by have := h.2.1; rw [hg] at this; cases this)]
  · rfl
theorem ropen_ne {b : List UInt8} {ms : List Mb} {k : Nat} (h : parseR b (numN b 8) = some (ms, k)) (hg : makeB ms ≠ b) : pOpen b = none := by
  rw [open_eq, rOpen]
  split
  · rw [h, Option.bind_some, if_neg (fun h => hg h.2.2)]
  · rfl
theorem ropen_yes {b : List UInt8} {ms : List Mb} (h64 : 64 ≤ b.length) (h : parseR b (numN b 8) = some (ms, b.length)) (hg : goodB ms = true) (hm : makeB ms = b) : pOpen b = some ms := by
  rw [open_eq, rOpen, if_pos h64, h, Option.bind_some, if_pos ⟨rfl, hg, hm⟩]
theorem own_len' {w : World} {base e size n : Nat} {a : Option Addr} {k c : Nat} {xs : List Value} (h : w.ownsRow base e size (.slice a k c) n xs) : k = n := by
  rcases h.2 with ⟨h, hn⟩ | ⟨g, cap, cur, h, _⟩
  · cases h; exact hn.symm
  · cases h; rfl
theorem pOpen_short {b : List UInt8} (h : b.length < 64) : pOpen b = none := by rw [open_eq, rOpen, if_neg (by omega)]
set_option maxHeartbeats 1000000 in
theorem call_ropen (vb : Value) (b : List UInt8) (w : World) (hs : Sl RByte 1 w vb b) (hl : b.length ≤ 1048576) (hc : ∀ a n c, vb = .slice a n c → n ≤ c) :
    Calls Tryz.prog 13 #[vb] w (OpenPost w b) := by
  have HS := Lib.hid hs
  obtain ⟨av, bv, ov, cv, rfl, hav, hcv⟩ := hs
  obtain ⟨m, hm⟩ : ∃ m, b.length = m := ⟨_, rfl⟩
  have HBl := Lib.hid hm
  by_cases h64 : m < 64
  · have HNo : Hid (pOpen b = none) := Lib.hid (pOpen_short (by omega))
    rw [hm] at hl ⊢
    have n0 : decide ((m : Int) < 64) = true := decide_eq_true (by omega)
    clear hm hav hcv hc HS
    go_enter Tryz.func13, Tryz.ntmps13
    go_wp2
    go_ret2
    exact OpenPost.no HNo.out (below_alloc1 _ _)
  · have n0 : decide ((m : Int) < 64) = false := decide_eq_false (by omega)
    have HCu : Hid (Cu (w.alloc (.cells #[.slice av m cv, .int .i64 8, .bool false] 66)) w.heap.size (.slice av m cv) b 8 false) := Lib.hid (by
      rw [← hm]
      exact ⟨Row.new w 66 _, HS.out.keep RByte.stays (keeps_alloc _ _), by omega, hc, by omega, by omega⟩)
    have HB0 := Lib.hid (below_alloc1 w (.cells #[.slice av m cv, .int .i64 8, .bool false] 66))
    rw [hm] at hl HS hc ⊢
    obtain ⟨C, hC⟩ : ∃ C, w.heap.size = C := ⟨_, rfl⟩
    have HC := Lib.hid hC
    have HCap := Lib.hid hc
    clear hm hav hcv hc hC
    go_enter Tryz.func13, Tryz.ntmps13
    go_wp2_with fail
    refine (call_chalf _ _ b 8 false _ HCu.out).mono ?_
    rintro e w1 ⟨hg, ⟨_, h4, rfl, hrow⟩ | ⟨h4, _⟩⟩
    rotate_left
    · exact absurd ⟨rfl, by have := HBl.out; omega⟩ h4
    obtain ⟨n, hn⟩ : ∃ n, numN b 8 = n := ⟨_, rfl⟩
    have hnl : n < 4294967296 := by rw [← hn]; exact numN_lt _ _
    have HNn := Lib.hid hn
    rw [← numN_cast, hn]
    rw [HC.out] at hrow hg HCu HB0 ⊢
    have c1 := (show _ = some (Value.int .i64 12) from hrow.cell 1)
    have f1 := hrow.free 1
    have HR1 : Hid (Row (w1.setCell ⟨C, 1, none⟩ (.int .i64 64)) C 66 [.slice av m cv, .int .i64 64, .bool false]) := Lib.hid (hrow.set 1 _)
    have hb1 : Below C w (w1.setCell ⟨C, 1, none⟩ (.int .i64 64)) := (HB0.out.grown hg (Nat.le_trans (Nat.le_of_eq HC.out.symm) HB0.out.size) (fun r e => by cases e; exact Nat.le_refl _)).setCell (Nat.le_refl _) _
    have HB1 := Lib.hid hb1
    clear hg hrow hn hb1
    have HW0 := Lib.hid (Nat.le_trans (Nat.le_of_eq HC.out.symm) HB1.out.size)
    go_wp2_with fail
    have HSt : Hid (ROL w b n C (.slice av m cv) (.slice (some ⟨w1.heap.size, 0, none⟩) 0 0) 0 64 false ((w1.setCell ⟨C, 1, none⟩ (.int .i64 64)).alloc (.cells #[] 58))) := Lib.hid (by
      have ho := World.ownsRow_made (w1.setCell ⟨C, 1, none⟩ (.int .i64 64)) #[] 0 (e := 58) (size := 5) (base := w.heap.size) (by rw [HC.out]; exact HW0.out) (by simp [maxLen]) rfl
      rw [setCell_size] at ho
      refine ⟨HR1.out.alloc _, by have := HBl.out; omega, ?_, ⟨_, _, _, rfl⟩, fun _ => ⟨[], [], ⟨ho, rfl, by simp, List.Pairwise.nil⟩, rfl⟩, fun h => by cases h⟩
      rw [HC.out]
      exact HB1.out.alloc HW0.out _)
    clear HR1 HB1 c1 f1 HCu HB0 HW0
    go_loopw [6, 7] (fun v i wr => ∃ (j K : Nat) (q : Bool), i = .int .i64 j ∧ j ≤ n ∧ ROL w b n C (.slice av m cv) v j K q wr) (fun _ i _ => n - (RowKit.intOf i).toNat)
    case atStart => exact ⟨0, 64, false, rfl, Nat.zero_le _, HSt.out⟩
    case round =>
      obtain ⟨j, K, q, rfl, hj, hrow, hK, hb, hsl, hy, hn0⟩ := hrel
      clear HSt
      obtain ⟨al, nl, cl, rfl⟩ := hsl
      have HRow := Lib.hid hrow
      have HB := Lib.hid hb
      have HY := Lib.hid hy
      have HN0 := Lib.hid hn0
      have HK := Lib.hid hK
      have e2 := (show _ = some (Value.bool q) from hrow.cell 2)
      have e1 := (show _ = some (Value.int .i64 K) from hrow.cell 1)
      have HSw : Hid (Sl RByte 1 wr (.slice av m cv) b) := Lib.hid (HS.out.keep RByte.stays (keeps_below hb))
      have HCuw : Hid (Cu wr C (.slice av m cv) b K q) := Lib.hid ⟨hrow, HSw.out, by have := HBl.out; omega, HCap.out, by have := HBl.out; omega, hK⟩
      have hK' : K ≤ m := by have := HBl.out; omega
      clear hrow hb hy hn0 hK
      obtain ⟨i0, hi0, hz0, hs0, hb0⟩ := info_parts info51
      by_cases hgo : j < n ∧ q = false
      · obtain ⟨hlt, rfl⟩ := hgo
        obtain ⟨ms, L, hM, hpa⟩ := HY.out rfl
        have hnl' : nl = L.length := own_len' hM.own
        have HM := Lib.hid hM
        have HPa := Lib.hid hpa
        have HLn := Lib.hid hnl'
        have hjl : nl = j := by rw [hnl', ← (parseR_count hpa).1, ← hM.fst, List.length_map]
        have hjm : j ≤ 1048576 := by have := (parseR_count hpa).2; omega
        have hnm : nl ≤ 1048576 := by omega
        clear hM hpa hnl' hjl
        go_wp2_with fail
        refine (call_cmember C _ b K _ HCuw.out).mono ?_
        rintro e w2 ⟨hg, hp⟩
        have HG := Lib.hid hg
        have HM2 := Lib.hid (HM.out.grown89 HRow.out hg)
        have HB2 := Lib.hid (HB.out.grown hg HB.out.size (fun r e => by cases e; exact Nat.le_of_eq HC.out))
        have HP := Lib.hid hp
        clear hg hp
        rcases HP.out with ⟨mm, K2, vp, hraw, rfl, ho, hr⟩ | ⟨hraw, mm, vp, k2, rfl, hsl2, hk2, hr⟩
        · obtain ⟨pa, pn, pc, rfl⟩ := own_isSl ho
          have HRaw := Lib.hid hraw
          have HO := Lib.hid (own_mono ho HB.out.size)
          have HDis : Hid (∀ y ∈ L, ∀ u, y.2.ownBlock = some u → (Value.slice pa pn pc).ownBlock ≠ some u) := Lib.hid (fun y hy u e1 e2 => by
            have := ((HM.out.pcs y hy).lt u e1).2
            have := (ho.lt u e2).1
            omega)
          have HR2 := Lib.hid hr
          clear hraw ho hr HP
          have HZ1 := Lib.hid (below_alloc1 w2 (.cells #[.int .i64 mm.kind, .string (bs mm.path), .string (bs mm.link), .int .i64 mm.size, .slice pa pn pc] 58))
          have HA : Hid ((w2.alloc (.cells #[.int .i64 mm.kind, .string (bs mm.path), .string (bs mm.link), .int .i64 mm.size, .slice pa pn pc] 58)).ownsRow w.heap.size 58 5 (.slice al nl cl) nl (mvCells L)) := Lib.hid (by
            have h : World.ownsRow _ _ _ _ _ L.length _ := own_below HM2.out.own HZ1.out
            rw [← HLn.out] at h
            exact h)
          have HRm := Lib.hid (Row.new w2 58 [.int .i64 mm.kind, .string (bs mm.path), .string (bs mm.link), .int .i64 mm.size, .slice pa pn pc])
          have HE1 : Hid (mvCells [(mm, .slice pa pn pc)] = [.int .i64 mm.kind, .string (bs mm.path), .string (bs mm.link), .int .i64 mm.size, .slice pa pn pc]) := Lib.hid (by simp [mvCells, mvRow, mbCells])
          have HSrc : Hid (∃ ad c, Value.slice (some ⟨w2.heap.size, 0, none⟩) 1 1 = .slice ad 1 c ∧ (0 < 1 → ∃ g off, ad = some ⟨g, off, none⟩ ∧ ∀ j u, (mvCells [(mm, .slice pa pn pc)])[j]? = some u → (w2.alloc (.cells #[.int .i64 mm.kind, .string (bs mm.path), .string (bs mm.link), .int .i64 mm.size, .slice pa pn pc] 58)).cell? ⟨g, off + j, none⟩ = some u)) :=
            Lib.hid ⟨_, _, rfl, fun _ => ⟨_, 0, rfl, fun j u hj => by rw [Nat.zero_add]; rw [HE1.out] at hj; exact (HRm.out.cell j).trans hj⟩⟩
          have HNl : Hid (NilOk (.slice (some ⟨w2.heap.size, 0, none⟩) 1 1)) := Lib.hid (fun n c e => by cases e)
          have HOne : Hid (∀ u ∈ mvCells [(mm, .slice pa pn pc)], u.oneCell' = true) := Lib.hid (mvCells_one _ (by intro y hy; rw [List.mem_singleton.1 hy]; exact ⟨_, _, _, rfl⟩))
          have HBz := Lib.hid (HB2.out.alloc HB2.out.size (.cells #[.int .i64 mm.kind, .string (bs mm.path), .string (bs mm.link), .int .i64 mm.size, .slice pa pn pc] 58))
          have HRz := Lib.hid (HR2.out.alloc (.cells #[.int .i64 mm.kind, .string (bs mm.path), .string (bs mm.link), .int .i64 mm.size, .slice pa pn pc] 58))
          have hE1 : (mvCells [(mm, .slice pa pn pc)]).length = 1 * 5 := by rw [HE1.out]; rfl
          have HEl := Lib.hid hE1
          clear hE1
          simp only [mbCells]
          go_wp2_with ((refine wpl_many 33 58 i0 _ 5 72 Tryz.underlying33 hi0 hz0 hs0 hb0 rfl (by decide) HA.out (by rfl) _ _ (by rfl) (by rfl) (.slice (some ⟨w2.heap.size, 0, none⟩) 1 1) (by rfl) (mvCells [(mm, .slice pa pn pc)]) 1 HEl.out HNl.out HSrc.out HOne.out HBz.out.size (by omega) (by decide) ?_; intro v4 u4 h1' h2' h3'; obtain ⟨a4, n4, c4, rfl⟩ := own_isSl h1'; have HV4 := Lib.hid h1'; have HR4 := Lib.hid h2'; clear h1' h2' h3'))
          have HRf := Lib.hid (HRz.out.grown HR4.out (own_row_ne HA.out HRz.out (by decide)))
          have HBf := Lib.hid (HBz.out.grown HR4.out HBz.out.size (fun r e => (HA.out.lt r e).1))
          have HFin : Hid (ROL w b n C (.slice av m cv) (.slice a4 n4 c4) (j + 1) (K2 + 4) false u4) := Lib.hid ⟨HRf.out, (mem_txt HRaw.out).2.1, HBf.out, ⟨_, _, _, rfl⟩, fun _ => ⟨ms ++ [mm], L ++ [(mm, .slice pa pn pc)], MemS.push (HM2.out.below HZ1.out) (own_below HO.out HZ1.out) HDis.out (by have h := HV4.out; rw [HLn.out] at h; exact h) HR4.out, by rw [parseR, HPa.out, Option.bind_some]; simp only; rw [HRaw.out]; rfl⟩, fun h => by cases h⟩
          clear HA HRm HE1 HSrc HNl HOne HBz HRz HEl HRf HBf HV4 HR4 HZ1 HO HDis HRaw HM2 HB2 HR2 HG HM HPa HLn HB HRow HY HN0 HK HSw HCuw e1 e2
          go_roundw
          case rel => exact ⟨j + 1, K2 + 4, false, by go_num, by omega, HFin.out⟩
          case measure => simp [RowKit.intOf]; omega
        · obtain ⟨pa, pn, pc, rfl⟩ := hsl2
          have HRaw := Lib.hid hraw
          have HK2 := Lib.hid hk2
          have HR2 := Lib.hid hr
          clear hraw hr HP hk2
          have HZ1 := Lib.hid (below_alloc1 w2 (.cells #[.int .i64 mm.kind, .string (bs mm.path), .string (bs mm.link), .int .i64 mm.size, .slice pa pn pc] 58))
          have HA : Hid ((w2.alloc (.cells #[.int .i64 mm.kind, .string (bs mm.path), .string (bs mm.link), .int .i64 mm.size, .slice pa pn pc] 58)).ownsRow w.heap.size 58 5 (.slice al nl cl) nl (mvCells L)) := Lib.hid (by
            have h : World.ownsRow _ _ _ _ _ L.length _ := own_below HM2.out.own HZ1.out
            rw [← HLn.out] at h
            exact h)
          have HRm := Lib.hid (Row.new w2 58 [.int .i64 mm.kind, .string (bs mm.path), .string (bs mm.link), .int .i64 mm.size, .slice pa pn pc])
          have HE1 : Hid (mvCells [(mm, .slice pa pn pc)] = [.int .i64 mm.kind, .string (bs mm.path), .string (bs mm.link), .int .i64 mm.size, .slice pa pn pc]) := Lib.hid (by simp [mvCells, mvRow, mbCells])
          have HSrc : Hid (∃ ad c, Value.slice (some ⟨w2.heap.size, 0, none⟩) 1 1 = .slice ad 1 c ∧ (0 < 1 → ∃ g off, ad = some ⟨g, off, none⟩ ∧ ∀ j u, (mvCells [(mm, .slice pa pn pc)])[j]? = some u → (w2.alloc (.cells #[.int .i64 mm.kind, .string (bs mm.path), .string (bs mm.link), .int .i64 mm.size, .slice pa pn pc] 58)).cell? ⟨g, off + j, none⟩ = some u)) :=
            Lib.hid ⟨_, _, rfl, fun _ => ⟨_, 0, rfl, fun j u hj => by rw [Nat.zero_add]; rw [HE1.out] at hj; exact (HRm.out.cell j).trans hj⟩⟩
          have HNl : Hid (NilOk (.slice (some ⟨w2.heap.size, 0, none⟩) 1 1)) := Lib.hid (fun n c e => by cases e)
          have HOne : Hid (∀ u ∈ mvCells [(mm, .slice pa pn pc)], u.oneCell' = true) := Lib.hid (mvCells_one _ (by intro y hy; rw [List.mem_singleton.1 hy]; exact ⟨_, _, _, rfl⟩))
          have HBz := Lib.hid (HB2.out.alloc HB2.out.size (.cells #[.int .i64 mm.kind, .string (bs mm.path), .string (bs mm.link), .int .i64 mm.size, .slice pa pn pc] 58))
          have HRz := Lib.hid (HR2.out.alloc (.cells #[.int .i64 mm.kind, .string (bs mm.path), .string (bs mm.link), .int .i64 mm.size, .slice pa pn pc] 58))
          have hE1 : (mvCells [(mm, .slice pa pn pc)]).length = 1 * 5 := by rw [HE1.out]; rfl
          have HEl := Lib.hid hE1
          clear hE1
          simp only [mbCells]
          go_wp2_with ((refine wpl_many 33 58 i0 _ 5 72 Tryz.underlying33 hi0 hz0 hs0 hb0 rfl (by decide) HA.out (by rfl) _ _ (by rfl) (by rfl) (.slice (some ⟨w2.heap.size, 0, none⟩) 1 1) (by rfl) (mvCells [(mm, .slice pa pn pc)]) 1 HEl.out HNl.out HSrc.out HOne.out HBz.out.size (by omega) (by decide) ?_; intro v4 u4 h1' h2' h3'; obtain ⟨a4, n4, c4, rfl⟩ := own_isSl h1'; have HV4 := Lib.hid h1'; have HR4 := Lib.hid h2'; clear h1' h2' h3'))
          have HRf := Lib.hid (HRz.out.grown HR4.out (own_row_ne HA.out HRz.out (by decide)))
          have HBf := Lib.hid (HBz.out.grown HR4.out HBz.out.size (fun r e => (HA.out.lt r e).1))
          have HFin : Hid (ROL w b n C (.slice av m cv) (.slice a4 n4 c4) (j + 1) k2 true u4) := Lib.hid ⟨HRf.out, HK2.out, HBf.out, ⟨_, _, _, rfl⟩, (fun h => by cases h), fun _ => parseR_none (i := j + 1) (by rw [parseR, HPa.out, Option.bind_some]; simp only; rw [HRaw.out]; rfl) n (by omega)⟩
          clear HA HRm HE1 HSrc HNl HOne HBz HRz HEl HRf HBf HV4 HR4 HZ1 HRaw HM2 HB2 HR2 HG HM HPa HLn HB HRow HY HN0 HK HSw HCuw e1 e2 HK2
          go_roundw
          case rel => exact ⟨j + 1, k2, true, by go_num, by omega, HFin.out⟩
          case measure => simp [RowKit.intOf]; omega
      · have hcase : q = true ∨ (q = false ∧ ¬ j < n) := by
          cases q
          · exact .inr ⟨rfl, fun h => hgo ⟨h, rfl⟩⟩
          · exact .inl rfl
        clear hgo
        rcases hcase with rfl | ⟨rfl, hlt⟩
        · have HNo : Hid (pOpen b = none) := Lib.hid (ropen_none (by rw [HNn.out]; exact HN0.out rfl))
          by_cases hlt : j < n
          · go_wp2
            go_ret2
            exact OpenPost.no HNo.out HB.out
          · go_wp2
            go_ret2
            exact OpenPost.no HNo.out HB.out
        · obtain rfl : j = n := by omega
          obtain ⟨ms, L, hM, hpa⟩ := HY.out rfl
          have hpb : parseR b (numN b 8) = some (ms, K) := by rw [HNn.out]; exact hpa
          have HM := Lib.hid hM
          have HPb := Lib.hid hpb
          have HMb := Lib.hid (parseR_mb (by have := HBl.out; omega) hpa)
          have HCnt := Lib.hid (parseR_count hpa)
          clear hM hpa hpb
          by_cases hKm : K = m
          · subst hKm
            have HLs : Hid (LsSm ms) := Lib.hid ⟨by have := HCnt.out; omega, fun x hx => (HMb.out x hx).sm⟩
            obtain ⟨bb, oo, hav2, hcw⟩ : ∃ bb oo, av = some ⟨bb, oo, none⟩ ∧ ∀ j x, b[j]? = some x → wr.cell? ⟨bb, oo + j, none⟩ = some (byteV x) := by
              obtain ⟨a', b', o', c', e, ha', hc'⟩ := HSw.out
              cases e
              refine ⟨b', o', ha' (by have := HBl.out; omega), fun j x hj => ?_⟩
              have h := hc' j x hj
              rw [Nat.mul_one] at h
              exact h
            have HCw := Lib.hid hcw
            clear hcw HSw HCuw HCap HS
            subst hav2
            go_wp2_with fail
            refine (call_rmake ms _ wr (MemS.mb HM.out HMb.out) HLs.out).mono ?_
            rintro e w2 ⟨h2, hb2⟩
            cases hg : goodB ms with
            | false =>
              rw [if_neg (by rw [hg]; simp)] at h2
              obtain rfl := h2
              have HNo : Hid (pOpen b = none) := Lib.hid (ropen_bad HPb.out hg)
              have HB2 := Lib.hid (below_after HB.out hb2)
              clear hg hb2
              go_wp2
              go_ret2
              exact OpenPost.no HNo.out HB2.out
            | true =>
              rw [if_pos hg] at h2
              obtain ⟨v2, rfl, ho2⟩ := h2
              have HG := Lib.hid hg
              have HB2 := Lib.hid (below_after HB.out hb2)
              have HM2 := Lib.hid (HM.out.below hb2)
              obtain ⟨g2, c2, rfl, _, _, hc2⟩ := own_cells ho2 (by rw [make_len]; omega)
              have k1 : (convert 22 9 (.slice (some ⟨g2, 0, none⟩) (makeB ms).length c2)).run Tryz.prog w2 = .ok (.string (bs (makeB ms))) w2 := conv_txt (B := g2) (o := 0) (c := c2) (fun j x hj => by
                rw [Nat.zero_add]
                exact hc2 j _ (by rw [List.getElem?_map, hj]; rfl))
              have k2 : (convert 22 9 (.slice (some ⟨bb, oo, none⟩) K cv)).run Tryz.prog w2 = .ok (.string (bs b)) w2 := by
                have h := conv_txt (w := w2) (B := bb) (o := oo) (c := cv) (l := b) (fun j x hj => keeps_below hb2 _ _ _ (HCw.out j x hj))
                rw [HBl.out] at h
                exact h
              have HLn2 : Hid (¬ (bs (makeB ms)).toList = (bs b).toList → makeB ms ≠ b) := Lib.hid (fun h e => h (by rw [e]))
              have HLy : Hid ((bs (makeB ms)).toList = (bs b).toList → makeB ms = b) := Lib.hid (fun h => by rw [bs_toList, bs_toList] at h; exact h)
              generalize (makeB ms).length = N at k1
              generalize bs (makeB ms) = X at k1 HLn2 HLy
              generalize bs b = Y at k2 HLn2 HLy
              clear hg hb2 ho2 hc2
              by_cases hXY : X.toList = Y.toList
              · have HYes : Hid (pOpen b = some ms) := Lib.hid (ropen_yes (by have := HBl.out; omega) (by rw [HBl.out]; exact HPb.out) HG.out (HLy.out hXY))
                have heq : (X.toList == Y.toList) = true := by simpa using hXY
                clear hXY HLn2 HLy
                go_wp2
                go_ret2
                exact OpenPost.yes HYes.out HB2.out HM2.out
              · have HNo : Hid (pOpen b = none) := Lib.hid (ropen_ne HPb.out (HLn2.out hXY))
                have hne : (X.toList == Y.toList) = false := by simpa using hXY
                clear hXY HLn2 HLy
                go_wp2
                go_ret2
                exact OpenPost.no HNo.out HB2.out
          · have HNo : Hid (pOpen b = none) := Lib.hid (ropen_end HPb.out (by rw [HBl.out]; exact hKm))
            have hq : ((K : Int) == (m : Int)) = false := beq_eq_false_iff_ne.2 (by omega)
            have hq2 : ((K : Int) != (m : Int)) = true := by rw [bne_iff_ne]; omega
            clear hKm
            go_wp2
            go_ret2
            exact OpenPost.no HNo.out HB.out
end Go.Proofs.YtlecpjfggoehdaaGreatDoor.Ar
