/-
  Mend: bare: the image that the law makes.
-/
import Derived.Test.YtgoogbakhhbnhaaGreatDoorNm
set_option linter.unusedVariables false
set_option linter.unusedSimpArgs false
set_option maxRecDepth 100000
namespace Go.Proofs.YtgoogbakhhbnhaaGreatDoor.Ar
open Go.RowKit Go.Sort Go.Lib Go.Proofs.YtgoogbakhhbnhaaGreatDoor.Rs
/-- the walk of bare: superblock, two slots, the image -/
structure BareI (w W : World) (a b c g : Nat) (SL : List UInt8) (L : List Value) : Prop where
  below : Below w.heap.size w W
  lo : w.heap.size ≤ g ∧ a < g ∧ b < g ∧ c < g
  sup : Row W a 40 (SL.map byteV)
  one : Row W b 46 [.int .u64 x1, .int .u64 0, .int .u64 0]
  five : Row W c 46 [.int .u64 x5, .int .u64 0, .int .u64 0]
  img : Row W g 5 L
  len : L.length = 12288
theorem BareI.under {w W W' : World} {a b c g : Nat} {SL : List UInt8} {L : List Value} (h : BareI w W a b c g SL L) (hb : Below W.heap.size W W') : BareI w W' a b c g SL L :=
  ⟨below_after h.below hb, h.lo, h.sup.below hb h.sup.lt, h.one.below hb h.one.lt, h.five.below hb h.five.lt, h.img.below hb h.img.lt, h.len⟩
theorem BareI.copy {w W W' : World} {a b c g off : Nat} {SL : List UInt8} {L cs : List Value} (h : BareI w W a b c g SL L) (hg : Hid (W'.heap[g]? = some (.cells (splice L off cs).toArray 5 (0, 0)))) (hb : Below g W W') (hf : off + cs.length ≤ 12288) :
    BareI w W' a b c g SL (splice L off cs) :=
  ⟨h.below.trans (hb.mono h.lo.1), h.lo, h.sup.below hb h.lo.2.1, h.one.below hb h.lo.2.2.1, h.five.below hb h.lo.2.2.2, hg.out, by rw [length_splice _ _ _ (by rw [h.len]; exact hf)]; exact h.len⟩
structure BaF (a b c g : Nat) (A : Act) : Prop where
  ds : A.defers = []
  ts : A.tmps.size = 52
  a1 : A.tmps.getD 1 undef = .pointer (some ⟨a, 0, none⟩)
  a3 : A.tmps.getD 3 undef = .pointer (some ⟨b, 0, none⟩)
  a5 : A.tmps.getD 5 undef = .pointer (some ⟨c, 0, none⟩)
  a7 : A.tmps.getD 7 undef = .slice (some ⟨g, 0, none⟩) 12288 12288
theorem frame52 {w : World} {a b c g : Nat} {SL : List UInt8} {L : List Value} {Q : Exit → Act → World → Prop}
    (h : ∀ (v : Nat → Value) (W : World), BareI w W a b c g SL L → Q .normal { tmps := #[v 0, .pointer (some ⟨a, 0, none⟩), v 2, .pointer (some ⟨b, 0, none⟩), v 4, .pointer (some ⟨c, 0, none⟩), v 6, .slice (some ⟨g, 0, none⟩) 12288 12288, v 8, v 9, v 10, v 11, v 12, v 13, v 14, v 15, v 16, v 17, v 18, v 19, v 20, v 21, v 22, v 23, v 24, v 25, v 26, v 27, v 28, v 29, v 30, v 31, v 32, v 33, v 34, v 35, v 36, v 37, v 38, v 39, v 40, v 41, v 42, v 43, v 44, v 45, v 46, v 47, v 48, v 49, v 50, v 51], defers := [] } W) :
    ∀ (e : Exit) (A : Act) (W : World), regPost (fun a' W => BaF a b c g a' ∧ BareI w W a b c g SL L) e A W → Q e A W := by
  intro e A W hr
  cases e with
  | panic ch => exact hr.elim
  | exit id => exact hr.elim
  | goto t => exact hr.elim
  | ret => exact hr.elim
  | outgrown => exact hr.elim
  | normal =>
    obtain ⟨hf, hA⟩ := hr
    obtain ⟨t, ds⟩ := A
    obtain ⟨hds, hts, h1, h3, h5, h7⟩ := hf
    have hds : ds = [] := hds
    subst hds
    have htl := arr_eta 52 t hts
    simp only at h1 h3 h5 h7
    generalize hv : (fun i => t.getD i undef) = v at htl
    have hv1 : v 1 = .pointer (some ⟨a, 0, none⟩) := by rw [← hv]; exact h1
    have hv3 : v 3 = .pointer (some ⟨b, 0, none⟩) := by rw [← hv]; exact h3
    have hv5 : v 5 = .pointer (some ⟨c, 0, none⟩) := by rw [← hv]; exact h5
    have hv7 : v 7 = .slice (some ⟨g, 0, none⟩) 12288 12288 := by rw [← hv]; exact h7
    have htl2 : t = #[v 0, v 1, v 2, v 3, v 4, v 5, v 6, v 7, v 8, v 9, v 10, v 11, v 12, v 13, v 14, v 15, v 16, v 17, v 18, v 19, v 20, v 21, v 22, v 23, v 24, v 25, v 26, v 27, v 28, v 29, v 30, v 31, v 32, v 33, v 34, v 35, v 36, v 37, v 38, v 39, v 40, v 41, v 42, v 43, v 44, v 45, v 46, v 47, v 48, v 49, v 50, v 51] := htl
    rw [hv1, hv3, hv5, hv7] at htl2
    rw [htl2]
    exact h v W hA
theorem bytes_row (x : Int) (h0 : 0 ≤ x) (h1 : x < 18446744073709551616) (W : World) (b : Nat) (hr : Row W b 46 [.int .u64 x, .int .u64 0, .int .u64 0]) :
    Calls Tryz.prog 10 #[.slice (some ⟨b, 0, none⟩) 3 3] W fun e w' => ∃ v, e = .returned v ∧ w'.ownsRow W.heap.size 5 1 v 24 ((wordsB [x, 0, 0]).map byteV) ∧ Below W.heap.size W w' := by
  refine call_bytes3 b [x, 0, 0] rfl W ?_ hr.lt
  intro j y hj
  match j, hj with
  | 0, hj => cases hj; exact ⟨h0, h1, hr.cell 0⟩
  | 1, hj => cases hj; exact ⟨by decide, by decide, hr.cell 1⟩
  | 2, hj => cases hj; exact ⟨by decide, by decide, hr.cell 2⟩
  | j + 3, hj => cases hj
set_option maxHeartbeats 8000000 in
theorem call_bare (w : World) (hst : Stp w) :
    Calls Tryz.prog 5 #[] w fun e w' => ∃ g, e = .returned (.slice (some ⟨g, 0, none⟩) 12288 12288) ∧ Row w' g 5 (imgL.map byteV) ∧ Below w.heap.size w w' := by
  obtain ⟨i0, hi, hz0, hz1, hz2⟩ := info_parts info5
  obtain ⟨L0, hL0⟩ : ∃ L, L = List.replicate 12288 (Value.int .u8 0) := ⟨_, rfl⟩
  have hmk : ∀ u : World, (Instr.makeSlice 23 (.int .i64 12288) (.int .i64 12288)).run Tryz.prog u =
      .ok (.slice (some ⟨u.heap.size, 0, none⟩) 12288 12288) (u.alloc (.cells L0.toArray 5)) := fun u => by
    have h := run_make (P := Tryz.prog) u 23 5 i0 (.int .u8 0) Tryz.underlying23 hi hz0 .i64 .i64 12288 12288 (by omega) (by omega) (by rw [hz2]; omega) (by omega)
    rw [hL0]
    simpa [hz1, Value.cells, madeOne] using h
  have HST := Lib.hid hst
  have HL0 := Lib.hid hL0
  have H8 := Lib.hid (call_packSuper w hst)
  have HSl : Hid (supL.length = 64) := Lib.hid (closeB_len _ (by rfl))
  obtain ⟨SL, hSL⟩ : ∃ L, L = supL := ⟨_, rfl⟩
  have HSL := Lib.hid hSL
  rw [← hSL] at HSl H8
  obtain ⟨B1, hB1⟩ : ∃ L, L = wordsB [x1, 0, 0] := ⟨_, rfl⟩
  obtain ⟨B5, hB5⟩ : ∃ L, L = wordsB [x5, 0, 0] := ⟨_, rfl⟩
  have HK1 := Lib.hid (bytes_row x1 (by decide) (by decide))
  have HK5 := Lib.hid (bytes_row x5 (by decide) (by decide))
  have HN1 : Hid (B1.length = 24) := Lib.hid (by rw [hB1]; rfl)
  have HN5 : Hid (B5.length = 24) := Lib.hid (by rw [hB5]; rfl)
  rw [← hB1] at HK1
  rw [← hB5] at HK5
  have HE1 := Lib.hid hB1
  have HE5 := Lib.hid hB5
  clear hst hL0 hSL hB1 hB5
  go_enter Tryz.func5, Tryz.ntmps5
  go_wp2_with (first
    | (go_at_call 8; refine H8.out.mono ?_; rintro e w1 ⟨rfl, hb1⟩; have HB1 := Lib.hid hb1; clear hb1; have R40 := Lib.hid (row_setRow w1 40 zer64.toArray (SL.map byteV)); have HU1 := Lib.hid (below_setRow (HB1.out.alloc HB1.out.size (.cells zer64.toArray 40)) HB1.out.size (SL.map byteV).toArray))
    | (refine wpl_store (Row.new w1 40 zer64) rfl 40 _ _ rfl (SL.map byteV) rfl rfl 64 (by rfl) (by rw [List.length_map]; exact HSl.out) (one_bytes _) (by kernel_rfl) ?_)
    | (go_at_call 9; have hg := HB1.out; clear hg; refine (call_packSlot 1 2048 x1 _ (by decide) (by decide) rfl seal_x1 (HST.out.below HU1.out)).mono ?_; rintro e w2 ⟨rfl, hb2⟩; have Q40 := Lib.hid (R40.out.below hb2 R40.out.lt); have HB2 := Lib.hid (below_after HU1.out hb2); clear hb2 R40 HU1 HB1; have R46 := Lib.hid (Row.new w2 46 [.int .u64 x1, .int .u64 0, .int .u64 0]); have HU2 := Lib.hid (below_after HB2.out (below_alloc1 w2 (.cells #[.int .u64 x1, .int .u64 0, .int .u64 0] 46))))
    | (go_at_call 9; have hg := HB2.out; clear hg; refine (call_packSlot 5 2304 x5 _ (by decide) (by decide) rfl seal_x5 (HST.out.below HU2.out)).mono ?_; rintro e w3 ⟨rfl, hb3⟩; have P40 := Lib.hid ((Q40.out.alloc _).below hb3 (Q40.out.alloc _).lt); have P46 := Lib.hid (R46.out.below hb3 R46.out.lt); have HB3 := Lib.hid (below_after HU2.out hb3); clear hb3 Q40 R46 HU2 HB2; have hba := below_alloc2 w3 (.cells #[.int .u64 x5, .int .u64 0, .int .u64 0] 46) (.cells L0.toArray 5); have S40 := Lib.hid (P40.out.below hba P40.out.lt); have S46 := Lib.hid (P46.out.below hba P46.out.lt); have T46 := Lib.hid ((Row.new w3 46 [.int .u64 x5, .int .u64 0, .int .u64 0]).below (below_alloc1 _ (.cells L0.toArray 5)) (by simp)); have SG := Lib.hid (row_new1 w3 (.cells #[.int .u64 x5, .int .u64 0, .int .u64 0] 46) 5 L0); have HB4 := Lib.hid (below_after HB3.out hba); have hlo : Hid (w.heap.size ≤ w3.heap.size ∧ w1.heap.size < w3.heap.size ∧ w2.heap.size < w3.heap.size) := Lib.hid ⟨HB3.out.size, P40.out.lt, P46.out.lt⟩; clear hba P40 P46 HB3)
    | (have hg := S40.out; clear hg; refine wpList_copy_splice rfl _ _ 23 23 rfl 5 Tryz.underlying23 (by kernel_rfl) _ _ _ _ _ _ rfl rfl (w3.heap.size + 1) 0 L0 5 SG.out (SL.map byteV) (by rw [List.length_map, HSl.out]; rfl) (fun _ => ⟨rfl, _, rfl, S40.out.cells⟩) (by rw [List.length_map, HSl.out, HL0.out, List.length_replicate]; decide) (one_bytes _) (w3.heap.size + 1) _ (Below.refl _ _) (Nat.le_refl _) ?_; intro w4 HG4 hB4))
  have H4 := Lib.hid (show BareI w w4 w1.heap.size w2.heap.size w3.heap.size (w3.heap.size + 1) SL (splice L0 0 (SL.map byteV)) from BareI.copy ⟨HB4.out, ⟨by have := hlo.out; omega, by have := hlo.out; omega, by have := hlo.out; omega, Nat.lt_succ_self _⟩, S40.out, S46.out, T46.out, SG.out, by rw [HL0.out, List.length_replicate]⟩ HG4 hB4 (by rw [List.length_map, HSl.out]; decide))
  clear hB4 HG4 SG T46 S46 S40 HB4 hlo H8 hmk hi hz0 hz1 hz2
  generalize w3.heap.size + 1 = g at *
  generalize w3.heap.size = c at *
  generalize w2.heap.size = b at *
  generalize w1.heap.size = a at *
  have HD4 := Lib.hid (H4.out.under (below_drew _))
  clear H4
  refine wp_mono (Q := regPost fun a' W => BaF a b c g a' ∧ BareI w W a b c g SL (splice (splice L0 0 (SL.map byteV)) 64 (SL.map byteV))) ?_ (frame52 ?_)
  · go_region_law (refine step_copy_splice rfl (.tmp 38) (.tmp 39) 23 23 rfl 5 Tryz.underlying23 (by kernel_rfl) _ _ _ _ _ _ rfl rfl g 64 (splice L0 0 (SL.map byteV)) 5 HD4.out.img (SL.map byteV) (by rw [List.length_map, HSl.out]; rfl) (fun _ => ⟨rfl, _, rfl, HD4.out.sup.cells⟩) (by rw [List.length_map, HSl.out, HD4.out.len]; decide) (one_bytes _) g _ (Below.refl _ _) (Nat.le_refl _) ?_; intro w5 HG5 hB5; have H5 := Lib.hid (HD4.out.copy HG5 hB5 (by rw [List.length_map, HSl.out]; decide)); clear HG5 hB5)
    all_goals exact ⟨⟨rfl, rfl, rfl, rfl, rfl, rfl⟩, H5.out⟩
  intro v5 w5 h5
  have HD5 := Lib.hid (h5.under (below_drew _))
  clear h5 HD4
  go_wp2
  refine wp_mono (Q := regPost fun a' W => BaF a b c g a' ∧ BareI w W a b c g SL (splice (splice (splice L0 0 (SL.map byteV)) 64 (SL.map byteV)) 2048 (B1.map byteV))) ?_ (frame52 ?_)
  · go_region_law (first
      | (refine step_call1 (by rfl) _ 52 10 (by rfl) _ (by rfl) (enters_of Tryz.func10 (by kernel_rfl) rfl) ((HK1.out _ b HD5.out.one).mono ?_); rintro e w6 ⟨v6, rfl, ho6, hb6⟩; obtain ⟨gb, cb, rfl, _, _, hcb⟩ := own_cells ho6 (by decide); refine ⟨_, rfl, ?_⟩; have HC6 := Lib.hid hcb; have H6 := Lib.hid (HD5.out.under hb6); clear ho6 hb6 hcb)
      | (refine step_copy_splice rfl (.tmp 42) (.tmp 44) 23 23 rfl 5 Tryz.underlying23 (by kernel_rfl) _ _ _ _ _ _ rfl rfl g 2048 (splice (splice L0 0 (SL.map byteV)) 64 (SL.map byteV)) 5 H6.out.img (B1.map byteV) (by rw [List.length_map, HN1.out]; rfl) (fun _ => ⟨rfl, _, rfl, fun j u hj => by rw [add0]; exact HC6.out j u hj⟩) (by rw [List.length_map, HN1.out, H6.out.len]; decide) (one_bytes _) g _ (Below.refl _ _) (Nat.le_refl _) ?_; intro w7 HG7 hB7; have H7 := Lib.hid (H6.out.copy HG7 hB7 (by rw [List.length_map, HN1.out]; decide)); clear HG7 hB7))
    all_goals exact ⟨⟨rfl, rfl, rfl, rfl, rfl, rfl⟩, H7.out⟩
  intro v6 w6 h6
  have HD6 := Lib.hid (h6.under (below_drew _))
  have HE15 := Lib.hid h6
  clear h6 HD5
  go_wp2
  refine wp_mono (Q := regPost fun a' W => BaF a b c g a' ∧ BareI w W a b c g SL (splice (splice (splice (splice L0 0 (SL.map byteV)) 64 (SL.map byteV)) 2048 (B1.map byteV)) 2304 (B5.map byteV))) ?_ (frame52 ?_)
  · go_region_law (first
      | (refine step_call1 (by rfl) _ 52 10 (by rfl) _ (by rfl) (enters_of Tryz.func10 (by kernel_rfl) rfl) ((HK5.out _ c HD6.out.five).mono ?_); rintro e w6 ⟨v6, rfl, ho6, hb6⟩; obtain ⟨gb, cb, rfl, _, _, hcb⟩ := own_cells ho6 (by decide); refine ⟨_, rfl, ?_⟩; have HC6 := Lib.hid hcb; have H6 := Lib.hid (HD6.out.under hb6); clear ho6 hb6 hcb)
      | (refine step_copy_splice rfl (.tmp 47) (.tmp 49) 23 23 rfl 5 Tryz.underlying23 (by kernel_rfl) _ _ _ _ _ _ rfl rfl g 2304 (splice (splice (splice L0 0 (SL.map byteV)) 64 (SL.map byteV)) 2048 (B1.map byteV)) 5 H6.out.img (B5.map byteV) (by rw [List.length_map, HN5.out]; rfl) (fun _ => ⟨rfl, _, rfl, fun j u hj => by rw [add0]; exact HC6.out j u hj⟩) (by rw [List.length_map, HN5.out, H6.out.len]; decide) (one_bytes _) g _ (Below.refl _ _) (Nat.le_refl _) ?_; intro w7 HG7 hB7; have H7 := Lib.hid (H6.out.copy HG7 hB7 (by rw [List.length_map, HN5.out]; decide)); clear HG7 hB7))
    all_goals exact ⟨⟨rfl, rfl, rfl, rfl, rfl, rfl⟩, H7.out⟩
  intro v7 w7 h7
  have HD7 := Lib.hid (h7.under (below_drew _))
  have HE16 := Lib.hid h7
  clear h7 HD6
  go_wp2
  go_ret
  have hi := HE16.out.img
  rw [HL0.out, HSL.out, HE1.out, HE5.out, img_cells] at hi
  exact ⟨g, rfl, hi, HE16.out.below⟩
end Go.Proofs.YtgoogbakhhbnhaaGreatDoor.Ar
