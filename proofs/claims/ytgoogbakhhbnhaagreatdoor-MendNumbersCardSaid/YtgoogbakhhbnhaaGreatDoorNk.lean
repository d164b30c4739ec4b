/-
  Mend: Rescue of the one image.
-/
import Derived.Test.YtgoogbakhhbnhaaGreatDoorNj
set_option linter.unusedVariables false
set_option linter.unusedSimpArgs false
set_option maxRecDepth 100000
namespace Go.Proofs.YtgoogbakhhbnhaaGreatDoor.Ar
open Go.RowKit Go.Sort Go.Lib Go.Proofs.YtgoogbakhhbnhaaGreatDoor.Rs
theorem own_le {w : World} {b b' e size n : Nat} {v : Value} {xs : List Value} (h : w.ownsRow b e size v n xs) (hb : b' ≤ b) : w.ownsRow b' e size v n xs := by
  refine ⟨h.1, ?_⟩
  rcases h.2 with h1 | ⟨g, cap, cur, h1, h2, h3⟩
  · exact .inl h1
  · exact .inr ⟨g, cap, cur, h1, Nat.le_trans hb h2, h3⟩
def workL (R mm mt : Nat) : List Value := [.pointer (some ⟨R, 0, none⟩), .map (some mm), .map (some mt), .slice none 0 0, .slice none 0 0]
theorem MaxL.drew {w : World} (h : MaxL w) : MaxL w.drew := h
theorem WkI.start {N R m mo : Nat} {w1 : World} (h : ScanOk w1 R m mo) (hN : N ≤ w1.heap.size) :
    WkI N (((w1.alloc (.map #[] 0)).alloc (.map #[] 0)).alloc (.cells (workL R w1.heap.size (w1.heap.size + 1)).toArray 76)) (w1.heap.size + 1 + 1) R m mo w1.heap.size (w1.heap.size + 1) [] 0 0 [] [] ∧
    MapI (((w1.alloc (.map #[] 0)).alloc (.map #[] 0)).alloc (.cells (workL R w1.heap.size (w1.heap.size + 1)).toArray 76)) (w1.heap.size + 1) [] ∧
    Below w1.heap.size w1 (((w1.alloc (.map #[] 0)).alloc (.map #[] 0)).alloc (.cells (workL R w1.heap.size (w1.heap.size + 1)).toArray 76)) := by
  have b1 := below_alloc1 w1 (.map #[] 0)
  have b2 := below_alloc1 (w1.alloc (.map #[] 0)) (.map #[] 0)
  have b3 := below_alloc1 ((w1.alloc (.map #[] 0)).alloc (.map #[] 0)) (.cells (workL R w1.heap.size (w1.heap.size + 1)).toArray 76)
  have hb := below_after (below_after b1 b2) b3
  have m1 := (MapI.made w1).below (below_after b2 b3) (MapI.made w1).lt
  have m2 := (MapI.made (w1.alloc (.map #[] 0))).below b3 (MapI.made _).lt
  have r3 := Row.new ((w1.alloc (.map #[] 0)).alloc (.map #[] 0)) 76 (workL R w1.heap.size (w1.heap.size + 1))
  rw [show ((w1.alloc (.map #[] 0)).alloc (.map #[] 0)).heap.size = w1.heap.size + 1 + 1 by rw [alloc_size, alloc_size]] at r3
  rw [show (w1.alloc (.map #[] 0)).heap.size = w1.heap.size + 1 by rw [alloc_size]] at m2
  exact ⟨⟨h.below hb, ⟨_, _, r3, World.ownsRow_nil _ _ _ _, World.ownsRow_nil _ _ _ _⟩, m1, ⟨by omega, hN, by omega⟩⟩, m2, hb⟩
set_option maxHeartbeats 8000000 in
theorem call_rescue (l : List UInt8) (hl : ImgE l) (bb oo cc : Nat) (w : World) (hv : Sl RByte 1 w (.slice (some ⟨bb, oo, none⟩) 12288 cc) l) (hc : 12288 ≤ cc ∧ cc ≤ 1000000000) (hst : Stp w) (hM : MaxL w) :
    Calls Tryz.prog 7 #[.slice (some ⟨bb, oo, none⟩) 12288 cc] w fun e w' => ∃ vm vl, e = .returned (.tuple #[vm, vl]) ∧ w'.ownsRow w.heap.size 38 5 vm 2 (memM 2) ∧ w'.ownsRow w.heap.size 35 3 vl 1 [.int .i64 114, .int .i64 5, .string ⟨#[]⟩] ∧ Below w.heap.size w w' := by
  have HLk := Lib.hid (call_look l hl bb oo cc w hv hc hst)
  have HM := Lib.hid hM
  have hmm := @run_makeMap Tryz.prog
  clear hl hv hc hst hM
  go_enter Tryz.func7, Tryz.ntmps7
  go_wp2_with (go_at_call 11; refine HLk.out.mono ?_; rintro e w1 ⟨R, m, mo, vo, rfl, hr, hm, hmo, hlo, hb⟩; have hS : ScanOk w1 R m mo := ⟨⟨vo, hr⟩, hm, hmo⟩; have hst := WkI.start (N := w.heap.size) hS hb.size; have HW := Lib.hid hst.1; have HT := Lib.hid hst.2.1; have HB := Lib.hid (below_after hb hst.2.2); have hne : Hid (w1.heap.size ≠ w1.heap.size + 1 ∧ m ≠ w1.heap.size ∧ mo ≠ w1.heap.size ∧ m ≠ w1.heap.size + 1 ∧ mo ≠ w1.heap.size + 1) := Lib.hid (by have := hm.lt; have := hmo.lt; omega); have s5 := HW.out.scan.c5; have s7 := HW.out.scan.c7; clear HLk hr hm hmo hb hlo hS hst; simp only [workL] at s5 s7 HW HT HB)
  generalize (((w1.alloc (.map #[] 0)).alloc (.map #[] 0)).alloc (.cells #[.pointer (some ⟨R, 0, none⟩), .map (some w1.heap.size), .map (some (w1.heap.size + 1)), .slice none 0 0, .slice none 0 0] 76)) = W2 at *
  generalize w1.heap.size = D at *
  go_loopw [37] (fun iv wz => iv = .int .i64 0 ∧ wz = W2) (fun _ _ => 0)
  case atStart => exact ⟨rfl, rfl⟩
  case round =>
    obtain ⟨rfl, rfl⟩ := hrel
    clear s5
    go_wp2_with (first
      | (go_at_call 18; refine (call_keep HW.out).mono ?_; rintro e w3 ⟨⟨v3, rfl⟩, hb3⟩; have HW3 := Lib.hid (HW.out.under hb3); have HT3 := Lib.hid (HT.out.below hb3 HT.out.lt); have HB3 := Lib.hid (below_after HB.out hb3); clear HW HT HB hb3 s7)
      | (go_at_call 19; refine (call_isRoot1 HW3.out).mono ?_; rintro e w4 ⟨rfl, rfl⟩)
      | (go_at_call 20; refine (call_down 1 _ (.inl rfl) HW3.out).mono ?_; rintro e w5 ⟨⟨v5, rfl⟩, hb5⟩; have HW5 := Lib.hid (HW3.out.under hb5); have HT5 := Lib.hid (HT3.out.below hb5 HT3.out.lt); have HB5 := Lib.hid (below_after HB3.out hb5); clear HW3 HT3 HB3 hb5)
      | (go_at_call 21; refine (call_find_ HB5.out.size HW5.out HT5.out hne.out).mono ?_; rintro e w6 ⟨⟨v6, rfl⟩, hw6, hb6⟩; have HW6 := Lib.hid hw6; have HB6 := Lib.hid (HB5.out.trans hb6); clear HW5 HT5 HB5 hb6 hw6))
    obtain ⟨vl, vp, h1, h2, h3⟩ := HW6.out.ex
    have HL := Lib.hid h2
    have HP := Lib.hid h1
    have p3 := (show w6.cell? ⟨D + 1 + 1, 3, none⟩ = some vl from h1.cell 3)
    have HM6 := Lib.hid (HM.out.below HB6.out).drew
    clear h1 h2 h3
    refine wp_mono (Q := goodEnd _) ?_ goodEnd.le
    go_region_law (first
      | (refine step_call1 (by rfl) _ 72 22 (by rfl) _ (by rfl) (enters_of Tryz.func22 (by kernel_rfl) rfl) ((call_members (HW6.out.under (below_drew _)) HM6.out).mono ?_); rintro e x1 ⟨vm, rfl, hm1, hb1⟩; refine ⟨_, rfl, ?_⟩; have HX := Lib.hid hm1; have HXb := Lib.hid hb1; have p3 := (show x1.cell? ⟨D + 1 + 1, 3, none⟩ = some vl from (HP.out.drew.below hb1 HP.out.drew.lt).cell 3); clear hm1 hb1))
    all_goals refine goodEnd.of ?_
    all_goals go_wp2
    all_goals go_ret2
    all_goals exact ⟨vm, vl, rfl, own_le HX.out HB6.out.size, own_below (w := w6.drew) HL.out HXb.out, below_after (w := w) HB6.out.drew HXb.out⟩
end Go.Proofs.YtgoogbakhhbnhaaGreatDoor.Ar
