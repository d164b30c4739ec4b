
/- Archive: the header read. -/
import Derived.Test.YtlecpjfggoehdaaGreatDoorOpC
import Derived.Test.YtlecpjfggoehdaaGreatDoorArY
set_option linter.unusedVariables false
set_option linter.unusedSimpArgs false
set_option maxRecDepth 100000
namespace Go.Proofs.YtlecpjfggoehdaaGreatDoor.Ar
open Go.RowKit Go.Sort Go.Lib Go.Proofs.YtlecpjfggoehdaaGreatDoor.Rs

theorem addN (B o j : Nat) : (⟨B, o, none⟩ : Addr).add j = ⟨B, o + j, none⟩ := by unfold Addr.add; split <;> simp_all
def hdB (b : List UInt8) : List UInt8 := closeB (b.take 12 ++ List.replicate 52 0)
def headOk (b : List UInt8) : Bool := decide (64 ≤ b.length) && (decide (hdB b = b.take 64) && decide (txt b 0 8 = magicB))
theorem headOk_short {b : List UInt8} (h : ¬ 64 ≤ b.length) : headOk b = false := by simp [headOk, h]
theorem headOk_line {b : List UInt8} (h : ¬ hdB b = b.take 64) : headOk b = false := by simp [headOk, h]
theorem headOk_magic {b : List UInt8} (h : ¬ txt b 0 8 = magicB) : headOk b = false := by simp [headOk, h]
theorem headOk_yes {b : List UInt8} (h : 64 ≤ b.length) (h2 : hdB b = b.take 64) (h3 : txt b 0 8 = magicB) : headOk b = true := by rw [headOk, decide_eq_true h, decide_eq_true h2, decide_eq_true h3]; rfl
theorem hd_len (b : List UInt8) (h : 64 ≤ b.length) : (b.take 12 ++ List.replicate 52 (0 : UInt8)).length = 64 := by rw [List.length_append, List.length_take, List.length_replicate]; omega
theorem hdB_len (b : List UInt8) (h : 64 ≤ b.length) : (hdB b).length = 64 := closeB_len _ (hd_len b h)
theorem hd_splice (b : List UInt8) (h : 64 ≤ b.length) : splice (List.replicate 64 (Value.int .u8 0)) 0 ((b.take 12).map byteV) = (b.take 12 ++ List.replicate 52 (0 : UInt8)).map byteV := by
  have hl : (b.take 12).length = 12 := by rw [List.length_take]; omega
  generalize b.take 12 = x at hl ⊢
  rw [splice, List.map_append]
  rw [List.length_map, hl]
  rfl

theorem grown_set2 {w w1 : World} {R : Nat} (h : w.grownBy w1 (some R)) (j : Nat) (v : Value) : w.grownBy (w1.setCell ⟨R, j, none⟩ v) (some R) := grown_trans h (grown_set (Below.refl _ _) j v)

def HeadPost (w : World) (R : Nat) (vb : Value) (b : List UInt8) (e : Ending) (w' : World) : Prop :=
  w.grownBy w' (some R) ∧ if headOk b = true then e = .returned (.int .i64 (numAt b 8)) ∧ Rd w' R vb b 64 else e = .panicked giveUp
theorem HeadPost.no {w : World} {R : Nat} {vb : Value} {b : List UInt8} {w' : World} (h : headOk b = false) (hg : w.grownBy w' (some R)) : HeadPost w R vb b (.panicked giveUp) w' := ⟨hg, by rw [if_neg (by rw [h]; simp)]⟩
theorem HeadPost.yes {w : World} {R : Nat} {vb : Value} {b : List UInt8} {w' : World} (h : headOk b = true) (hg : w.grownBy w' (some R)) (hr : Rd w' R vb b 64) : HeadPost w R vb b (.returned (.int .i64 (numAt b 8))) w' := ⟨hg, by rw [if_pos h]; exact ⟨rfl, hr⟩⟩

set_option maxHeartbeats 8000000 in
theorem call_head (R : Nat) (vb : Value) (b : List UInt8) (w : World) (hr : Rd w R vb b 0) (hp : Stp w) :
    Calls Tryz.prog 53 #[.pointer (some ⟨R, 0, none⟩)] w (HeadPost w R vb b) := by
  by_cases h64 : ¬ 64 ≤ b.length
  · have HNo := Lib.hid (headOk_short h64)
    obtain ⟨a, bb, oo, cc, hvb, _⟩ := hr.bytes
    have r0 : w.cell? ⟨R, 0, none⟩ = some (.slice a b.length cc) := by rw [← hvb]; exact hr.row.cell 0
    have n0 : decide ((b.length : Int) < 64) = true := decide_eq_true (by omega)
    have hbl := hr.len
    clear hr hvb
    go_enter Tryz.func53, Tryz.ntmps53
    go_wp2_with (go_at_call 34; refine (call_fail _ _).mono ?_; rintro e w8 ⟨rfl, rfl⟩)
    exact ⟨rfl, HeadPost.no HNo.out (grown_of_below (Below.refl _ _) _)⟩
  · have h64 : 64 ≤ b.length := by omega
    have h0 : 0 < b.length := by omega
    have hbl := hr.len
    have hcap := hr.cap
    obtain ⟨bb, oo, cc, hvb, hby⟩ : ∃ bb oo cc, vb = .slice (some ⟨bb, oo, none⟩) b.length cc ∧ ∀ j x, b[j]? = some x → RByte w bb (oo + j * 1) x := by
      obtain ⟨a, bb, oo, cc, e, ha, hc⟩ := hr.bytes
      rw [ha h0] at e
      exact ⟨bb, oo, cc, e, hc⟩
    have HVb := Lib.hid hvb
    have HBy := Lib.hid hby
    have hcc : b.length ≤ cc := hcap _ _ _ hvb
    have HR0 := Lib.hid hr
    have HP := Lib.hid hp
    have HRl := Lib.hid hr.row.lt
    have h12 : ((b.take 12).map byteV).length = Nat.min 12 64 := by rw [List.length_map, List.length_take]; show _ = 12; omega
    clear hr hby hcap hp hvb
    obtain ⟨m, hm⟩ : ∃ m, b.length = m := ⟨_, rfl⟩
    have HBl := Lib.hid hm
    rw [hm] at hbl hcc h64 HVb
    have n0 : decide ((m : Int) < 64) = false := decide_eq_false (by omega)
    have n1 : (12 : Int) ≤ cc := by omega
    have n2 : (64 : Int) ≤ cc := by omega
    have n3 : 12 ≤ cc := by omega
    have n4 : 64 ≤ cc := by omega
    have q0 : w.cell? ⟨R, 0, none⟩ = some (.slice (some ⟨bb, oo, none⟩) m cc) := by rw [← HVb.out]; exact HR0.out.row.cell 0
    clear hm h0
    go_enter Tryz.func53, Tryz.ntmps53
    go_wp2_with fail
    generalize hwA : w.alloc _ = wA
    have hRA : Row wA w.heap.size 53 (List.replicate 64 (.int .u8 0)) := by rw [← hwA]; exact Row.new w 53 (List.replicate 64 (.int .u8 0))
    have hbA : Below w.heap.size w wA := by rw [← hwA]; exact below_alloc1 w _
    have r0 : wA.cell? ⟨R, 0, none⟩ = some (.slice (some ⟨bb, oo, none⟩) m cc) := by rw [← hwA]; exact keeps_alloc w _ _ _ _ q0
    have HT : Hid (∀ j v, ((b.take 12).map byteV)[j]? = some v → wA.cell? ⟨bb, oo + j, none⟩ = some v) := Lib.hid (fun j v hj => by
      rw [← hwA]
      rw [List.getElem?_map, List.getElem?_take] at hj
      split at hj
      · obtain ⟨x, hx, rfl⟩ := Option.map_eq_some_iff.1 hj
        have := HBy.out j x hx
        rw [Nat.mul_one] at this
        exact keeps_alloc _ _ _ _ _ this
      · cases hj)
    have HRA := Lib.hid hRA
    have HBA := Lib.hid hbA
    clear hwA hRA hbA
    obtain ⟨A, hA⟩ : ∃ n, w.heap.size = n := ⟨_, rfl⟩
    have HA := Lib.hid hA
    rw [hA] at HRA HBA ⊢
    clear hA
    go_region_law ((refine step_copy_splice (by rfl) _ _ 22 22 (by rfl) 5 Tryz.underlying22 (by kernel_rfl) (some ⟨A, 0, none⟩) (some ⟨bb, oo, none⟩) 64 64 12 cc (by rfl) (by rfl) A 0 (List.replicate 64 (.int .u8 0)) 53 (show wA.drew.heap[A]? = _ from HRA.out) ((b.take 12).map byteV) h12 (fun _ => ⟨rfl, ⟨bb, oo, none⟩, rfl, fun j v hj => by rw [addN]; exact HT.out j v hj⟩) (by rw [h12]; show 0 + 12 ≤ 64; omega) (one_bytes _) A w HBA.out.drew (Nat.le_refl _) ?_; intro w3 hg3 hb3; have HB3 := Lib.hid hb3; clear hb3))
    have HR3 : Hid (Row w3 A 53 ((b.take 12 ++ List.replicate 52 (0 : UInt8)).map byteV)) := Lib.hid (by have h := hg3.out; rw [hd_splice b (by rw [HBl.out]; exact h64)] at h; exact h)
    have hcl : hdB b = closeB (b.take 12 ++ List.replicate 52 (0 : UInt8)) := rfl
    have hLL := hd_len b (by rw [HBl.out]; exact h64)
    generalize hL : b.take 12 ++ List.replicate 52 (0 : UInt8) = L at HR3 hcl hLL
    have hCL := closeB_len L hLL
    clear hg3 hL HT HRA HBA r0 h12
    have HCl := Lib.hid hcl
    go_wp2_with (first
      | refine wpl_load HR3.out rfl 53 _ rfl rfl _ 64 (by simpa using hLL) Tryz.underlying53 rfl (by kernel_rfl) ?_
      | (go_at_call 21; refine (call_close L hLL _ (HP.out.below (HB3.out.mono (by rw [HA.out]; exact Nat.le_refl _)))).mono ?_; rintro e w4 ⟨rfl, hb4⟩; have HR4 := Lib.hid (HR3.out.below hb4 HR3.out.lt); have HB4 := Lib.hid (HB3.out.trans (hb4.mono (Nat.le_of_lt HR3.out.lt))); clear hb4)
      | (refine wpl_storeA HR4.out rfl 53 _ _ rfl ((closeB L).map byteV) rfl rfl 64 (by simpa using hLL) (by simpa using hCL) (one_bytes _) (by kernel_rfl) ?_
         intro w5 hr5 hk5 hs5
         have HR5 := Lib.hid hr5
         have HB5 := Lib.hid (hk5 _ _ HB4.out (Nat.le_refl A))
         clear hr5 hk5 hs5))
    have hput : ∀ a : Act, a.put none undef = a := fun _ => rfl
    rw [hput]
    clear hput
    have HG5 := Lib.hid (grown_of_below (HB5.out.mono (by rw [HA.out]; exact Nat.le_refl _) : Below w.heap.size w w5) (some R))
    have hRd5 : Rd w5 R vb b 0 := HR0.out.below (HB5.out.mono (by rw [HA.out]; exact Nat.le_refl _))
    have HRd5 := Lib.hid hRd5
    have e0 : w5.cell? ⟨R, 0, none⟩ = some (.slice (some ⟨bb, oo, none⟩) m cc) := by rw [← HVb.out]; exact hRd5.row.cell 0
    haveI : Nonempty (Wd (Below w5.heap.size w5)) := ⟨⟨_, Below.refl _ _⟩⟩
    have HBz : Hid (∀ j x, b[j]? = some x → RByte w5 bb (oo + j * 1) x) := Lib.hid (fun j x hj => RByte.stays _ _ (keeps_below (HB5.out.mono (by rw [HA.out]; exact Nat.le_refl _) : Below w.heap.size w w5)) _ _ _ (HBy.out j x hj))
    have HK1 : Hid (∀ y : Wd (Below w5.heap.size w5), (convert 22 9 (.slice (some ⟨A, 0, none⟩) 64 64)).run Tryz.prog y.val = .ok (.string (bs (hdB b))) y.val) := Lib.hid (fun y => by
      have h := conv_txt (w := y.val) (B := A) (o := 0) (c := 64) (l := closeB L) (fun j x hj => by
        rw [Nat.zero_add]
        have h := (HR5.out.below y.ok HR5.out.lt).cell j
        rw [List.getElem?_map, hj] at h
        exact h)
      rw [hCL] at h
      rw [HCl.out]
      exact h)
    have HK2 : Hid (∀ y : Wd (Below w5.heap.size w5), (convert 22 9 (.slice (some ⟨bb, oo, none⟩) 64 cc)).run Tryz.prog y.val = .ok (.string (bs (b.take 64))) y.val) := Lib.hid (fun y => by
      have hl : (b.take 64).length = 64 := by rw [List.length_take, HBl.out]; omega
      have h := conv_txt (w := y.val) (B := bb) (o := oo) (c := cc) (l := b.take 64) (fun j x hj => by
        rw [List.getElem?_take] at hj
        split at hj
        · have h := keeps_below y.ok _ _ _ (HBz.out j x hj)
          rw [Nat.mul_one] at h
          exact h
        · cases hj)
      rw [hl] at h
      exact h)
    have HLn : Hid (¬ (bs (hdB b)).toList = (bs (b.take 64)).toList → headOk b = false) := Lib.hid (fun h => headOk_line (fun e => h (by rw [e])))
    have HLy : Hid ((bs (hdB b)).toList = (bs (b.take 64)).toList → hdB b = b.take 64) := Lib.hid (fun h => by rw [bs_toList, bs_toList] at h; exact h)
    clear hcl hLL hCL HR4 HB4 HR3 HB3
    generalize bs (hdB b) = X at HK1 HLn HLy
    generalize bs (b.take 64) = Y at HK2 HLn HLy
    clear hRd5
    by_cases hXY : X.toList = Y.toList
    · replace HLy := Lib.hid (HLy.out hXY)
      have heq : (X.toList == Y.toList) = true := by simpa using hXY
      have k1 : (convert 22 9 (.slice (some ⟨A, 0, none⟩) 64 64)).run Tryz.prog w5.drew = .ok (.string X) w5.drew := HK1.out ⟨w5.drew, (Below.refl _ _).drew⟩
      have k2 : (convert 22 9 (.slice (some ⟨bb, oo, none⟩) 64 cc)).run Tryz.prog w5.drew = .ok (.string Y) w5.drew := HK2.out ⟨w5.drew, (Below.refl _ _).drew⟩
      clear HLn
      by_cases hM : txt b 0 8 = magicB
      · have hq : ((bs (txt b 0 8)).toList == [70, 85, 82, 82, 79, 87, 65, 82]) = true := by rw [bs_toList, hM]; rfl
        have HYes := Lib.hid (headOk_yes (by rw [HBl.out]; exact h64) HLy.out hM)
        clear hM
        go_region_with (go_at_call 73; refine (call_take R vb b 0 8 _ (HRd5.out.below (Below.refl _ _).drew) (by rw [HBl.out]; omega) (by rw [HBl.out]; omega)).mono ?_; rintro e w8 ⟨rfl, hr1, hg1⟩)
        all_goals
          have HG8 := Lib.hid (grown_trans HG5.out (show w5.grownBy w8 (some R) from ⟨hg1.os, by have := hg1.tape; exact this, hg1.output, hg1.size, hg1.block⟩))
          have HR8 := Lib.hid hr1
          clear hr1 hg1 k1 k2
          go_wp2_with (go_at_call 74; refine (call_rdhalf R vb b (0 + 8) _ HR8.out (by rw [HBl.out]; omega)).mono ?_; rintro e w9 ⟨rfl, hr9, hg9⟩; have HG9 := Lib.hid (grown_trans HG8.out hg9); have HR9 := Lib.hid hr9; have f9 := hr9.row.free 1; have e9 := (show _ = some (Value.int .i64 ((0 + 8 + 4 : Nat) : Int)) from hr9.row.cell 1); clear hg9 hr9)
          go_ret
          exact HeadPost.yes HYes.out (grown_set2 HG9.out 1 _) (HR9.out.move (grown_set (Below.refl _ _) 1 _) (by have h := HR9.out.row.set 1 (.int .i64 (64 : Nat)); exact h) (by omega))
      · have hq : ((bs (txt b 0 8)).toList == [70, 85, 82, 82, 79, 87, 65, 82]) = false := by rw [bs_toList]; simpa [magicB] using hM
        have HNo := Lib.hid (headOk_magic hM)
        clear hM
        go_region_with (go_at_call 73; refine (call_take R vb b 0 8 _ (HRd5.out.below (Below.refl _ _).drew) (by rw [HBl.out]; omega) (by rw [HBl.out]; omega)).mono ?_; rintro e w8 ⟨rfl, hr1, hg1⟩)
        all_goals
          have HG8 := Lib.hid (grown_trans HG5.out (show w5.grownBy w8 (some R) from ⟨hg1.os, by have := hg1.tape; exact this, hg1.output, hg1.size, hg1.block⟩))
          clear hr1 hg1 k1 k2
          go_wp2_with (go_at_call 34; refine (call_fail _ _).mono ?_; rintro e w9 ⟨rfl, rfl⟩)
          exact ⟨rfl, HeadPost.no HNo.out HG8.out⟩
    · replace HLn := Lib.hid (HLn.out hXY)
      have hne : (X.toList == Y.toList) = false := by simpa using hXY
      have k0 : ∀ y : Wd (Below w5.heap.size w5), y.val.cell? ⟨R, 0, none⟩ = some (.slice (some ⟨bb, oo, none⟩) m cc) := fun y => keeps_below y.ok _ _ _ e0
      have k1 := HK1.out
      have k2 := HK2.out
      clear HLy
      refine wp_region_class (Below w5.heap.size w5) (by kernel_rfl) (by kernel_rfl) (below_drew _) ?_
      repeat (first | go_big_quiet_skip | (go_big_quiet_want; go_big_quiet_op; first | go_big_quiet_on | go_big_quiet_call (fail)))
      refine wpQuiet_nil ?_
      rintro _ ⟨y, rfl⟩
      have HY := Lib.hid y.ok
      clear k0 k1 k2
      go_wp2_with (go_at_call 34; refine (call_fail _ _).mono ?_; rintro e w8 ⟨rfl, rfl⟩)
      exact ⟨rfl, HeadPost.no HLn.out (grown_below2 HG5.out HY.out)⟩
end Go.Proofs.YtlecpjfggoehdaaGreatDoor.Ar
