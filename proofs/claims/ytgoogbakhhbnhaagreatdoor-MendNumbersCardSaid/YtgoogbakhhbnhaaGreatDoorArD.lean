
/- Archive: the sum. -/
import Derived.Test.YtgoogbakhhbnhaaGreatDoorArC
set_option linter.unusedVariables false
set_option linter.unusedSimpArgs false
namespace Go.Proofs.YtgoogbakhhbnhaaGreatDoor.Ar
open Go.RowKit Go.Sort Go.Lib

def RByte (w : World) (b o : Nat) (x : UInt8) : Prop := w.cell? ⟨b, o, none⟩ = some (byteV x)
theorem RByte.stays : Stays RByte := fun _ _ hk _ _ _ h => hk _ _ _ h

def stepsTab : List Int := [0x00000000, 0x1db71064, 0x3b6e20c8, 0x26d930ac, 0x76dc4190, 0x6b6b51f4, 0x4db26158, 0x5005713c,
  0xedb88320, 0xf00f9344, 0xd6d6a3e8, 0xcb61b38c, 0x9b64c2b0, 0x86d3d2d4, 0xa00ae278, 0xbdbdf21c]
def Stp (w : World) : Prop := Lib.TabIs Tryz.prog w "furrow/codec.steps" .u32 stepsTab
theorem Stp.below {w w' : World} (h : Stp w) (hb : Below w.heap.size w w') : Stp w' := tabBelow_of_tabIs h w' hb

/-- A register as the walk has it. -/
def bI (v : BitVec 32) : Int := (v.toNat : Int)
theorem bI_lo (v : BitVec 32) : 0 ≤ bI v := Int.natCast_nonneg _
theorem bI_hi (v : BitVec 32) : bI v < 4294967296 := by have := v.isLt; unfold bI; omega
theorem ofInt_bI (v : BitVec 32) : BitVec.ofInt 32 (bI v) = v := by unfold bI; rw [BitVec.ofInt_natCast]; simp
theorem wrap32 (v : BitVec 32) : IntKind.u32.wrap (v.toNat : Int) = bI v := by
  have := v.isLt
  simp only [IntKind.wrap, IntKind.bits, IntKind.signed, bI]
  simp
  omega
theorem bits_and (a b : Int) : bits .and .u32 a b = bI (BitVec.ofInt 32 a &&& BitVec.ofInt 32 b) := wrap32 _
theorem bits_xor (a b : Int) : bits .xor .u32 a b = bI (BitVec.ofInt 32 a ^^^ BitVec.ofInt 32 b) := wrap32 _
theorem and15 (y : Int) : 0 ≤ bits BinOp.and IntKind.u32 y 15 ∧ bits BinOp.and IntKind.u32 y 15 < 16 := by
  rw [bits_and]
  refine ⟨bI_lo _, ?_⟩
  unfold bI
  rw [BitVec.toNat_and]
  have := Nat.and_le_right (n := (BitVec.ofInt 32 y).toNat) (m := (BitVec.ofInt 32 15).toNat)
  have h : (BitVec.ofInt 32 15).toNat = 15 := by decide
  omega
def step4 (y : Int) : Int := bits .xor .u32 (stepsTab.getD (bits .and .u32 y 15).toNat 0) (y / 16)
def byteStep (z : Int) (x : UInt8) : Int := step4 (step4 (bits .xor .u32 z (x.toNat % 4294967296)))
def sumOnB (r : Int) (l : List UInt8) : Int := bits .xor .u32 IntKind.u32.max (l.foldl byteStep (bits .xor .u32 IntKind.u32.max r))

set_option maxHeartbeats 1000000 in
set_option maxRecDepth 100000 in
theorem call_sumOn (r : Int) (v : Value) (xs : List UInt8) (w : World) (hs : Sl RByte 1 w v xs) (hl : xs.length ≤ 100000000000000) (hp : Stp w) :
    Calls Tryz.prog 77 #[.int .u32 r, v] w fun e w' => e = .returned (.int .u32 (sumOnB r xs)) ∧ w' = w := by
  obtain ⟨a, b, o, cap, rfl, ha, hc⟩ := hs
  obtain ⟨n, hn⟩ : ∃ n, xs.length = n := ⟨_, rfl⟩
  rw [hn] at ha hl ⊢
  have HP := Lib.hid hp
  go_enter Tryz.func77, Tryz.ntmps77
  go_wp2
  go_loopw [5, 12] (fun q i wr => ∃ (k : Nat) (z : Int), i = .int .i64 k ∧ k ≤ n ∧ q = .int .u32 z ∧ z = (xs.take k).foldl byteStep (bits .xor .u32 IntKind.u32.max r) ∧ wr = w)
    (fun _ i _ => n - (RowKit.intOf i).toNat)
  case atStart => exact ⟨0, _, rfl, Nat.zero_le _, rfl, rfl, rfl⟩
  case round =>
    obtain ⟨k, z, rfl, hk, rfl, hz, rfl⟩ := hrel
    have HZ := Lib.hid hz
    have HN := Lib.hid hn
    clear hz
    by_cases hlt : k < n
    · obtain ⟨x, hx⟩ : ∃ x, xs[k]? = some x := ⟨_, List.getElem?_eq_getElem (by omega)⟩
      have hcw := hc k x hx
      simp only [RByte, byteV, Nat.mul_one] at hcw
      have ha' := ha (by omega)
      subst ha'
      obtain ⟨y, hy⟩ : ∃ y, bits .xor .u32 z (x.toNat % 4294967296) = y := ⟨_, rfl⟩
      obtain ⟨i1, hi1⟩ : ∃ i, bits .and .u32 y 15 = i := ⟨_, rfl⟩
      have b1 := and15 y
      rw [hi1] at b1
      obtain ⟨y1, hy1⟩ : ∃ u, step4 y = u := ⟨_, rfl⟩
      obtain ⟨i2, hi2⟩ : ∃ i, bits .and .u32 y1 15 = i := ⟨_, rfl⟩
      have b2 := and15 y1
      rw [hi2] at b2
      obtain ⟨b1l, b1h⟩ := b1
      obtain ⟨b2l, b2h⟩ := b2
      have t1 := hp.cell (g := 0) (by kernel_rfl) i1.toNat (by show _ < 16; omega)
      have t2 := hp.cell (g := 0) (by kernel_rfl) i2.toNat (by show _ < 16; omega)
      obtain ⟨v1, hv1⟩ : ∃ u, stepsTab.getD i1.toNat 0 = u := ⟨_, rfl⟩
      obtain ⟨v2, hv2⟩ : ∃ u, stepsTab.getD i2.toNat 0 = u := ⟨_, rfl⟩
      rw [hv1] at t1
      rw [hv2] at t2
      have HY : Hid (byteStep z x = bits .xor .u32 v2 (y1 / 16)) := by
        show _ = _
        rw [byteStep, hy, hy1, step4, hi2, hv2]
      rw [step4, hi1, hv1] at hy1
      have HX := Lib.hid hx
      clear hc ha hn hp hv1 hv2 hx
      go_wp2_with fail
      go_roundw
      case rel => exact ⟨k + 1, _, by go_num, by omega, rfl, by rw [List.take_add_one, HX.out, List.foldl_append, ← HZ.out]; exact HY.out.symm, trivial⟩
      case measure => simp [RowKit.intOf]; omega
    · obtain rfl : k = n := by omega
      clear hc ha hn hp
      go_wp2
      go_ret
      have e : z = xs.foldl byteStep (bits .xor .u32 IntKind.u32.max r) := by rw [HZ.out, List.take_of_length_le (by have := HN.out; omega)]
      subst e
      exact ⟨rfl, rfl⟩

set_option maxRecDepth 100000 in
theorem call_sum (v : Value) (xs : List UInt8) (w : World) (hs : Sl RByte 1 w v xs) (hl : xs.length ≤ 100000000000000) (hp : Stp w) :
    Calls Tryz.prog 51 #[v] w fun e w' => e = .returned (.int .u32 (sumOnB 0 xs)) ∧ w' = w := by
  have H := Lib.hid (call_sumOn 0 v xs w hs hl hp)
  go_enter Tryz.func51, Tryz.ntmps51
  go_wp2_with (go_at_call 77; refine H.out.mono ?_; rintro e w1 ⟨rfl, rfl⟩)
  go_ret
  exact ⟨rfl, rfl⟩
/-- A line with the sum of its first sixty bytes in its last four. -/
def closeB (l : List UInt8) : List UInt8 := l.take 60 ++ halfB (sumOnB 0 (l.take 60))

set_option maxHeartbeats 1000000 in
set_option maxRecDepth 100000 in
theorem call_close (l : List UInt8) (hl : l.length = 64) (w : World) (hp : Stp w) :
    Calls Tryz.prog 26 #[.agg (l.map byteV).toArray] w fun e w' => e = .returned (.agg ((closeB l).map byteV).toArray) ∧ Below w.heap.size w w' := by
  obtain ⟨s, hs⟩ : ∃ s, sumOnB 0 (l.take 60) = s := ⟨_, rfl⟩
  have s0 : 0 ≤ s := by rw [← hs, sumOnB, bits_xor]; exact bI_lo _
  have s1 : s < 4294967296 := by rw [← hs, sumOnB, bits_xor]; exact bI_hi _
  have HS := Lib.hid hs
  have HL := Lib.hid hl
  have HP := Lib.hid hp
  have R0 := Lib.hid ((Row.new w 40 (l.map byteV)).alloc (.cells (List.replicate 64 (.int .u8 0)).toArray 40))
  have R1 := Lib.hid (row_new1 w (.cells (l.map byteV).toArray 40) 40 (List.replicate 64 (.int .u8 0)))
  clear hs hl hp
  have HSl : Hid (Sl RByte 1 ((w.alloc (.cells (l.map byteV).toArray 40)).alloc (.cells (List.replicate 64 (.int .u8 0)).toArray 40)) (.slice (some ⟨w.heap.size, 0, none⟩) 60 64) (l.take 60)) :=
    Lib.hid ⟨some ⟨w.heap.size, 0, none⟩, w.heap.size, 0, 64, by rw [List.length_take, HL.out]; rfl, fun _ => rfl, fun j x hj => by
      show World.cell? _ _ = _
      rw [Nat.mul_one, Nat.zero_add, R0.out.cell, List.getElem?_map]
      rw [List.getElem?_take] at hj
      split at hj
      · rw [hj]; rfl
      · cases hj⟩
  have HP1 : Hid (Stp ((w.alloc (.cells (l.map byteV).toArray 40)).alloc (.cells (List.replicate 64 (.int .u8 0)).toArray 40))) := Lib.hid (HP.out.below (below_alloc2 _ _ _))
  have HB := Lib.hid (below_alloc2 w (.cells (l.map byteV).toArray 40) (.cells (List.replicate 64 (.int .u8 0)).toArray 40))
  go_enter Tryz.func26, Tryz.ntmps26
  go_wp2_with (go_at_call 51; refine (call_sum _ _ _ HSl.out (by simp; omega) HP1.out).mono ?_; rintro e w1 ⟨rfl, hw⟩; rw [HS.out]; have Q0 : Hid (Row w1 w.heap.size 40 (l.map byteV)) := (by rw [hw]; exact R0); have Q1 : Hid (Row w1 (w.heap.size + 1) 40 (List.replicate 64 (.int .u8 0))) := (by rw [hw]; exact R1); have QB : Hid (Below w.heap.size w w1) := (by rw [hw]; exact HB); clear hw HSl HP1 R0 R1 HB)
  go_loopw [7] (fun i wr => ∃ (k : Nat) (cur : List Value), i = .int .i64 k ∧ k ≤ 4 ∧ Row wr w.heap.size 40 cur ∧ Row wr (w.heap.size + 1) 40 (List.replicate 64 (.int .u8 0)) ∧ cur.length = 64 ∧
      (∀ j, j < 60 → cur[j]? = (l.map byteV)[j]?) ∧ (∀ j, j < k → cur[60 + j]? = some (byteV (byteAt s j))) ∧ Below w.heap.size w wr)
    (fun i _ => 4 - (RowKit.intOf i).toNat)
  case atStart => exact ⟨0, _, rfl, Nat.zero_le _, Q0.out, Q1.out, by simp [HL.out], fun j hj => rfl, fun j h => by omega, QB.out⟩
  case round =>
    obtain ⟨k, cur, rfl, hk, hr, hr0, hl, hA, hd, hb⟩ := hrel
    clear Q0 Q1 QB
    by_cases hlt : k < 4
    · have HR0 := Lib.hid hr0
      have HR := Lib.hid hr
      have HD := Lib.hid hd
      have HA := Lib.hid hA
      have HCL := Lib.hid hl
      obtain ⟨v0, hcur⟩ : ∃ v, wr.cell? ⟨w.heap.size, 60 + k, none⟩ = some v := ⟨cur[60 + k]'(by omega), by rw [hr.cell]; simp⟩
      have hf := hr.free (60 + k)
      clear hr0 hr hd hl hA
      go_wp2_with fail
      go_roundw
      case rel =>
        refine ⟨k + 1, _, by go_num, by omega, HR.out.set (60 + k) _, HR0.out.other (Nat.succ_ne_self _) _, by simp [HCL.out], fun j hj => ?_, fun j hj => ?_, hb.setCell (Nat.le_refl _) _⟩
        · rw [List.getElem?_set_ne (by omega)]; exact HA.out j hj
        · by_cases e : j = k
          · subst e; rw [List.getElem?_set_self (by have := HCL.out; omega), u8_byteAt]
          · rw [List.getElem?_set_ne (by omega)]; exact HD.out j (by omega)
      case measure => simp [RowKit.intOf]; omega
    · obtain rfl : k = 4 := by omega
      have hcur : cur = (closeB l).map byteV := by
        apply List.ext_getElem?
        intro j
        have e60 : (l.take 60).length = 60 := by rw [List.length_take, HL.out]; rfl
        by_cases h : j < 60
        · rw [hA j h, List.getElem?_map, List.getElem?_map, closeB, List.getElem?_append_left (by omega), List.getElem?_take, if_pos h]
        · by_cases h2 : j < 64
          · obtain ⟨i, rfl⟩ : ∃ i, j = 60 + i := ⟨j - 60, by omega⟩
            rw [hd i (by omega), List.getElem?_map, closeB, List.getElem?_append_right (by omega), e60, HS.out, Nat.add_sub_cancel_left]
            have hi : i < 4 := by omega
            match i, hi with
            | 0, _ | 1, _ | 2, _ | 3, _ => rfl
          · rw [List.getElem?_eq_none (by omega), List.getElem?_eq_none (by simp only [List.length_map, closeB, List.length_append, e60, halfB, List.length_cons, List.length_nil]; omega)]
      subst hcur
      have HR0 := Lib.hid hr0
      have HR := Lib.hid hr
      have HCL := Lib.hid hl
      clear hr0 hr hd hl hA
      go_wp2_with (first | refine wpl_load HR.out rfl 40 _ rfl rfl _ 64 HCL.out Tryz.underlying40 rfl (by kernel_rfl) ?_ | refine wpl_store HR0.out rfl 40 _ _ rfl ((closeB l).map byteV) rfl rfl 64 (List.length_replicate ..) HCL.out (one_bytes _) (by kernel_rfl) ?_)
      exact bodyPost_agg (HR0.out.setRow _) 2 40 rfl _ rfl HCL.out Tryz.underlying40 rfl (by kernel_rfl) rfl ⟨rfl, below_setRow hb (Nat.le_succ _) _⟩
end Go.Proofs.YtgoogbakhhbnhaaGreatDoor.Ar
