
/- Archive: the reference's sum. -/
import Derived.Test.YtlecpjfggoehdaaGreatDoorArD
set_option linter.unusedVariables false
set_option linter.unusedSimpArgs false
set_option maxRecDepth 100000
namespace Go.Proofs.YtlecpjfggoehdaaGreatDoor.Ar
open Go.RowKit Go.Sort Go.Lib

/-- a step of the definition: one bit -/
def b1 (v : BitVec 32) : BitVec 32 := (v >>> 1) ^^^ (if v.getLsbD 0 then 3988292384#32 else 0#32)
theorem b1_xor (x y : BitVec 32) : b1 (x ^^^ y) = b1 x ^^^ b1 y := by
  unfold b1
  rw [BitVec.ushiftRight_xor_distrib, BitVec.getLsbD_xor]
  generalize x >>> 1 = p
  generalize y >>> 1 = q
  cases x.getLsbD 0 <;> cases y.getLsbD 0
  · simp
  · simp [BitVec.xor_assoc]
  · show p ^^^ q ^^^ 3988292384#32 = p ^^^ 3988292384#32 ^^^ (q ^^^ 0#32)
    rw [BitVec.xor_zero, BitVec.xor_assoc, BitVec.xor_assoc, BitVec.xor_comm q]
  · show p ^^^ q ^^^ 0#32 = p ^^^ 3988292384#32 ^^^ (q ^^^ 3988292384#32)
    rw [BitVec.xor_zero, BitVec.xor_assoc, BitVec.xor_comm q, ← BitVec.xor_assoc 3988292384#32, BitVec.xor_self, BitVec.zero_xor]
theorem b1_even (x : BitVec 32) (h : x.getLsbD 0 = false) : b1 x = x >>> 1 := by unfold b1; rw [h]; simp
theorem b1_4 (v : BitVec 32) : b1 (b1 (b1 (b1 v))) = BitVec.ofInt 32 (stepsTab.getD (v &&& 15#32).toNat 0) ^^^ (v >>> 4) := by
  have hv : v = ((v >>> 4) <<< 4) ^^^ (v &&& 15#32) := by
    apply BitVec.eq_of_getLsbD_eq
    intro i hi
    have h15 : ∀ i, i < 32 → (15#32).getLsbD i = decide (i < 4) := by decide
    simp only [BitVec.getLsbD_xor, BitVec.getLsbD_shiftLeft, BitVec.getLsbD_ushiftRight, BitVec.getLsbD_and, h15 i hi, hi, decide_true, Bool.true_and]
    by_cases h : i < 4
    · simp [h]
    · simp [h, show 4 + (i - 4) = i by omega]
  have e0 : ∀ i, i < 4 → ((v >>> 4) <<< 4).getLsbD i = false := fun i hi => by simp [BitVec.getLsbD_shiftLeft, hi]
  have e1 : b1 (b1 (b1 (b1 ((v >>> 4) <<< 4)))) = v >>> 4 := by
    generalize hw : (v >>> 4) <<< 4 = w0 at e0
    rw [b1_even w0 (e0 0 (by omega))]
    rw [b1_even (w0 >>> 1) (by rw [BitVec.getLsbD_ushiftRight]; exact e0 1 (by omega))]
    rw [b1_even (w0 >>> 1 >>> 1) (by rw [BitVec.getLsbD_ushiftRight, BitVec.getLsbD_ushiftRight]; exact e0 2 (by omega))]
    rw [b1_even (w0 >>> 1 >>> 1 >>> 1) (by rw [BitVec.getLsbD_ushiftRight, BitVec.getLsbD_ushiftRight, BitVec.getLsbD_ushiftRight]; exact e0 3 (by omega)), ← hw]
    apply BitVec.eq_of_getLsbD_eq
    intro i hi
    simp only [BitVec.getLsbD_ushiftRight, BitVec.getLsbD_shiftLeft, show 1 + (1 + (1 + (1 + i))) = 4 + i by omega]
    by_cases h : 4 + i < 32
    · simp [h, show ¬ 4 + i < 4 by omega]
    · simp [h]; exact BitVec.getLsbD_of_ge _ _ (by omega)
  have e2 : ∀ n, n < 16 → b1 (b1 (b1 (b1 (BitVec.ofNat 32 n)))) = BitVec.ofInt 32 (stepsTab.getD n 0) := by decide +kernel
  have e3 : (v &&& 15#32).toNat < 16 := by
    rw [BitVec.toNat_and]
    have := Nat.and_le_right (n := v.toNat) (m := (15#32).toNat)
    have h : (15#32).toNat = 15 := by decide
    omega
  have e4 := e2 _ e3
  rw [BitVec.ofNat_toNat, BitVec.setWidth_eq] at e4
  rw [← e4]
  conv => lhs; rw [hv]
  simp only [b1_xor, e1]
  rw [BitVec.xor_comm]
/-- four bits of the definition -/
def bit1 (z : Int) : Int := if bits .and .u32 z 1 = 1 then bits .xor .u32 (z / 2) 3988292384 else z / 2
theorem bit1_bI (v : BitVec 32) : bit1 (bI v) = bI (b1 v) := by
  have hlow : bits .and .u32 (bI v) 1 = if v.getLsbD 0 then 1 else 0 := by
    rw [bits_and, ofInt_bI]
    have h1 : (BitVec.ofInt 32 1) = 1#32 := by decide
    rw [h1]
    unfold bI
    rw [BitVec.toNat_and, show (1#32).toNat = 1 from by decide, Nat.and_one_is_mod, BitVec.getLsbD]
    rw [Nat.testBit_zero]
    by_cases h : v.toNat % 2 = 1 <;> simp [h] <;> omega
  have hsh : bI v / (2 : Int) = bI (v >>> 1) := by
    unfold bI
    rw [BitVec.toNat_ushiftRight, Nat.shiftRight_eq_div_pow]
    omega
  unfold bit1 b1
  rw [hlow, hsh]
  cases v.getLsbD 0
  · simp
  · simp only [if_true]
    rw [bits_xor, ofInt_bI]
    rfl
theorem step4_bI (v : BitVec 32) : step4 (bI v) = bit1 (bit1 (bit1 (bit1 (bI v)))) := by
  simp only [bit1_bI]
  rw [b1_4, step4, bits_and, ofInt_bI, bits_xor]
  have hsh : bI v / (16 : Int) = bI (v >>> 4) := by
    unfold bI
    rw [BitVec.toNat_ushiftRight, Nat.shiftRight_eq_div_pow]
    omega
  rw [hsh, ofInt_bI]
  rfl
theorem byteStep_bits (z : Int) (x : UInt8) : byteStep z x = bit1 (bit1 (bit1 (bit1 (bit1 (bit1 (bit1 (bit1 (bits .xor .u32 z (x.toNat % 4294967296))))))))) := by
  rw [byteStep, bits_xor, step4_bI, bit1_bI, bit1_bI, bit1_bI, bit1_bI, step4_bI]

def bitN : Nat → Int → Int | 0, y => y | k + 1, y => bit1 (bitN k y)

set_option maxHeartbeats 1000000 in
theorem call_rsumOn (r : Int) (v : Value) (xs : List UInt8) (w : World) (hs : Sl RByte 1 w v xs) (hl : xs.length ≤ 100000000000000) :
    Calls Tryz.prog 86 #[.int .u32 r, v] w fun e w' => e = .returned (.int .u32 (sumOnB r xs)) ∧ w' = w := by
  obtain ⟨a, b, o, cap, rfl, ha, hc⟩ := hs
  obtain ⟨n, hn⟩ : ∃ n, xs.length = n := ⟨_, rfl⟩
  rw [hn] at ha hl ⊢
  go_enter Tryz.func86, Tryz.ntmps86
  go_wp2
  go_loopw [5, 6] (fun q i wr => ∃ (k : Nat) (z : Int), i = .int .i64 k ∧ k ≤ n ∧ q = .int .u32 z ∧ z = (xs.take k).foldl byteStep (bits .xor .u32 IntKind.u32.max r) ∧ wr = w)
    (fun _ i _ => n - (RowKit.intOf i).toNat)
  case atStart => exact ⟨0, _, rfl, Nat.zero_le _, rfl, rfl, rfl⟩
  case round =>
    obtain ⟨k, z, rfl, hk, rfl, hz, rfl⟩ := hrel
    have HZ := Lib.hid hz
    have HN := Lib.hid hn
    clear hz
    by_cases hlt : k < n
    · obtain ⟨x, hx⟩ : ∃ x, xs[k]? = some x := ⟨_, List.getElem?_eq_getElem (by omega)⟩
      have hcw := hc k x hx
      simp only [RByte, byteV, Nat.mul_one] at hcw
      have ha' := ha (by omega)
      subst ha'
      obtain ⟨y, hy⟩ : ∃ y, bits .xor .u32 z (x.toNat % 4294967296) = y := ⟨_, rfl⟩
      have HX := Lib.hid hx
      have HY : Hid (byteStep z x = bitN 8 y) := by show _ = _; rw [byteStep_bits, hy]; rfl
      clear hc ha hn hx
      go_wp2_with fail
      go_loopw [5, 7] (fun q i w1 => ∃ (m : Nat), i = .int .i64 m ∧ m ≤ 8 ∧ q = .int .u32 (bitN m y) ∧ w1 = wr)
        (fun _ i _ => 8 - (RowKit.intOf i).toNat)
      case atStart => exact ⟨0, rfl, Nat.zero_le _, rfl, rfl⟩
      case round =>
        obtain ⟨m, rfl, hm, rfl, rfl⟩ := hrel
        by_cases hmt : m < 8
        · obtain ⟨zz, hzz⟩ : ∃ u, bitN m y = u := ⟨_, rfl⟩
          have HZZ := Lib.hid hzz
          rw [hzz]
          clear hzz
          by_cases hl1 : bits .and .u32 zz 1 = 1
          · go_wp2
            go_roundw
            case rel => exact ⟨m + 1, by go_num, by omega, by rw [bitN, HZZ.out, bit1, if_pos hl1], trivial⟩
            case measure => simp [RowKit.intOf]; omega
          · go_wp2
            go_roundw
            case rel => exact ⟨m + 1, by go_num, by omega, by rw [bitN, HZZ.out, bit1, if_neg hl1], trivial⟩
            case measure => simp [RowKit.intOf]; omega
        · obtain rfl : m = 8 := by omega
          rw [← HY.out]
          go_wp2
          go_roundw
          case rel => exact ⟨k + 1, _, by go_num, by omega, rfl, by rw [List.take_add_one, HX.out, List.foldl_append, ← HZ.out]; rfl, trivial⟩
          case measure => simp [RowKit.intOf]; omega
    · obtain rfl : k = n := by omega
      clear hc ha hn
      go_wp2
      go_ret
      have e : z = xs.foldl byteStep (bits .xor .u32 IntKind.u32.max r) := by rw [HZ.out, List.take_of_length_le (by have := HN.out; omega)]
      subst e
      exact ⟨rfl, rfl⟩

theorem call_rsum (v : Value) (xs : List UInt8) (w : World) (hs : Sl RByte 1 w v xs) (hl : xs.length ≤ 100000000000000) :
    Calls Tryz.prog 71 #[v] w fun e w' => e = .returned (.int .u32 (sumOnB 0 xs)) ∧ w' = w := by
  have H := Lib.hid (call_rsumOn 0 v xs w hs hl)
  go_enter Tryz.func71, Tryz.ntmps71
  go_wp2_with (go_at_call 86; refine H.out.mono ?_; rintro e w1 ⟨rfl, rfl⟩)
  go_ret
  exact ⟨rfl, rfl⟩
end Go.Proofs.YtlecpjfggoehdaaGreatDoor.Ar
