
/- Mend: words in bytes, sealed words. -/
import Derived.Test.YtgoogbakhhbnhaaGreatDoorArD
import Derived.DeepKeys
set_option linter.unusedVariables false
set_option linter.unusedSimpArgs false
set_option maxRecDepth 100000
namespace Go.Proofs.YtgoogbakhhbnhaaGreatDoor.Ar
open Go.RowKit Go.Sort Go.Lib Go.Proofs.YtgoogbakhhbnhaaGreatDoor.Rs

def byteD (l : List UInt8) (i : Nat) : UInt8 := l.getD i 0
theorem byteD_get {l : List UInt8} {i : Nat} (h : i < l.length) : l[i]? = some (byteD l i) := by
  rw [List.getElem?_eq_getElem h, byteD, List.getD_eq_getElem?_getD, List.getElem?_eq_getElem h]; rfl
/-- the number in n bytes, the least first -/
def leN (l : List UInt8) (k : Nat) : Nat → Nat
  | 0 => 0
  | i + 1 => leN l k i + (byteD l (k + i)).toNat * 2 ^ (8 * i)
theorem leN_lt (l : List UInt8) (k : Nat) : ∀ n, leN l k n < 2 ^ (8 * n)
  | 0 => by simp [leN]
  | n + 1 => by
    have h := leN_lt l k n
    have h2 := (byteD l (k + n)).toNat_lt
    have e : 2 ^ (8 * (n + 1)) = 2 ^ (8 * n) * 256 := by rw [Nat.mul_add, Nat.pow_add]
    rw [leN, e]
    have : (byteD l (k + n)).toNat * 2 ^ (8 * n) ≤ 255 * 2 ^ (8 * n) := Nat.mul_le_mul_right _ (by omega)
    omega
theorem wrap_u64 (n : Nat) (h : n < 18446744073709551616) : IntKind.u64.wrap (n : Int) = n := by
  simp only [IntKind.wrap, IntKind.signed, IntKind.bits, Bool.false_and, Bool.false_eq_true, if_false]
  omega
theorem bits_or64 (a b : Int) : bits .or .u64 a b = ((BitVec.ofInt 64 a ||| BitVec.ofInt 64 b).toNat : Int) := wrap_u64 _ (BitVec.ofInt 64 a ||| BitVec.ofInt 64 b).isLt
theorem or_add64 (a c k : Nat) (h : a < 2 ^ k) (h2 : a + c * 2 ^ k < 18446744073709551616) : bits .or .u64 (a : Int) ((c * 2 ^ k : Nat) : Int) = ((a + c * 2 ^ k : Nat) : Int) := by
  rw [bits_or64]
  have e : ∀ n : Nat, n < 18446744073709551616 → (BitVec.ofInt 64 (n : Int)).toNat = n := fun n hn => by
    rw [BitVec.ofInt_natCast, BitVec.toNat_ofNat]
    exact Nat.mod_eq_of_lt hn
  rw [BitVec.toNat_or, e a (by omega), e _ (by omega)]
  have := Nat.two_pow_add_eq_or_of_lt h c
  rw [Nat.or_comm, Nat.mul_comm c (2 ^ k), ← this, Nat.add_comm]

theorem leN_step (l : List UInt8) (p k : Nat) (hk : k < 8) : bits .or .u64 (leN l p k : Int) (IntKind.u64.wrap (((byteD l (p + k)).toNat : Int) * 2 ^ (8 * k))) = ((leN l p (k + 1) : Nat) : Int) := by
  have h1 := leN_lt l p k
  have h2 := leN_lt l p (k + 1)
  have h3 : 2 ^ (8 * (k + 1)) ≤ 18446744073709551616 := by
    have := Nat.pow_le_pow_right (n := 2) (by omega) (show 8 * (k + 1) ≤ 64 by omega)
    exact this
  have e : (((byteD l (p + k)).toNat : Int) * 2 ^ (8 * k)) = (((byteD l (p + k)).toNat * 2 ^ (8 * k) : Nat) : Int) := by
    rw [Int.natCast_mul, Int.natCast_pow]; rfl
  rw [leN] at h2
  rw [e, wrap_u64 _ (by omega), or_add64 _ _ _ h1 (by omega)]
  rfl

set_option maxHeartbeats 1000000 in
theorem call_room (v : Value) (l : List UInt8) (at' n : Int) (w : World) (hs : Sl RByte 1 w v l) (hl : l.length ≤ 10000000000000) (h0 : 0 ≤ at') (h1 : at' ≤ 10000000000000) (hn : 0 ≤ n) (hn1 : n ≤ 10000000000000) :
    Calls Tryz.prog 114 #[v, .int .i64 at', .int .i64 n] w fun e w' => e = .returned (.bool (decide (at' + n ≤ l.length))) ∧ w' = w := by
  obtain ⟨a, b, o, cap, rfl, ha, hc⟩ := hs
  obtain ⟨m, hm⟩ : ∃ n, l.length = n := ⟨_, rfl⟩
  rw [hm] at hl ⊢
  clear ha hc hm
  have q0 : decide (0 ≤ at') = true := decide_eq_true h0
  by_cases h2 : at' ≤ m
  · have q1 : decide (at' ≤ (m : Int)) = true := decide_eq_true h2
    go_enter Tryz.func114, Tryz.ntmps114
    go_wp2
    go_ret
    refine ⟨?_, rfl⟩
    have : (decide (n ≤ (m : Int) - at')) = decide (at' + n ≤ (m : Int)) := by rw [decide_eq_decide]; omega
    show Ending.returned (.bool (decide (n ≤ (m : Int) - at'))) = _
    rw [this]
  · have q1 : decide (at' ≤ (m : Int)) = false := decide_eq_false h2
    have q2 : decide (at' + n ≤ (m : Int)) = false := decide_eq_false (by omega)
    rw [q2]
    clear q2
    go_enter Tryz.func114, Tryz.ntmps114
    go_wp2
    go_ret
    exact ⟨rfl, rfl⟩

set_option maxHeartbeats 1000000 in
theorem call_word (v : Value) (l : List UInt8) (p : Nat) (w : World) (hs : Sl RByte 1 w v l) (hl : l.length ≤ 1000000000) (hp : p + 8 ≤ l.length) :
    Calls Tryz.prog 86 #[v, .int .i64 p] w fun e w' => e = .returned (.tuple #[.int .u64 (leN l p 8), .int .i64 0]) ∧ w' = w := by
  have HR := Lib.hid (call_room v l p 8 w hs (by omega) (by omega) (by omega) (by omega) (by omega))
  rw [decide_eq_true (show (p : Int) + 8 ≤ l.length by omega)] at HR
  obtain ⟨a, b, o, cap, rfl, ha, hc⟩ := hs
  have ha' := ha (by omega)
  subst ha'
  have HC := Lib.hid hc
  obtain ⟨m, hm⟩ : ∃ n, l.length = n := ⟨_, rfl⟩
  have HM := Lib.hid hm
  rw [hm] at hl hp HR ⊢
  clear ha hc hm
  go_enter Tryz.func86, Tryz.ntmps86
  go_wp2_with (go_at_call 114; refine HR.out.mono ?_; rintro e w1 ⟨rfl, rfl⟩)
  go_loopw [6, 12] (fun vv iv wr => ∃ k : Nat, iv = .int .i64 k ∧ k ≤ 8 ∧ vv = .int .u64 (leN l p k) ∧ wr = w1)
    (fun _ iv _ => 8 - (RowKit.intOf iv).toNat)
  case atStart => exact ⟨0, rfl, Nat.zero_le _, rfl, rfl⟩
  case round =>
    obtain ⟨k, rfl, hk, rfl, rfl⟩ := hrel
    by_cases hlt : k < 8
    · have c0 := HC.out (p + k) _ (byteD_get (by have := HM.out; omega))
      simp only [RByte, byteV, Nat.mul_one] at c0
      obtain ⟨x, hx⟩ : ∃ x, (byteD l (p + k)).toNat = x := ⟨_, rfl⟩
      have hx2 : x < 256 := by rw [← hx]; exact (byteD l (p + k)).toNat_lt
      obtain ⟨y, hy⟩ : ∃ y, leN l p k = y := ⟨_, rfl⟩
      have HY := Lib.hid hy
      have HX := Lib.hid hx
      rw [hx] at c0
      rw [hy]
      clear hx hy
      go_wp2
      go_roundw
      case rel => exact ⟨k + 1, by go_num, by omega, by rw [← HY.out, ← HX.out, leN_step l p k hlt], trivial⟩
      case measure => simp [RowKit.intOf]; omega
    · obtain rfl : k = 8 := by omega
      go_wp2
      go_ret2
      exact ⟨rfl, rfl⟩

/-- the sum of an address's bytes and a value's -/
def checkI (p v : Int) : Int := sumOnB (sumOnB 0 (wordB p)) (halfB v)
/-- the word that holds a value at an address -/
def sealI (p v : Int) : Int := if v = 0 then 0 else checkI p v * 4294967296 + v
theorem sumOnB_lo (r : Int) (l : List UInt8) : 0 ≤ sumOnB r l ∧ sumOnB r l < 4294967296 := by rw [sumOnB, bits_xor]; exact ⟨bI_lo _, bI_hi _⟩
theorem halfB_take (v : Int) : (wordB v).take 4 = halfB v := rfl

theorem sl_row {w : World} {B T : Nat} {l : List UInt8} (h : Row w B T (l.map byteV)) (c : Nat) : Sl RByte 1 w (.slice (some ⟨B, 0, none⟩) l.length c) l :=
  ⟨_, B, 0, c, rfl, fun _ => rfl, fun j x hj => by
    show World.cell? _ _ = _
    rw [Nat.mul_one, Nat.zero_add, h.cell, List.getElem?_map, hj]; rfl⟩
theorem sl_row_take {w : World} {B T n : Nat} {l : List UInt8} (h : Row w B T (l.map byteV)) (c : Nat) (hn : n ≤ l.length) : Sl RByte 1 w (.slice (some ⟨B, 0, none⟩) n c) (l.take n) :=
  ⟨_, B, 0, c, by rw [List.length_take, Nat.min_eq_left hn], fun _ => rfl, fun j x hj => by
    show World.cell? _ _ = _
    rw [List.getElem?_take] at hj
    split at hj
    · rw [Nat.mul_one, Nat.zero_add, h.cell, List.getElem?_map, hj]; rfl
    · cases hj⟩
theorem Below.drewN' {N : Nat} {w w' : World} (h : Below N w w') (n : Nat) : Below N w (w'.drewN n) := ⟨h.os, h.tape, h.output, h.size, h.block⟩
theorem wordB_len (v : Int) : (wordB v).length = 8 := rfl
set_option maxHeartbeats 2000000 in
theorem call_check (p v : Int) (h0 : 0 ≤ p) (h1 : p < 4294967296) (v0 : 0 ≤ v) (v1 : v < 4294967296) (w : World) (hp : Stp w) :
    Calls Tryz.prog 54 #[.int .i64 p, .int .u32 v] w fun e w' => e = .returned (.int .u32 (checkI p v)) ∧ Below w.heap.size w w' := by
  have HP := Lib.hid hp
  have HLp : Hid (∀ u, Calls Tryz.prog 31 #[.int .u64 p] u fun e w' => e = .returned (.agg ((wordB p).map byteV).toArray) ∧ Below u.heap.size u w') := Lib.hid (fun u => call_lay p (by omega) (by omega) u)
  have HLv : Hid (∀ u, Calls Tryz.prog 31 #[.int .u64 v] u fun e w' => e = .returned (.agg ((wordB v).map byteV).toArray) ∧ Below u.heap.size u w') := Lib.hid (fun u => call_lay v (by omega) (by omega) u)
  have hch : checkI p v = sumOnB (sumOnB 0 (wordB p)) ((wordB v).take 4) := rfl
  have hlp := wordB_len p
  have hlv := wordB_len v
  generalize wordB p = L1 at *
  generalize wordB v = L2 at *
  have HCh := Lib.hid hch
  have HL1 := Lib.hid hlp
  have HL2 := Lib.hid hlv
  clear hp hch hlp hlv
  go_enter Tryz.func54, Tryz.ntmps54
  go_wp2_with (first
    | (with_reducible change wpList _ _ _ _ _ _; refine wpl_store (Row.new w3 94 [.int .u8 0, .int .u8 0, .int .u8 0, .int .u8 0, .int .u8 0, .int .u8 0, .int .u8 0, .int .u8 0]) rfl 94 _ _ rfl (L2.map byteV) rfl rfl 8 rfl (by rw [List.length_map]; exact HL2.out) (one_bytes _) (by kernel_rfl) ?_)
    | (have hg := HB1.out; clear hg; go_at_call 31; refine (HLv.out _).mono ?_; rintro e w3 ⟨rfl, hb3⟩; have HB3 := Lib.hid hb3; clear hb3)
    | (with_reducible change wpList _ _ _ _ _ _; refine wpl_store (Row.new w1 94 [.int .u8 0, .int .u8 0, .int .u8 0, .int .u8 0, .int .u8 0, .int .u8 0, .int .u8 0, .int .u8 0]) rfl 94 _ _ rfl (L1.map byteV) rfl rfl 8 rfl (by rw [List.length_map]; exact HL1.out) (one_bytes _) (by kernel_rfl) ?_; have HR1 := Lib.hid (row_setRow w1 94 #[.int .u8 0, .int .u8 0, .int .u8 0, .int .u8 0, .int .u8 0, .int .u8 0, .int .u8 0, .int .u8 0] (L1.map byteV)); have HB2 := Lib.hid (below_setRow (below_then HB1.out HB1.out.size (below_alloc1 w1 (.cells #[.int .u8 0, .int .u8 0, .int .u8 0, .int .u8 0, .int .u8 0, .int .u8 0, .int .u8 0, .int .u8 0] 94))) HB1.out.size (L1.map byteV).toArray))
    | (go_at_call 31; refine (HLp.out _).mono ?_; rintro e w1 ⟨rfl, hb1⟩; have HB1 := Lib.hid hb1; clear hb1))
  have HR3 := Lib.hid (row_setRow w3 94 #[.int .u8 0, .int .u8 0, .int .u8 0, .int .u8 0, .int .u8 0, .int .u8 0, .int .u8 0, .int .u8 0] (L2.map byteV))
  have HB4 := Lib.hid (below_setRow (below_then (below_then HB2.out HB2.out.size HB3.out) (by have := HB2.out.size; have := HB3.out.size; omega) (below_alloc1 w3 (.cells #[.int .u8 0, .int .u8 0, .int .u8 0, .int .u8 0, .int .u8 0, .int .u8 0, .int .u8 0, .int .u8 0] 94))) (Nat.le_trans HB2.out.size HB3.out.size) (L2.map byteV).toArray)
  have HR13 := Lib.hid (HR1.out.below (below_setRow (below_then HB3.out HB3.out.size (below_alloc1 w3 (.cells #[.int .u8 0, .int .u8 0, .int .u8 0, .int .u8 0, .int .u8 0, .int .u8 0, .int .u8 0, .int .u8 0] 94))) HB3.out.size (L2.map byteV).toArray) HR1.out.lt)
  generalize ((w3.alloc (.cells #[.int .u8 0, .int .u8 0, .int .u8 0, .int .u8 0, .int .u8 0, .int .u8 0, .int .u8 0, .int .u8 0] 94)).setRow w3.heap.size (L2.map byteV).toArray) = W4 at *
  generalize w3.heap.size = B3 at *
  generalize w1.heap.size = B1 at *
  have HP4 : Hid (Stp W4) := Lib.hid (HP.out.below HB4.out)
  have HS1 : Hid (Sl RByte 1 W4 (.slice (some ⟨B1, 0, none⟩) 8 8) L1) := Lib.hid (by have h := sl_row HR13.out 8; rw [HL1.out] at h; exact h)
  have HS2 : Hid (Sl RByte 1 W4 (.slice (some ⟨B3, 0, none⟩) 4 8) (L2.take 4)) := Lib.hid (sl_row_take HR3.out 8 (by rw [HL2.out]; omega))
  go_wp2_with fail
  go_quiet (first
    | (go_at_call 51; exact Calls.quiet_of_same (call_sum _ L1 _ HS1.out (by rw [HL1.out]; omega) HP4.out))
    | (go_at_call 77; exact Calls.quiet_of_same (call_sumOn _ _ (L2.take 4) _ HS2.out (by rw [List.length_take, HL2.out]; omega) HP4.out)))
  have HBq := Lib.hid (Below.drewN' HB4.out nq)
  clear HP4 HS1 HS2
  generalize W4.drewN nq = W5 at *
  go_wp2
  go_ret
  exact ⟨by rw [HCh.out]; rfl, HBq.out⟩

theorem checkI_lo (p v : Int) : 0 ≤ checkI p v ∧ checkI p v < 4294967296 := sumOnB_lo _ _
set_option maxHeartbeats 1000000 in
theorem call_seal (p v : Int) (h0 : 0 ≤ p) (h1 : p < 4294967296) (v0 : 0 ≤ v) (v1 : v < 4294967296) (w : World) (hp : Stp w) :
    Calls Tryz.prog 29 #[.int .i64 p, .int .u32 v] w fun e w' => e = .returned (.int .u64 (sealI p v)) ∧ Below w.heap.size w w' := by
  have HCk := Lib.hid (call_check p v h0 h1 v0 v1 w hp)
  clear hp
  by_cases hv : v = 0
  · subst hv
    go_enter Tryz.func29, Tryz.ntmps29
    go_wp2
    go_ret
    exact ⟨by rw [sealI, if_pos rfl]; rfl, Below.refl _ _⟩
  · have hq : (v == 0) = false := by simpa using hv
    have HS : Hid (sealI p v = checkI p v * 4294967296 + v) := Lib.hid (by rw [sealI, if_neg hv])
    obtain ⟨c0, c1⟩ := checkI_lo p v
    obtain ⟨c, hc⟩ : ∃ c : Nat, checkI p v = c := ⟨(checkI p v).toNat, by omega⟩
    obtain ⟨n, hn⟩ : ∃ n : Nat, v = n := ⟨v.toNat, by omega⟩
    rw [hc] at HCk HS c0 c1
    subst hn
    have HO : Hid (bits .or .u64 ((c * 4294967296 : Nat) : Int) (n : Int) = ((c * 4294967296 + n : Nat) : Int)) := Lib.hid (by
      have h := or_add64 n c 32 (by omega) (by omega)
      rw [show (2 : Nat) ^ 32 = 4294967296 by decide] at h
      rw [bits_or64, BitVec.or_comm, ← bits_or64, h, Nat.add_comm])
    clear hc hv
    go_enter Tryz.func29, Tryz.ntmps29
    go_wp2_with (go_at_call 54; refine HCk.out.mono ?_; rintro e w1 ⟨rfl, hb1⟩; have HB1 := Lib.hid hb1; clear hb1)
    go_ret
    refine ⟨?_, HB1.out⟩
    rw [HS.out]
    have h := HO.out
    rw [Int.natCast_mul] at h
    show Ending.returned (.int .u64 (bits BinOp.or IntKind.u64 ((c : Int) * 4294967296) n)) = _
    rw [show ((4294967296 : Nat) : Int) = 4294967296 from rfl] at h
    rw [h]
    rfl

/-- what a word holds at an address -/
def unsealI (p x : Int) : Option Int := if sealI p (x % 4294967296) = x then some (x % 4294967296) else none
def unsealR : Option Int → Value
  | some v => .tuple #[.int .u32 v, .int .i64 0]
  | none => .tuple #[.int .u32 0, .int .i64 21]
set_option maxHeartbeats 1000000 in
theorem call_unseal (p x : Int) (h0 : 0 ≤ p) (h1 : p < 4294967296) (x0 : 0 ≤ x) (x1 : x < 18446744073709551616) (w : World) (hp : Stp w) :
    Calls Tryz.prog 139 #[.int .i64 p, .int .u64 x] w fun e w' => e = .returned (unsealR (unsealI p x)) ∧ Below w.heap.size w w' := by
  obtain ⟨v, hv⟩ : ∃ v, x % 4294967296 = v := ⟨_, rfl⟩
  have v0 : 0 ≤ v := by omega
  have v1 : v < 4294967296 := by omega
  have HS := Lib.hid (call_seal p v h0 h1 v0 v1 w hp)
  have HU : Hid (unsealI p x = if sealI p v = x then some v else none) := Lib.hid (by rw [unsealI, hv])
  obtain ⟨y, hy⟩ : ∃ y, sealI p v = y := ⟨_, rfl⟩
  rw [hy] at HS HU
  clear hp hy
  by_cases he : y = x
  · have hq : (y != x) = false := by simpa using he
    have HU2 : Hid (unsealI p x = some v) := Lib.hid (by rw [HU.out, if_pos he])
    clear he
    go_enter Tryz.func139, Tryz.ntmps139
    go_wp2_with (go_at_call 29; refine HS.out.mono ?_; rintro e w1 ⟨rfl, hb1⟩; have HB1 := Lib.hid hb1; clear hb1)
    go_ret2
    exact ⟨by rw [HU2.out]; rfl, HB1.out⟩
  · have hq : (y != x) = true := by simpa using he
    have HU2 : Hid (unsealI p x = none) := Lib.hid (by rw [HU.out, if_neg he])
    clear he
    go_enter Tryz.func139, Tryz.ntmps139
    go_wp2_with (go_at_call 29; refine HS.out.mono ?_; rintro e w1 ⟨rfl, hb1⟩; have HB1 := Lib.hid hb1; clear hb1)
    go_ret2
    exact ⟨by rw [HU2.out]; rfl, HB1.out⟩

theorem mapM_all {β : Type} {f : Nat → Option β} {g : Nat → β} : ∀ L : List Nat, (∀ i ∈ L, f i = some (g i)) → L.mapM f = some (L.map g)
  | [], _ => rfl
  | i :: L, h => by
    rw [List.mapM_cons, h i List.mem_cons_self, mapM_all L (fun j hj => h j (List.mem_cons_of_mem _ hj))]
    rfl
theorem flat_single {α β : Type} (f : α → β) : ∀ L : List α, (L.map fun x => [f x]).flatten = L.map f
  | [] => rfl
  | x :: L => by rw [List.map_cons, List.flatten_cons, flat_single f L]; rfl
/-- two rows of as many bytes, held against one another -/
theorem eq_bytes (t n : Nat) (ht : Tryz.prog.underlying t = some (.array n 5)) (hc : Tryz.prog.cellsOf t = n) (hk : Tryz.prog.keyTypeAt 2 t = true) (a b : List UInt8) (ha : a.length = n) (hb : b.length = n) (w : World) :
    (Op.equalIn 10000 t (.agg (a.map byteV).toArray) (.agg (b.map byteV).toArray)).run Tryz.prog w = .ok (decide (a = b)) w := by
  have c5 : Tryz.prog.cellsOf 5 = 1 := by kernel_rfl
  have key : ∀ l : List UInt8, l.length = n → Tryz.prog.keyLits 2 t (l.map byteV) = some ((List.range n).map fun i => Lit.int .u8 ((byteD l i).toNat : Int)) := fun l hl => by
    have h1 : ∀ i ∈ List.range n, Tryz.prog.keyLits 1 5 (((l.map byteV).drop (i * 1)).take 1) = some [Lit.int .u8 ((byteD l i).toNat : Int)] := fun i hi => by
      have hin : i < l.length := by rw [hl]; exact List.mem_range.1 hi
      have h2 : ((l.map byteV).drop (i * 1)).take 1 = [byteV (byteD l i)] := by
        rw [Nat.mul_one]
        apply List.ext_getElem?
        intro j
        rw [List.getElem?_take]
        match j with
        | 0 => rw [if_pos (by omega), List.getElem?_drop, Nat.add_zero, List.getElem?_map, byteD_get hin]; rfl
        | j + 1 => rw [if_neg (by omega)]; rfl
      rw [h2]
      have hw : (Lit.int .u8 ((byteD l i).toNat : Int)).wf = true := by
        have := (byteD l i).toNat_lt
        simp only [Lit.wf, IntKind.min, IntKind.max, IntKind.signed, IntKind.bits, Bool.and_eq_true, decide_eq_true_eq, Bool.false_eq_true, if_false]
        omega
      simp only [Program.keyLits, Tryz.underlying5, byteV]
      rw [if_pos ⟨trivial, hw⟩]
    unfold Program.keyLits
    simp only [ht, List.length_map, hl, hc, c5, if_true]
    rw [mapM_all _ h1, Option.map_some, flat_single]
  obtain ⟨r, hr, hiff⟩ := run_equalIn_deep 9998 2 t hk w 2 2 (.agg (a.map byteV).toArray) (.agg (b.map byteV).toArray) _ _ (by simp [Value.formed, ht, hc, ha]) (by simp [Value.formed, ht, hc, hb]) (by simpa [Value.cells] using key a ha) (by simpa [Value.cells] using key b hb)
  rw [hr]
  have : r = decide (a = b) := by
    rw [Bool.eq_iff_iff, hiff, decide_eq_true_eq]
    refine ⟨fun h => ?_, fun h => by rw [h]⟩
    apply List.ext_getElem?
    intro i
    by_cases hi : i < n
    · have h2 := congrArg (fun L => L[i]?) h
      simp only [List.getElem?_map, List.getElem?_range hi, Option.map_some, Option.some.injEq, Lit.int.injEq, true_and] at h2
      rw [byteD_get (by omega), byteD_get (by omega)]
      congr 1
      exact UInt8.toNat_inj.1 (by exact_mod_cast h2)
    · rw [List.getElem?_eq_none (by omega), List.getElem?_eq_none (by omega)]
  rw [this]

theorem below_drew (w : World) : Below w.heap.size w w.drew := ⟨rfl, rfl, rfl, Nat.le_refl _, fun _ _ => rfl⟩
theorem below_after {w w1 w2 : World} (h : Below w.heap.size w w1) (k : Below w1.heap.size w1 w2) : Below w.heap.size w w2 := below_then h h.size k
/-- A world of a class. -/
structure Wd (S : World → Prop) where
  val : World
  ok : S val
/-- A region that draws its order, walked once, in a class of worlds of one's own. -/
theorem wp_region_class {P : Program} {id : Nat} {Q : Exit → Act → World → Prop} {a : Act} {w : World} {l : List Oper} (S : World → Prop) (hm : P.follows .mixedOrders = true) (hB : Region.lexB .any l.toArray = true) (hS : S w.drew)
    (h : wpQuiet P l.toArray (fun w' => ∃ x : Wd S, w' = x.val) (fun a' => ∀ w', (∃ x : Wd S, w' = x.val) → Q .normal a' w') l a) : (Code.region id l.toArray true).wp P Q a w :=
  wp_region_quiet (C := fun w' => ∃ x : Wd S, w' = x.val) hm hB ⟨⟨_, hS⟩, rfl⟩ (by simpa using h)
section
variable {P : Program} {o : Oper} {a : Act} {C : World → Prop} {K : Act → Prop}
/-- a whole array, read in a quiet walk -/
theorem quiet_loadW (T : TypeId) (x : Operand) (h : o.op = .load T x) (ad : Addr) (hx : a.eval x = .pointer (some ad)) (v : Value) (hr : ∀ w, C w → (loadVar T ad).run P w = .ok v w) (hk : K (a.put o.dst v)) : o.quiet P a C K :=
  ⟨v, fun w hw => by
    unfold Oper.quietAt execOp
    simp only [h, hx, Instr.loadAt, Instr.sureAddr, Sem.run_bind, Sem.run_pure, Result.andThen_ok, hr w hw]
    exact ⟨rfl, rfl⟩, hk⟩
end
/-- a whole line -/
def wholeB (l : List UInt8) : Bool := decide (closeB l = l)
theorem closeB_len (l : List UInt8) (hl : l.length = 64) : (closeB l).length = 64 := by rw [closeB, List.length_append, List.length_take, hl]; rfl
set_option maxHeartbeats 1000000 in
theorem call_whole (l : List UInt8) (hl : l.length = 64) (w : World) (hp : Stp w) :
    Calls Tryz.prog 80 #[.agg (l.map byteV).toArray] w fun e w' => e = .returned (.bool (wholeB l)) ∧ Below w.heap.size w w' := by
  have HP := Lib.hid hp
  have HL := Lib.hid hl
  obtain ⟨S, hS⟩ : ∃ S : World → Prop, ∀ y, S y ↔ (Row y w.heap.size 40 (l.map byteV) ∧ Below w.heap.size w y) := ⟨_, fun _ => Iff.rfl⟩
  have HS0 : S (w.alloc (.cells (l.map byteV).toArray 40)).drew := (hS _).2 ⟨(Row.new w 40 (l.map byteV)).drew, (below_alloc1 w _).drew⟩
  haveI : Nonempty (Wd S) := ⟨⟨_, HS0⟩⟩
  have hld : ∀ y : Wd S, (loadVar 40 ⟨w.heap.size, 0, none⟩).run Tryz.prog y.val = .ok (.agg (l.map byteV).toArray) y.val := fun y =>
    run_loadVar_row y.val w.heap.size 40 40 (l.map byteV).toArray (0, 0) _ ((hS _).1 y.ok).1 Tryz.underlying40 rfl (by rw [List.size_toArray, List.length_map, HL.out]; kernel_rfl)
  have heq : ∀ y : Wd S, (Op.equalIn 10000 40 (.agg ((closeB l).map byteV).toArray) (.agg (l.map byteV).toArray)).run Tryz.prog y.val = .ok (wholeB l) y.val := fun y => eq_bytes 40 64 Tryz.underlying40 (by kernel_rfl) (by kernel_rfl) _ _ (closeB_len l HL.out) HL.out _
  have hcl : Hid (∀ y : Wd S, Calls Tryz.prog 26 #[.agg (l.map byteV).toArray] y.val fun e w' => e = .returned (.agg ((closeB l).map byteV).toArray) ∧ ∃ z : Wd S, w' = z.val) := Lib.hid (fun y => by
    have h := (hS _).1 y.ok
    exact (call_close l HL.out y.val (HP.out.below h.2)).mono fun e w' ⟨h1, h2⟩ => ⟨h1, ⟨w', (hS _).2 ⟨h.1.below h2 h.1.lt, below_after h.2 h2⟩⟩, rfl⟩)
  have hSB : Hid (∀ y : Wd S, Below w.heap.size w y.val) := Lib.hid (fun y => ((hS _).1 y.ok).2)
  have hHS0 := Lib.hid HS0
  clear hl hp hS HS0
  go_enter Tryz.func80, Tryz.ntmps80
  go_wp2
  refine wp_region_class S (by kernel_rfl) (by kernel_rfl) hHS0.out ?_
  repeat (first | go_big_quiet_skip | (go_big_quiet_want; first
    | (refine quiet_loadW 40 (.tmp 1) rfl _ rfl _ (fun w ⟨y, e⟩ => by rw [e]; exact hld y) ?_; simp only [Act.put, List.setIfInBounds_toArray, List.set_cons_succ, List.set_cons_zero]; go_big_quiet_on)
    | (go_big_quiet_op; first | go_big_quiet_on | go_big_quiet_call ((go_at_call 26; refine (hcl.out _).mono ?_; rintro e w2 ⟨rfl, z, rfl⟩; exact ⟨rfl, ⟨z, rfl⟩⟩)))))
  refine wpQuiet_nil ?_
  rintro _ ⟨y, rfl⟩
  have HY := Lib.hid (hSB.out y)
  clear hld heq
  go_wp2
  go_ret
  exact ⟨rfl, HY.out⟩
end Go.Proofs.YtgoogbakhhbnhaaGreatDoor.Ar
