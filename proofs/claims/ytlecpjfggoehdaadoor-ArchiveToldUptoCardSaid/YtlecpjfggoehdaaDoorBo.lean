/- Archive: the sum tells a burst of 32 bits (plain). Archive: bytes with bits turned. -/
import Derived.Test.YtlecpjfggoehdaaDoorOpP
import Derived.Test.YtlecpjfggoehdaaDoorBm
set_option linter.unusedVariables false
set_option linter.unusedSimpArgs false
set_option maxRecDepth 100000
namespace Go.Proofs.YtlecpjfggoehdaaDoor.Ar
open Go.RowKit Go.Sort Go.Lib Go.Proofs.YtlecpjfggoehdaaDoor.Rs

def bitV (b : Bool) : BitVec 32 := if b then 1#32 else 0#32
def feed (v : BitVec 32) (l : List Bool) : BitVec 32 := l.foldl (fun v b => b1 (v ^^^ bitV b)) v
def bits8 (x : UInt8) : List Bool := (List.range 8).map fun i => x.toNat.testBit i
def bitsL (l : List UInt8) : List Bool := l.flatMap bits8
def b1n : Nat → BitVec 32 → BitVec 32
  | 0, v => v
  | n + 1, v => b1n n (b1 v)

theorem bitV_xor (a b : Bool) : bitV (a ^^ b) = bitV a ^^^ bitV b := by cases a <;> cases b <;> decide
theorem xor4 (v u a b : BitVec 32) : v ^^^ u ^^^ (a ^^^ b) = v ^^^ a ^^^ (u ^^^ b) := by
  rw [BitVec.xor_assoc, BitVec.xor_assoc, ← BitVec.xor_assoc u, BitVec.xor_comm u a, BitVec.xor_assoc a]
theorem feed_lin : ∀ (l k : List Bool) (v u : BitVec 32), l.length = k.length → feed (v ^^^ u) (List.zipWith (· ^^ ·) l k) = feed v l ^^^ feed u k
  | [], [], v, u, _ => rfl
  | [], b :: k, v, u, h => by cases h
  | a :: l, [], v, u, h => by cases h
  | a :: l, b :: k, v, u, h => by
    have ih := feed_lin l k (b1 (v ^^^ bitV a)) (b1 (u ^^^ bitV b)) (by simpa using h)
    rw [List.zipWith_cons_cons]
    show feed (b1 (v ^^^ u ^^^ bitV (a ^^ b))) _ = feed (b1 (v ^^^ bitV a)) l ^^^ feed (b1 (u ^^^ bitV b)) k
    rw [bitV_xor, xor4, b1_xor]
    exact ih
theorem feed_app (l k : List Bool) (v : BitVec 32) : feed v (l ++ k) = feed (feed v l) k := by unfold feed; rw [List.foldl_append]
theorem b1_zero : b1 0#32 = 0#32 := by decide
theorem b1_inj0 {v : BitVec 32} (h : b1 v = 0#32) : v = 0#32 := by
  unfold b1 at h
  cases h0 : v.getLsbD 0 with
  | false =>
    rw [h0] at h
    simp only [Bool.false_eq_true, if_false, BitVec.xor_zero] at h
    apply BitVec.eq_of_getLsbD_eq
    intro i hi
    cases i with
    | zero => rw [h0]; rfl
    | succ i =>
      have := congrArg (fun x => x.getLsbD i) h
      simp only [BitVec.getLsbD_ushiftRight] at this
      rw [Nat.add_comm, this]
      simp
  | true =>
    rw [h0] at h
    simp only [if_true] at h
    have := congrArg (fun x => x.getLsbD 31) h
    simp only [BitVec.getLsbD_xor, BitVec.getLsbD_ushiftRight] at this
    rw [BitVec.getLsbD_of_ge v (1 + 31) (by omega)] at this
    exact absurd this (by decide)
theorem b1n_inj0 : ∀ {n : Nat} {v : BitVec 32}, b1n n v = 0#32 → v = 0#32
  | 0, v, h => h
  | n + 1, v, h => b1_inj0 (b1n_inj0 (n := n) h)
theorem feed_none : ∀ (l : List Bool) (v : BitVec 32), (∀ b ∈ l, b = false) → feed v l = b1n l.length v
  | [], v, _ => rfl
  | b :: l, v, h => by
    have hb := h b (by simp)
    subst hb
    have ih := feed_none l (b1 (v ^^^ bitV false)) (fun x hx => h x (by simp [hx]))
    show feed (b1 (v ^^^ bitV false)) l = b1n l.length (b1 v)
    rw [ih]
    show b1n _ (b1 (v ^^^ 0#32)) = _
    rw [BitVec.xor_zero]
theorem b1n_zero : ∀ n, b1n n 0#32 = 0#32
  | 0 => rfl
  | n + 1 => by rw [b1n, b1_zero, b1n_zero n]
/-- the bits as a number, the first the lowest -/
def pack : List Bool → BitVec 32
  | [] => 0#32
  | b :: l => bitV b ^^^ (pack l <<< 1)
theorem bitV_get (b : Bool) (i : Nat) : (bitV b).getLsbD i = (decide (i = 0) && b) := by
  cases b
  · simp [bitV]
  · unfold bitV
    rw [if_pos rfl]
    by_cases h : i = 0
    · subst h; rfl
    · rw [decide_eq_false h]
      by_cases h2 : i < 32
      · have : ∀ i, i < 32 → i ≠ 0 → (1#32).getLsbD i = false := by decide
        rw [this i h2 h]; rfl
      · rw [BitVec.getLsbD_of_ge _ _ (by omega)]; rfl
theorem pack_get : ∀ (l : List Bool) (i : Nat), i < 32 → (pack l).getLsbD i = l.getD i false
  | [], i, _ => by simp [pack]
  | b :: l, 0, _ => by
    rw [pack, BitVec.getLsbD_xor, bitV_get, BitVec.getLsbD_shiftLeft]
    simp
  | b :: l, i + 1, h => by
    rw [pack, BitVec.getLsbD_xor, bitV_get, BitVec.getLsbD_shiftLeft, Nat.add_sub_cancel, pack_get l i (by omega)]
    simp [h]
theorem b1n_xor : ∀ n (v u : BitVec 32), b1n n (v ^^^ u) = b1n n v ^^^ b1n n u
  | 0, v, u => rfl
  | n + 1, v, u => by rw [b1n, b1_xor, b1n_xor n]; rfl
theorem b1_shl {p : BitVec 32} (h : p.getLsbD 31 = false) : b1 (p <<< 1) = p := by
  rw [b1_even _ (by rw [BitVec.getLsbD_shiftLeft]; simp)]
  apply BitVec.eq_of_getLsbD_eq
  intro i hi
  rw [BitVec.getLsbD_ushiftRight, BitVec.getLsbD_shiftLeft]
  by_cases h31 : i = 31
  · subst h31
    rw [h]; simp
  · rw [show 1 + i - 1 = i by omega]
    simp [show 1 + i < 32 by omega]
theorem feed_pack : ∀ (l : List Bool) (v : BitVec 32), l.length ≤ 32 → feed v l = b1n l.length (v ^^^ pack l)
  | [], v, _ => by show v = v ^^^ 0#32; rw [BitVec.xor_zero]
  | b :: l, v, h => by
    have hl : l.length ≤ 31 := by simpa using h
    have ih := feed_pack l (b1 (v ^^^ bitV b)) (by omega)
    show feed (b1 (v ^^^ bitV b)) l = b1n l.length (b1 (v ^^^ (bitV b ^^^ (pack l <<< 1))))
    rw [ih, ← BitVec.xor_assoc, b1_xor (v ^^^ bitV b), b1_shl]
    rw [pack_get l 31 (by omega), List.getD_eq_getElem?_getD, List.getElem?_eq_none (by omega)]
    rfl
theorem pack_zero {l : List Bool} (hl : l.length ≤ 32) (h : pack l = 0#32) : ∀ b ∈ l, b = false := fun b hb => by
  obtain ⟨j, hj, rfl⟩ := List.mem_iff_getElem.1 hb
  have := pack_get l j (by omega)
  rw [h, List.getD_eq_getElem?_getD, List.getElem?_eq_getElem hj] at this
  simpa using this.symm
/-- two texts of one sum that differ in at most 32 bits in a row are one -/
theorem burst {l k : List Bool} {v : BitVec 32} (hl : l.length = k.length) (h : feed v l = feed v k) (s : Nat) (hs : ∀ i, i < s ∨ s + 32 ≤ i → l[i]? = k[i]?) : l = k := by
  have h0 := feed_lin l k v v hl
  rw [h, BitVec.xor_self, BitVec.xor_self] at h0
  obtain ⟨D, hD⟩ : ∃ D, List.zipWith (· ^^ ·) l k = D := ⟨_, rfl⟩
  rw [hD] at h0
  have hget : ∀ i, D[i]? = (match l[i]?, k[i]? with | some a, some b => some (a ^^ b) | _, _ => none) := fun i => by
    rw [← hD, List.getElem?_zipWith]
    cases l[i]? <;> cases k[i]? <;> rfl
  have hfar : ∀ i, i < s ∨ s + 32 ≤ i → ∀ b, D[i]? = some b → b = false := fun i hi b hb => by
    rw [hget, hs i hi] at hb
    cases hk : k[i]? with
    | none => rw [hk] at hb; cases hb
    | some x => rw [hk] at hb; simp at hb; exact hb
  have e : D = D.take s ++ ((D.drop s).take 32 ++ (D.drop s).drop 32) := by rw [List.take_append_drop, List.take_append_drop]
  rw [e, feed_app, feed_app] at h0
  have f1 : feed 0#32 (D.take s) = 0#32 := by
    rw [feed_none _ _ (fun b hb => by
      obtain ⟨j, hj, rfl⟩ := List.mem_iff_getElem.1 hb
      rw [List.length_take] at hj
      exact hfar j (.inl (by omega)) _ (by rw [List.getElem_take]; exact List.getElem?_eq_getElem _)), b1n_zero]
  rw [f1, feed_none ((D.drop s).drop 32) _ (fun b hb => by
      obtain ⟨j, hj, rfl⟩ := List.mem_iff_getElem.1 hb
      rw [List.length_drop, List.length_drop] at hj
      exact hfar (s + (32 + j)) (.inr (by omega)) _ (by rw [List.getElem_drop, List.getElem_drop]; exact List.getElem?_eq_getElem _))] at h0
  have h1 := b1n_inj0 h0
  have hm : ((D.drop s).take 32).length ≤ 32 := by rw [List.length_take]; omega
  rw [feed_pack _ _ hm, BitVec.zero_xor] at h1
  have h2 := pack_zero hm (b1n_inj0 h1)
  have hall : ∀ i b, D[i]? = some b → b = false := fun i b hb => by
    by_cases hi : i < s ∨ s + 32 ≤ i
    · exact hfar i hi b hb
    · have : ((D.drop s).take 32)[i - s]? = some b := by
        rw [List.getElem?_take, if_pos (by omega), List.getElem?_drop, show s + (i - s) = i by omega]; exact hb
      exact h2 b (List.mem_of_getElem? this)
  apply List.ext_getElem?
  intro i
  by_cases hi : i < l.length
  · have a1 : l[i]? = some l[i] := List.getElem?_eq_getElem hi
    have a2 : k[i]? = some (k[i]'(by omega)) := List.getElem?_eq_getElem (by omega)
    have := hall i (l[i] ^^ k[i]'(by omega)) (by rw [hget, a1, a2])
    rw [a1, a2]
    congr 1
    revert this
    generalize l[i] = p
    generalize k[i]'(by omega) = q
    cases p <;> cases q <;> simp
  · rw [List.getElem?_eq_none (by omega), List.getElem?_eq_none (by omega)]

/-! ### the sum by bits -/
theorem bits8_len (x : UInt8) : (bits8 x).length = 8 := by rw [bits8, List.length_map, List.length_range]
theorem feed_byte (v : BitVec 32) (x : UInt8) : feed v (bits8 x) = b1n 8 (v ^^^ BitVec.ofNat 32 x.toNat) := by
  rw [feed_pack _ _ (by rw [bits8_len]; omega), bits8_len]
  congr 2
  apply BitVec.eq_of_getLsbD_eq
  intro i hi
  rw [pack_get _ _ hi, BitVec.getLsbD_ofNat, bits8, List.getD_eq_getElem?_getD, List.getElem?_map]
  by_cases h8 : i < 8
  · rw [List.getElem?_range h8, Option.map_some, Option.getD_some, decide_eq_true hi, Bool.true_and]
  · rw [List.getElem?_eq_none (by simp; omega)]
    have : x.toNat.testBit i = false := Nat.testBit_lt_two_pow (Nat.lt_of_lt_of_le x.toNat_lt (Nat.pow_le_pow_right (by omega) (by omega : 8 ≤ i)))
    simp [this]
theorem byteStep_feed (v : BitVec 32) (x : UInt8) : byteStep (bI v) x = bI (feed v (bits8 x)) := by
  rw [feed_byte, byteStep_bits, bits_xor, ofInt_bI]
  have : BitVec.ofInt 32 ((x.toNat : Int) % 4294967296) = BitVec.ofNat 32 x.toNat := by
    have := x.toNat_lt
    rw [show (x.toNat : Int) % 4294967296 = ((x.toNat : Nat) : Int) by omega, BitVec.ofInt_natCast]
  rw [this]
  simp only [bit1_bI]
  rfl
def ones : BitVec 32 := BitVec.ofInt 32 IntKind.u32.max
theorem fold_feed : ∀ (l : List UInt8) (v : BitVec 32), l.foldl byteStep (bI v) = bI (feed v (bitsL l))
  | [], v => rfl
  | x :: l, v => by
    rw [List.foldl_cons, byteStep_feed, fold_feed l, ← feed_app]
    rfl
theorem sum_feed (l : List UInt8) : sumOnB 0 l = bI (ones ^^^ feed ones (bitsL l)) := by
  rw [sumOnB, bits_xor _ 0, show BitVec.ofInt 32 0 = 0#32 from rfl, BitVec.xor_zero, fold_feed, bits_xor, ofInt_bI]
  rfl
theorem bitsL_len (l : List UInt8) : (bitsL l).length = 8 * l.length := by
  induction l with
  | nil => rfl
  | cons x l ih => rw [bitsL, List.flatMap_cons, List.length_append, bits8_len]; rw [bitsL] at ih; rw [ih, List.length_cons]; omega
theorem bitsL_get : ∀ (l : List UInt8) (i : Nat), (bitsL l)[i]? = l[i / 8]?.map fun x => x.toNat.testBit (i % 8)
  | [], i => by simp [bitsL]
  | x :: l, i => by
    rw [bitsL, List.flatMap_cons]
    by_cases h : i < 8
    · rw [List.getElem?_append_left (by rw [bits8_len]; exact h), Nat.div_eq_of_lt h, Nat.mod_eq_of_lt h, bits8, List.getElem?_map, List.getElem?_range h]
      rfl
    · rw [List.getElem?_append_right (by rw [bits8_len]; omega), bits8_len]
      have ih := bitsL_get l (i - 8)
      rw [bitsL] at ih
      rw [ih, show i / 8 = (i - 8) / 8 + 1 by omega, show (i - 8) % 8 = i % 8 by omega]
      rfl
theorem bitsL_inj {l k : List UInt8} (hl : l.length = k.length) (h : bitsL l = bitsL k) : l = k := by
  apply List.ext_getElem?
  intro j
  by_cases hj : j < l.length
  · have a1 : l[j]? = some l[j] := List.getElem?_eq_getElem hj
    have a2 : k[j]? = some (k[j]'(by omega)) := List.getElem?_eq_getElem (by omega)
    rw [a1, a2]
    congr 1
    apply UInt8.toNat_inj.1
    apply Nat.eq_of_testBit_eq
    intro i
    by_cases hi : i < 8
    · have e1 := bitsL_get l (8 * j + i)
      have e2 := bitsL_get k (8 * j + i)
      rw [h, e2, show (8 * j + i) / 8 = j by omega, show (8 * j + i) % 8 = i by omega, a1, a2] at e1
      simpa using e1.symm
    · have : ∀ x : UInt8, x.toNat.testBit i = false := fun x => Nat.testBit_lt_two_pow (Nat.lt_of_lt_of_le x.toNat_lt (Nat.pow_le_pow_right (by omega) (by omega : 8 ≤ i)))
      rw [this, this]
  · rw [List.getElem?_eq_none (by omega), List.getElem?_eq_none (by omega)]
theorem pack_half (c : BitVec 32) : pack (bitsL (halfB (bI c))) = c := by
  apply BitVec.eq_of_getLsbD_eq
  intro i hi
  rw [pack_get _ _ hi, List.getD_eq_getElem?_getD, bitsL_get]
  have key : ∀ j, j < 4 → ∀ t, t < 8 → (byteAt (bI c) j).toNat.testBit t = c.getLsbD (8 * j + t) := fun j hj t ht => by
    have e : (byteAt (bI c) j).toNat = c.toNat / 2 ^ (8 * j) % 256 := by
      have h1 := u8_byteAt (bI c) j
      unfold byteV at h1
      injection h1 with _ h1
      have e2 : (bI c) / 2 ^ (8 * j) % 256 = ((c.toNat / 2 ^ (8 * j) % 256 : Nat) : Int) := by
        unfold bI
        rw [Int.natCast_emod, Int.natCast_ediv, Int.natCast_pow]
        rfl
      rw [e2] at h1
      exact Int.ofNat.inj h1
    rw [e, show (256 : Nat) = 2 ^ 8 from rfl, Nat.testBit_mod_two_pow, Nat.testBit_div_two_pow, decide_eq_true ht, Bool.true_and, BitVec.getLsbD, Nat.add_comm]
  have h4 : i / 8 < 4 := by omega
  have ht : i % 8 < 8 := by omega
  have := key (i / 8) h4 (i % 8) ht
  rw [show 8 * (i / 8) + i % 8 = i by omega] at this
  rw [← this, halfB]
  match i / 8, h4 with
  | 0, _ | 1, _ | 2, _ | 3, _ => rfl
/-- bytes with their sum behind them -/
theorem code_feed (a : List UInt8) : feed ones (bitsL (a ++ halfB (sumOnB 0 a))) = b1n 32 ones := by
  have e : bitsL (a ++ halfB (sumOnB 0 a)) = bitsL a ++ bitsL (halfB (sumOnB 0 a)) := by unfold bitsL; rw [List.flatMap_append]
  have hl : (bitsL (halfB (sumOnB 0 a))).length = 32 := by rw [bitsL_len]; rfl
  rw [e, feed_app, feed_pack _ _ (by omega), hl, sum_feed, pack_half, ← BitVec.xor_assoc, BitVec.xor_comm _ ones, BitVec.xor_assoc, BitVec.xor_self, BitVec.xor_zero]
theorem code_one {x y a c : List UInt8} (hx : x = a ++ halfB (sumOnB 0 a)) (hy : y = c ++ halfB (sumOnB 0 c)) (hl : x.length = y.length) (s : Nat) (hs : ∀ i, i < s ∨ s + 32 ≤ i → (bitsL x)[i]? = (bitsL y)[i]?) : x = y := by
  refine bitsL_inj hl (burst (v := ones) (by rw [bitsL_len, bitsL_len, hl]) ?_ s hs)
  rw [hx, hy, code_feed, code_feed]
end Go.Proofs.YtlecpjfggoehdaaDoor.Ar

set_option linter.unusedVariables false
set_option linter.unusedSimpArgs false
set_option maxRecDepth 100000
namespace Go.Proofs.YtlecpjfggoehdaaDoor.Ar
open Go.RowKit Go.Sort Go.Lib Go.Proofs.YtlecpjfggoehdaaDoor.Rs

theorem own_set {w : World} {base e size n g c : Nat} {xs : List Value} (h : w.ownsRow base e size (.slice (some ⟨g, 0, none⟩) n c) n xs) (j : Nat) (u : Value) : (w.setCell ⟨g, j, none⟩ u).ownsRow base e size (.slice (some ⟨g, 0, none⟩) n c) n (xs.set j u) := by
  refine ⟨by rw [List.length_set]; exact h.1, ?_⟩
  rcases h.2 with ⟨h0, _⟩ | ⟨g', cap, cur, e1, hb, hh, h1, h2, h3, h4⟩
  · cases h0
  · cases e1
    have hr : Row w g e cur.toList := by show _ = _; rw [Array.toArray_toList]; exact hh
    have hr2 := hr.set j u
    refine .inr ⟨g, c, (cur.toList.set j u).toArray, rfl, hb, hr2, h1, h2, by simpa using h3, ?_⟩
    show (cur.toList.set j u).take (n * size) = _
    rw [List.take_set, h4]
/-- whether bit k of a mask is turned -/
def mbit (mask : Int) (k : Nat) : Bool := !(bits BinOp.and IntKind.u32 (bits BinOp.or IntKind.u32 mask 1 / 2 ^ k) 1 == 0)
theorem mbit_zero (mask : Int) : mbit mask 0 = true := by
  have h1 : (1 : Int) = bI 1#32 := rfl
  unfold mbit
  rw [bits_or, show bI (BitVec.ofInt 32 mask ||| BitVec.ofInt 32 1) / 2 ^ 0 = bI (BitVec.ofInt 32 mask ||| BitVec.ofInt 32 1) by simp, bits_and, ofInt_bI]
  have : (BitVec.ofInt 32 mask ||| BitVec.ofInt 32 1) &&& BitVec.ofInt 32 1 = 1#32 := by
    apply BitVec.eq_of_getLsbD_eq
    intro i hi
    have e : BitVec.ofInt 32 1 = 1#32 := by decide
    rw [e, BitVec.getLsbD_and, BitVec.getLsbD_or]
    cases (1#32).getLsbD i <;> simp
  rw [this]
  decide
/-- the bytes with bits turned from bit o on -/
def turnB (b : List UInt8) (o : Nat) (f : Nat → Bool) : Nat → List UInt8
  | 0 => b
  | k + 1 => if f k = true then (turnB b o f k).modify ((o + k) / 8) (fun x => x ^^^ UInt8.ofNat (2 ^ ((o + k) % 8))) else turnB b o f k
theorem turnB_len (b : List UInt8) (o : Nat) (f : Nat → Bool) : ∀ k, (turnB b o f k).length = b.length
  | 0 => rfl
  | k + 1 => by
    rw [turnB]
    split
    · rw [List.length_modify, turnB_len]
    · exact turnB_len b o f k

theorem xor8 : ∀ n : Nat, n < 256 → ∀ r : Nat, r < 8 → bits BinOp.xor IntKind.u8 (n : Int) ((2 : Int) ^ r % 256) = ((UInt8.ofNat n ^^^ UInt8.ofNat (2 ^ r)).toNat : Int) := by decide +kernel
theorem xor8' (x : UInt8) {r : Nat} (h : r < 8) : Value.int .u8 (bits BinOp.xor IntKind.u8 (x.toNat : Int) ((2 : Int) ^ r % 256)) = byteV (x ^^^ UInt8.ofNat (2 ^ r)) := by
  rw [xor8 x.toNat x.toNat_lt r h, UInt8.ofNat_toNat]
  rfl
theorem turnB_on {b : List UInt8} {o k q r : Nat} {f : Nat → Bool} {x : UInt8} (h : f k = true) (hq : (o + k) / 8 = q) (hr : (o + k) % 8 = r) (hx : (turnB b o f k)[q]? = some x) : (turnB b o f (k + 1)).map byteV = ((turnB b o f k).map byteV).set q (byteV (x ^^^ UInt8.ofNat (2 ^ r))) := by
  rw [turnB, if_pos h, hq, hr]
  apply List.ext_getElem?
  intro j
  rw [List.getElem?_map, List.getElem?_modify, List.getElem?_set]
  by_cases e : q = j
  · subst e
    have hlt := (List.getElem?_eq_some_iff.1 hx).1
    rw [if_pos rfl, if_pos (by rw [List.length_map]; exact hlt), hx]
    simp
  · rw [if_neg e, List.getElem?_map]
    simp only [if_neg e]
    cases (turnB b o f k)[j]? <;> rfl
theorem turnB_off {b : List UInt8} {o k : Nat} {f : Nat → Bool} (h : f k = false) : turnB b o f (k + 1) = turnB b o f k := by rw [turnB, if_neg (by rw [h]; simp)]
/-- what turning answers -/
def TurnPost (w : World) (b : List UInt8) (o L : Nat) (f : Nat → Bool) (e : Ending) (w' : World) : Prop :=
  Below w.heap.size w w' ∧ ((∃ v, e = .returned (.tuple #[v, .bool true]) ∧ Own w.heap.size w' v (turnB b o f 32) ∧ o < L) ∨ e = .returned (.tuple #[.slice none 0 0, .bool false]))
set_option maxHeartbeats 1000000 in
theorem call_turned (vb : Value) (b : List UInt8) (lo hi at' : Nat) (mask : Int) (w : World) (hs : ArgB w vb b) (hl : b.length ≤ 100000) (hb0 : 0 < b.length) (h1 : lo ≤ 100000) (h2 : hi ≤ b.length) (h3 : at' ≤ 10000000) (m0 : 0 ≤ mask) (m1 : mask < 4294967296) :
    Calls Tryd.prog 23 #[vb, .int .i64 lo, .int .i64 hi, .int .i64 at', .int .u32 mask] w (TurnPost w b (lo * 8 + at') (hi * 8) (mbit mask)) := by
  have HS := Lib.hid hs
  have HL := Lib.hid hl
  clear hs
  obtain ⟨n, hn⟩ : ∃ n, b.length = n := ⟨_, rfl⟩
  have HN := Lib.hid hn
  rw [hn] at hl hb0 h2
  clear hn
  go_enter Tryd.func23, Tryd.ntmps23
  go_wp2_with ((refine wpl_copyb rfl _ _ rfl rfl _ (by rfl) b HS.out.sl HS.out.nil (by have := HL.out; omega) ?_; intro v1 w1 ho1 hb1; obtain ⟨g, c, rfl, hgw, _, hnc, _, _⟩ := own_form ho1 (by rw [HN.out]; exact hb0); rw [HN.out]; have HO1 : Hid (w1.ownsRow w.heap.size 5 1 (.slice (some ⟨g, 0, none⟩) n c) n (b.map byteV)) := Lib.hid (by have h := ho1; unfold Own at h; rw [HN.out] at h; exact h); have HB1 := Lib.hid hb1; clear ho1 hb1))
  go_loopw [13] (fun i wr => ∃ k : Nat, i = .int .i64 k ∧ k ≤ 32 ∧ wr.ownsRow w.heap.size 5 1 (.slice (some ⟨g, 0, none⟩) n c) n ((turnB b (lo * 8 + at') (mbit mask) k).map byteV) ∧ Below w.heap.size w wr ∧ (∀ j, j < k → mbit mask j = true → lo * 8 + at' + j < hi * 8)) (fun i _ => 32 - (RowKit.intOf i).toNat)
  case atStart => exact ⟨0, rfl, Nat.zero_le _, HO1.out, HB1.out, fun j h => by omega⟩
  case round =>
    obtain ⟨k, rfl, hk, ho, hb, hfit⟩ := hrel
    have HO := Lib.hid ho
    have HB := Lib.hid hb
    have HF := Lib.hid hfit
    clear ho hb hfit HO1 HB1
    by_cases hlt : k < 32
    · have hmb : mbit mask k = !(bits BinOp.and IntKind.u32 (bits BinOp.or IntKind.u32 mask 1 / 2 ^ k) 1 == 0) := rfl
      have HMb := Lib.hid hmb
      clear hmb
      cases hbit : (bits BinOp.and IntKind.u32 (bits BinOp.or IntKind.u32 mask 1 / 2 ^ k) 1 == 0) with
      | true =>
        have HOff : Hid (mbit mask k = false) := Lib.hid (by rw [HMb.out, hbit]; rfl)
        go_wp2
        go_roundw
        case rel => exact ⟨k + 1, by go_num, by omega, by rw [turnB_off HOff.out]; exact HO.out, HB.out, fun j hj hm => by
          by_cases e : j = k
          · subst e; rw [HOff.out] at hm; cases hm
          · exact HF.out j (by omega) hm⟩
        case measure => simp [RowKit.intOf]; omega
      | false =>
        have HOn : Hid (mbit mask k = true) := Lib.hid (by rw [HMb.out, hbit]; rfl)
        by_cases hin : lo * 8 + at' + k < hi * 8
        · obtain ⟨q, hq⟩ : ∃ q, (lo * 8 + at' + k) / 8 = q := ⟨_, rfl⟩
          obtain ⟨r, hr⟩ : ∃ r, (lo * 8 + at' + k) % 8 = r := ⟨_, rfl⟩
          have e1 : ((lo : Int) * 8 + at' + k) / 8 = (q : Int) := by omega
          have e2 : ((lo : Int) * 8 + at' + k) % 8 = (r : Int) := by omega
          have hqn : q < n := by omega
          have hr8 : r < 8 := by omega
          have e3 : (q : Int) < n := by omega
          obtain ⟨x, hx⟩ : ∃ x, (turnB b (lo * 8 + at') (mbit mask) k)[q]? = some x := ⟨_, List.getElem?_eq_getElem (by rw [turnB_len, HN.out]; exact hqn)⟩
          have hcell : wr.cell? ⟨g, q, none⟩ = some (.int .u8 x.toNat) := by
            obtain ⟨g', c', e', _, _, _, hc', _⟩ := own_form HO.out (by omega)
            cases e'
            exact hc' q _ (by rw [List.getElem?_map, hx]; rfl)
          have hfree : wr.frozen? ⟨g, q, none⟩ = false := by
            obtain ⟨g', c', e', _, _, _, _, hf'⟩ := own_form HO.out (by omega)
            cases e'
            exact hf' q
          have hxl := x.toNat_lt
          have HX := Lib.hid hx
          have HQ := Lib.hid hq
          have HR := Lib.hid hr
          clear hx hq hr
          go_wp2
          go_roundw
          case rel =>
            refine ⟨k + 1, by go_num, by omega, ?_, HB.out.setCell hgw _, fun j hj hm => ?_⟩
            · rw [turnB_on HOn.out HQ.out HR.out HX.out, xor8' x hr8]
              exact own_set HO.out q _
            · by_cases e : j = k
              · subst e; exact hin
              · exact HF.out j (by omega) hm
          case measure => simp [RowKit.intOf]; omega
        · have d1 : decide ((hi : Int) * 8 ≤ (lo : Int) * 8 + at' + k) = true := decide_eq_true (by omega)
          go_wp2
          go_ret2
          exact ⟨HB.out, .inr rfl⟩
    · obtain rfl : k = 32 := by omega
      have hfin := HF.out 0 (by omega) (mbit_zero mask)
      go_wp2
      go_ret2
      refine ⟨HB.out, .inl ⟨_, rfl, ?_, by omega⟩⟩
      show World.ownsRow _ _ _ _ _ _ _
      rw [turnB_len, HN.out]
      exact HO.out
/-! ### which bits are turned -/
theorem byte_turn (x : UInt8) (r i : Nat) (hr : r < 8) (hi : i < 8) : (x ^^^ UInt8.ofNat (2 ^ r)).toNat.testBit i = (x.toNat.testBit i ^^ decide (r = i)) := by
  rw [UInt8.toNat_xor, Nat.testBit_xor, UInt8.toNat_ofNat']
  congr 1
  have : (2 : Nat) ^ r % 256 = 2 ^ r := Nat.mod_eq_of_lt (Nat.pow_lt_pow_right (by omega) (show r < 8 from hr))
  rw [show (2 : Nat) ^ 8 = 256 from rfl, this, Nat.testBit_two_pow]
/-- a bit behind k turnings -/
theorem turn_bit (b : List UInt8) (o : Nat) (f : Nat → Bool) : ∀ (k i : Nat), (bitsL (turnB b o f k))[i]? = (bitsL b)[i]?.map fun y => (y ^^ (decide (o ≤ i ∧ i < o + k) && f (i - o)))
  | 0, i => by
    have : decide (o ≤ i ∧ i < o + 0) = false := decide_eq_false (by omega)
    rw [this]
    simp [turnB]
  | k + 1, i => by
    have ih := turn_bit b o f k i
    cases hf : f k with
    | false =>
      rw [turnB_off hf, ih]
      congr 1
      funext y
      by_cases e : i = o + k
      · subst e
        rw [show o + k - o = k by omega, hf, Bool.and_false, Bool.and_false]
      · have : decide (o ≤ i ∧ i < o + (k + 1)) = decide (o ≤ i ∧ i < o + k) := by rw [decide_eq_decide]; omega
        rw [this]
    | true =>
      rw [turnB, if_pos hf, bitsL_get, List.getElem?_modify]
      rw [bitsL_get] at ih
      by_cases e : (o + k) / 8 = i / 8
      · have h1 : ((turnB b o f k)[i / 8]?.map fun x => (x ^^^ UInt8.ofNat (2 ^ ((o + k) % 8))).toNat.testBit (i % 8)) = ((turnB b o f k)[i / 8]?.map fun x => x.toNat.testBit (i % 8)).map fun y => (y ^^ decide ((o + k) % 8 = i % 8)) := by
          rw [Option.map_map]
          congr 1
          funext x
          exact byte_turn x _ _ (by omega) (by omega)
        have h2 : ((fun a => if (o + k) / 8 = i / 8 then a ^^^ UInt8.ofNat (2 ^ ((o + k) % 8)) else a) <$> (turnB b o f k)[i / 8]?).map (fun x => x.toNat.testBit (i % 8)) = (turnB b o f k)[i / 8]?.map fun x => (x ^^^ UInt8.ofNat (2 ^ ((o + k) % 8))).toNat.testBit (i % 8) := by
          simp only [if_pos e]
          cases (turnB b o f k)[i / 8]? <;> rfl
        rw [h2, h1, ih, Option.map_map]
        congr 1
        funext y
        simp only [Function.comp]
        by_cases e2 : i = o + k
        · subst e2
          have d1 : decide (o ≤ o + k ∧ o + k < o + k) = false := decide_eq_false (by omega)
          have d2 : decide (o ≤ o + k ∧ o + k < o + (k + 1)) = true := decide_eq_true (by omega)
          rw [d1, d2, show o + k - o = k by omega, hf]
          simp
        · have d1 : decide ((o + k) % 8 = i % 8) = false := decide_eq_false (by omega)
          have d2 : decide (o ≤ i ∧ i < o + (k + 1)) = decide (o ≤ i ∧ i < o + k) := by rw [decide_eq_decide]; omega
          rw [d1, d2]
          simp
      · have h2 : ((fun a => if (o + k) / 8 = i / 8 then a ^^^ UInt8.ofNat (2 ^ ((o + k) % 8)) else a) <$> (turnB b o f k)[i / 8]?).map (fun x => x.toNat.testBit (i % 8)) = (turnB b o f k)[i / 8]?.map fun x => x.toNat.testBit (i % 8) := by
          simp only [if_neg e]
          cases (turnB b o f k)[i / 8]? <;> rfl
        rw [h2, ih]
        congr 1
        funext y
        have d2 : decide (o ≤ i ∧ i < o + (k + 1)) = decide (o ≤ i ∧ i < o + k) := by rw [decide_eq_decide]; omega
        rw [d2]
/-- a list of bytes with the bits of a part of it turned: what lies outside stays, and in it at least the first differs -/
theorem turn_far {b : List UInt8} {o : Nat} {f : Nat → Bool} {i : Nat} (h : i < o ∨ o + 32 ≤ i) : (bitsL (turnB b o f 32))[i]? = (bitsL b)[i]? := by
  rw [turn_bit, decide_eq_false (show ¬ (o ≤ i ∧ i < o + 32) by omega)]
  simp
theorem turn_ne {b : List UInt8} {o : Nat} {f : Nat → Bool} (h0 : f 0 = true) (hl : o < 8 * b.length) : (bitsL (turnB b o f 32))[o]? ≠ (bitsL b)[o]? := by
  rw [turn_bit, decide_eq_true (show o ≤ o ∧ o < o + 32 by omega), Nat.sub_self, h0]
  have : o < (bitsL b).length := by rw [bitsL_len]; exact hl
  rw [List.getElem?_eq_getElem this]
  simp
theorem bits_drop (b : List UInt8) (k i : Nat) : (bitsL (b.drop k))[i]? = (bitsL b)[8 * k + i]? := by
  rw [bitsL_get, bitsL_get, List.getElem?_drop, show (8 * k + i) / 8 = k + i / 8 by omega, show (8 * k + i) % 8 = i % 8 by omega]
theorem bits_take (b : List UInt8) (k i : Nat) (h : i < 8 * k) : (bitsL (b.take k))[i]? = (bitsL b)[i]? := by
  rw [bitsL_get, bitsL_get, List.getElem?_take, if_pos (by omega)]
theorem bits_take' (b : List UInt8) (k i : Nat) (h : 8 * k ≤ i) : (bitsL (b.take k))[i]? = none := by
  rw [bitsL_get, List.getElem?_take, if_neg (by omega)]
  rfl
/-- a first line with bits turned opens nothing -/
theorem turned_line {l : List Mb} {o : Nat} {f : Nat → Bool} (h0 : f 0 = true) (ho : o < 512) : pOpen (turnB (makeB l) o f 32) = none := by
  cases h : pOpen (turnB (makeB l) o f 32) with
  | none => rfl
  | some ms =>
    obtain ⟨_, hm⟩ := forth h
    have hline : ∀ k : List Mb, (makeB k).take 64 = closeB (lineB (k.length : Int)) := fun k => by
      rw [makeB, List.take_append_of_le_length (by rw [closeB_len _ (lineB_len _)]; exact Nat.le_refl _), List.take_of_length_le (by rw [closeB_len _ (lineB_len _)]; exact Nat.le_refl _)]
    have hc : ∀ k : List Mb, (makeB k).take 64 = (lineB (k.length : Int)).take 60 ++ halfB (sumOnB 0 ((lineB (k.length : Int)).take 60)) := fun k => by rw [hline]; rfl
    have e : (makeB ms).take 64 = (makeB l).take 64 := code_one (hc ms) (hc l) (by rw [hline, hline, closeB_len _ (lineB_len _), closeB_len _ (lineB_len _)]) o (fun i hi => by
      rcases Nat.lt_or_ge i 512 with h5 | h5
      · rw [bits_take _ _ _ (by omega), bits_take _ _ _ (by omega), hm, turn_far hi]
      · rw [bits_take' _ _ _ (by omega), bits_take' _ _ _ (by omega)])
    have this : (bitsL ((makeB ms).take 64))[o]? = (bitsL ((makeB l).take 64))[o]? := by rw [e]
    rw [bits_take _ _ _ (by omega), bits_take _ _ _ (by omega), hm] at this
    exact absurd this (turn_ne h0 (by rw [make_len]; omega))
/-- the one member's bytes with bits turned open nothing -/
theorem turned_member {m : Mb} {o : Nat} {f : Nat → Bool} (h0 : f 0 = true) (h1 : 512 ≤ o) (ho : o < 8 * (makeB [m]).length) : pOpen (turnB (makeB [m]) o f 32) = none := by
  cases h : pOpen (turnB (makeB [m]) o f 32) with
  | none => rfl
  | some ms =>
    obtain ⟨hg, hm⟩ := forth h
    have hlen : (makeB ms).length = (makeB [m]).length := by rw [hm, turnB_len]
    have hl8 : ms.length ≤ 8192 := by rw [goodB, Bool.and_eq_true] at hg; exact of_decide_eq_true hg.1
    have hn : ms.length = 1 := by
      have hcong : ∀ i, i < 64 → (makeB ms)[i]? = (makeB [m])[i]? := fun i hi => by
        have e : (makeB ms).take 64 = (makeB [m]).take 64 := bitsL_inj (by rw [List.length_take, List.length_take, hlen]) (List.ext_getElem? fun i => by
          rcases Nat.lt_or_ge i 512 with h5 | h5
          · rw [bits_take _ _ _ (by omega), bits_take _ _ _ (by omega), hm, turn_far (by omega)]
          · rw [bits_take' _ _ _ (by omega), bits_take' _ _ _ (by omega)])
        have := congrArg (fun x => x[i]?) e
        simpa [List.getElem?_take, hi] using this
      have hb : ∀ i, i < 64 → byteD (makeB ms) i = byteD (makeB [m]) i := fun i hi => by
        unfold byteD
        rw [List.getD_eq_getElem?_getD, List.getD_eq_getElem?_getD, hcong i hi]
      have : numN (makeB ms) 8 = numN (makeB [m]) 8 := by
        unfold numN numAt
        rw [hb _ (by omega), hb _ (by omega), hb _ (by omega), hb _ (by omega)]
      rw [make_num (by omega), make_num (by simp)] at this
      simpa using this
    obtain ⟨m', rfl⟩ := List.length_eq_one_iff.1 hn
    have hd : ∀ k : Mb, (makeB [k]).drop 64 = innerB k ++ halfB (sumOnB 0 (innerB k)) := fun k => by
      rw [makeB, List.drop_append_of_le_length (by rw [closeB_len _ (lineB_len _)]; exact Nat.le_refl _), List.drop_of_length_le (by rw [closeB_len _ (lineB_len _)]; exact Nat.le_refl _)]
      simp [memberB]
    have e : (makeB [m']).drop 64 = (makeB [m]).drop 64 := code_one (hd m') (hd m) (by rw [List.length_drop, List.length_drop, hlen]) (o - 512) (fun i hi => by
      rw [bits_drop, bits_drop, hm, turn_far (by omega)])
    have this : (bitsL ((makeB [m']).drop 64))[o - 512]? = (bitsL ((makeB [m]).drop 64))[o - 512]? := by rw [e]
    rw [bits_drop, bits_drop, hm, show 8 * 64 + (o - 512) = o by omega] at this
    exact absurd this (turn_ne h0 ho)
end Go.Proofs.YtlecpjfggoehdaaDoor.Ar
