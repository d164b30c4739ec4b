
/- Archive: bytes and members: there and back (plain). Archive: what Make makes is opened as the list (plain). -/
import Derived.Test.YtlecpjfggoehdaaGreatDoorOpM
import Derived.Test.YtlecpjfggoehdaaGreatDoorOpI
set_option linter.unusedVariables false
set_option linter.unusedSimpArgs false
set_option maxRecDepth 100000
namespace Go.Proofs.YtlecpjfggoehdaaGreatDoor.Ar
open Go.RowKit Go.Sort Go.Lib Go.Proofs.YtlecpjfggoehdaaGreatDoor.Rs

theorem byteAt_num4 (a b c d : UInt8) : halfB (num4 a b c d) = [a, b, c, d] := by
  have h1 := a.toNat_lt; have h2 := b.toNat_lt; have h3 := c.toNat_lt; have h4 := d.toNat_lt
  have e0 : (num4 a b c d / 2 ^ (8 * 0) % 256).toNat = a.toNat := by unfold num4; simp only [Nat.reduceMul, Int.reducePow]; omega
  have e1 : (num4 a b c d / 2 ^ (8 * 1) % 256).toNat = b.toNat := by unfold num4; simp only [Nat.reduceMul, Int.reducePow]; omega
  have e2 : (num4 a b c d / 2 ^ (8 * 2) % 256).toNat = c.toNat := by unfold num4; simp only [Nat.reduceMul, Int.reducePow]; omega
  have e3 : (num4 a b c d / 2 ^ (8 * 3) % 256).toNat = d.toNat := by unfold num4; simp only [Nat.reduceMul, Int.reducePow]; omega
  rw [halfB, byteAt, byteAt, byteAt, byteAt, e0, e1, e2, e3]
  simp
theorem num4_halfB (v : Int) (h0 : 0 ≤ v) (h1 : v < 4294967296) : num4 (byteAt v 0) (byteAt v 1) (byteAt v 2) (byteAt v 3) = v := by
  have e : ∀ i, ((byteAt v i).toNat : Int) = v / 2 ^ (8 * i) % 256 := fun i => by
    have h2 : 0 ≤ v / 2 ^ (8 * i) % 256 := Int.emod_nonneg _ (by decide)
    have h3 : v / 2 ^ (8 * i) % 256 < 256 := Int.emod_lt_of_pos _ (by decide)
    unfold byteAt
    rw [UInt8.toNat_ofNat']
    omega
  unfold num4
  rw [e, e, e, e]
  simp only [Nat.reduceMul, Int.reducePow]
  omega
theorem half_txt {b : List UInt8} {k : Nat} (h : k + 4 ≤ b.length) : halfB (numAt b k) = txt b k 4 := by rw [numAt, byteAt_num4, txt4 h]
theorem txt_add (b : List UInt8) (k m n : Nat) : txt b k (m + n) = txt b k m ++ txt b (k + m) n := by
  unfold txt
  rw [List.take_add, List.drop_drop]
theorem pcs_txt {b : List UInt8} : ∀ {n k K : Nat} {L : List Pc}, rawPcs b n k = some (L, K) → k ≤ K ∧ (L.map pieceB).flatten = txt b k (K - k)
  | 0, k, K, L, h => by cases h; simp [txt]
  | n + 1, k, K, L, h => by
    rw [rawPcs] at h
    split at h
    · rename_i hk
      obtain ⟨q, hq, he⟩ := Option.map_eq_some_iff.1 h
      cases he
      obtain ⟨h1, h2⟩ := pcs_txt (L := q.1) (K := q.2) hq
      refine ⟨by omega, ?_⟩
      rw [List.map_cons, List.flatten_cons, h2, pieceB]
      simp only
      rw [txt_len (by omega), numN_cast, half_txt (by omega), half_txt (by omega)]
      rw [show q.2 - k = 4 + (4 + (numN b (k + 4) + (q.2 - (k + 8 + numN b (k + 4))))) by omega, txt_add, txt_add, txt_add, show k + 4 + 4 = k + 8 by omega, show k + 8 + numN b (k + 4) = k + 8 + numN b (k + 4) from rfl]
      simp only [List.append_assoc]
    · cases h
theorem mem_txt {b : List UInt8} {k K : Nat} {m : Mb} (h : rawMem b k = some (m, K)) : k + 20 ≤ K ∧ K + 4 ≤ b.length ∧ txt b k (K - k) = innerB m := by
  rw [rawMem] at h
  split at h
  · rename_i hk
    obtain ⟨r, hp, h3⟩ := Option.bind_eq_some_iff.1 h
    split at h3
    · rename_i hK
      cases h3
      obtain ⟨g1, g2⟩ := pcs_txt (L := r.1) (K := r.2) hp
      have hn := (rawPcs_len hp).1
      refine ⟨by omega, hK, ?_⟩
      rw [innerB, frontB]
      simp only [numsOf, List.map_cons, List.map_nil, List.flatten_cons, List.flatten_nil, List.append_nil]
      rw [txt_len (by omega), txt_len (by omega), hn, numN_cast, numN_cast, numN_cast, half_txt (by omega), half_txt (by omega), half_txt (by omega), half_txt (by omega), half_txt (by omega), g2]
      rw [show r.2 - k = 4 + (4 + (4 + (4 + (4 + (numN b (k + 4) + (numN b (k + 8) + (r.2 - (k + 20 + numN b (k + 4) + numN b (k + 8))))))))) by omega, txt_add, txt_add, txt_add, txt_add, txt_add, txt_add, txt_add]
      simp only [List.append_assoc, Nat.add_assoc, Nat.reduceAdd]
    · cases h3
  · cases h
theorem member_txt {b : List UInt8} {k K : Nat} {m : Mb} (h : rawMem b k = some (m, K)) : txt b k (K + 4 - k) = innerB m ++ txt b K 4 := by
  obtain ⟨h1, h2, h3⟩ := mem_txt h
  rw [show K + 4 - k = (K - k) + 4 by omega, txt_add, h3, show k + (K - k) = K by omega]
/-- the sum fits iff the bytes are the member's -/
theorem member_iff {b : List UInt8} {k K : Nat} {m : Mb} (h : rawMem b k = some (m, K)) : numAt b K = sumOnB 0 (txt b k (K - k)) ↔ txt b k (K + 4 - k) = memberB m := by
  obtain ⟨h1, h2, h3⟩ := mem_txt h
  rw [member_txt h, memberB, h3]
  have s0 : 0 ≤ sumOnB 0 (innerB m) := by rw [sumOnB, bits_xor]; exact bI_lo _
  have s1 : sumOnB 0 (innerB m) < 4294967296 := by rw [sumOnB, bits_xor]; exact bI_hi _
  constructor
  · intro e; rw [← half_txt h2, e]
  · intro e
    have e2 := List.append_cancel_left e
    rw [txt4 h2, halfB] at e2
    injection e2 with a1 e2
    injection e2 with a2 e2
    injection e2 with a3 e2
    injection e2 with a4 _
    rw [numAt, a1, a2, a3, a4, num4_halfB _ s0 s1]
/-! ### what the reference opens -/
def parseR (b : List UInt8) : Nat → Option (List Mb × Nat)
  | 0 => some ([], 64)
  | i + 1 => (parseR b i).bind fun r => (rawMem b r.2).map fun x => (r.1 ++ [x.1], x.2 + 4)
theorem parseR_len {b : List UInt8} (h : 64 ≤ b.length) : ∀ {i k : Nat} {ms : List Mb}, parseR b i = some (ms, k) → 64 ≤ k ∧ k ≤ b.length ∧ ms.length = i ∧ ((ms.map memberB).flatten).length = k - 64
  | 0, k, ms, e => by cases e; simp [h]
  | i + 1, k, ms, e => by
    rw [parseR] at e
    obtain ⟨r, hr, e2⟩ := Option.bind_eq_some_iff.1 e
    obtain ⟨x, hx, e3⟩ := Option.map_eq_some_iff.1 e2
    cases e3
    obtain ⟨h1, h2, h3, h4⟩ := parseR_len h (ms := r.1) (k := r.2) hr
    obtain ⟨g1, g2, g3⟩ := mem_txt (m := x.1) (K := x.2) hx
    have g4 : (innerB x.1).length = x.2 - r.2 := by rw [← g3, txt_len (by omega)]
    have g5 : (memberB x.1).length = x.2 - r.2 + 4 := by rw [memberB, List.length_append, g4]; rfl
    refine ⟨by omega, by omega, by rw [List.length_append, h3]; rfl, ?_⟩
    rw [List.map_append, List.flatten_append, List.length_append, h4]
    simp only [List.map_cons, List.map_nil, List.flatten_cons, List.flatten_nil, List.append_nil]
    omega
theorem parse_R {b : List UInt8} (h : 64 ≤ b.length) : ∀ {i k : Nat} {ms : List Mb}, parse b i = some (ms, k) → parseR b i = some (ms, k) ∧ (ms.map memberB).flatten = txt b 64 (k - 64)
  | 0, k, ms, e => by cases e; exact ⟨rfl, by simp [txt]⟩
  | i + 1, k, ms, e => by
    rw [parse] at e
    obtain ⟨r, hr, e2⟩ := Option.bind_eq_some_iff.1 e
    obtain ⟨x, hx, e3⟩ := Option.map_eq_some_iff.1 e2
    cases e3
    obtain ⟨h1, h2⟩ := parse_R h (ms := r.1) (k := r.2) hr
    obtain ⟨l1, l2, _, _⟩ := parseR_len h h1
    obtain ⟨K, hK, hk, hs⟩ := pMem_raw (m := x.1) (k' := x.2) hx
    obtain ⟨g1, g2, g3⟩ := mem_txt hK
    rw [sumOk, Bool.and_eq_true, decide_eq_true_eq, decide_eq_true_eq] at hs
    have hm := (member_iff hK).1 hs.2
    refine ⟨by rw [parseR, h1, Option.bind_some]; simp only; rw [hK, hk]; rfl, ?_⟩
    rw [List.map_append, List.flatten_append, h2]
    simp only [List.map_cons, List.map_nil, List.flatten_cons, List.flatten_nil, List.append_nil]
    rw [← hm, hk, show K + 4 - 64 = (r.2 - 64) + (K + 4 - r.2) by omega, txt_add, show 64 + (r.2 - 64) = r.2 by omega]
theorem R_parse {b : List UInt8} (h : 64 ≤ b.length) : ∀ {i k : Nat} {ms : List Mb}, parseR b i = some (ms, k) → (ms.map memberB).flatten = txt b 64 (k - 64) → (∀ m ∈ ms, m.pieces.length ≤ 512) → parse b i = some (ms, k)
  | 0, k, ms, e, _, _ => by cases e; rfl
  | i + 1, k, ms, e, hf, hp => by
    rw [parseR] at e
    obtain ⟨r, hr, e2⟩ := Option.bind_eq_some_iff.1 e
    obtain ⟨x, hx, e3⟩ := Option.map_eq_some_iff.1 e2
    cases e3
    obtain ⟨l1, l2, l3, l4⟩ := parseR_len h (ms := r.1) (k := r.2) hr
    obtain ⟨g1, g2, g3⟩ := mem_txt (m := x.1) (K := x.2) hx
    rw [List.map_append, List.flatten_append] at hf
    simp only [List.map_cons, List.map_nil, List.flatten_cons, List.flatten_nil, List.append_nil] at hf
    rw [show x.2 + 4 - 64 = (r.2 - 64) + (x.2 + 4 - r.2) by omega, txt_add, show 64 + (r.2 - 64) = r.2 by omega] at hf
    obtain ⟨f1, f2⟩ := List.append_inj hf (by rw [l4, txt_len (by omega)])
    have ih := R_parse h (ms := r.1) (k := r.2) hr f1 (fun m hm => hp m (List.mem_append_left _ hm))
    have hs : sumOk b r.2 (x.1, x.2) = true := by
      rw [sumOk, decide_eq_true (hp x.1 (by simp)), decide_eq_true ((member_iff hx).2 f2.symm)]; rfl
    rw [parse, ih, Option.bind_some]
    simp only
    rw [pMem, hx, Option.bind_some, if_pos hs]
    rfl
/-! ### the header -/
theorem head_line {b : List UInt8} (h : headOk b = true) : b.take 64 = closeB (lineB (numN b 8)) := by
  have hl := headOk_len h
  rw [headOk, Bool.and_eq_true, Bool.and_eq_true, decide_eq_true_eq, decide_eq_true_eq] at h
  obtain ⟨_, h1, h2⟩ := h
  rw [← h1, hdB, lineB, numN_cast, half_txt (by omega)]
  have e : b.take 12 = txt b 0 8 ++ txt b 8 4 := by
    have := txt_add b 0 8 4
    rw [show txt b 0 (8 + 4) = b.take 12 by simp [txt]] at this
    exact this
  rw [e, of_decide_eq_true h2]
theorem line_head {b : List UInt8} {n : Nat} (hl : 64 ≤ b.length) (hn : n < 4294967296) (h : b.take 64 = closeB (lineB n)) : headOk b = true ∧ numN b 8 = n := by
  have e : b.take 12 = magicB ++ halfB n := by
    have : (b.take 64).take 12 = b.take 12 := by rw [List.take_take]; rfl
    rw [← this, h]
    rfl
  have e8 : txt b 0 8 = magicB := by
    have : (b.take 12).take 8 = txt b 0 8 := by rw [List.take_take]; simp [txt]
    rw [← this, e]; rfl
  have e4 : txt b 8 4 = halfB n := by
    have := txt_add b 0 8 4
    rw [show txt b 0 (8 + 4) = b.take 12 by simp [txt], e, e8] at this
    exact (List.append_cancel_left this).symm
  refine ⟨headOk_yes hl (by rw [hdB, e, h]; rfl) e8, ?_⟩
  rw [txt4 (by omega), halfB] at e4
  injection e4 with a1 e4
  injection e4 with a2 e4
  injection e4 with a3 e4
  injection e4 with a4 _
  rw [numN, numAt, a1, a2, a3, a4, num4_halfB _ (by omega) (by omega)]
  rfl
theorem pGood_eq (l : List Mb) : pGood l = goodB l := by
  rw [Bool.eq_iff_iff, pGood_iff]
  constructor
  · rintro ⟨h1, h2⟩; exact good_of_adds h1 (fun j m _ hj => h2 j m hj)
  · intro h
    have hlen : l.length ≤ 8192 := by rw [goodB, Bool.and_eq_true] at h; exact of_decide_eq_true h.1
    refine ⟨hlen, ?_⟩
    have key : ∀ i, ∀ j m, j < i → l[j]? = some m → addAt l j m = true := by
      intro i
      induction i with
      | zero => intro j m hj; omega
      | succ i ih =>
        intro j m hj hm
        rcases Nat.lt_or_ge j i with h' | h'
        · exact ih j m h' hm
        · obtain rfl : j = i := by omega
          cases hb : addAt l j m with
          | true => rfl
          | false => rw [bad_of_add ih hm hb] at h; cases h
    exact fun j m hj => key (j + 1) j m (by omega) hj
theorem pieces_len (size : Int) : ∀ (L : List Pc) (next : Int), piecesOk size next L = true → 0 ≤ next → L = [] ∨ next + 512 * ((L.length : Int) - 1) < size
  | [], _, _, _ => .inl rfl
  | p :: r, next, h, hn => by
    rw [piecesOk_cons, Bool.and_eq_true, pcOk] at h
    simp only [Bool.and_eq_true, decide_eq_true_eq] at h
    obtain ⟨⟨⟨⟨⟨h1, h2⟩, _⟩, _⟩, _⟩, h3⟩ := h
    right
    rcases pieces_len size r (p.off + 512) h3 (by omega) with rfl | h4
    · simp; omega
    · rw [List.length_cons]; omega
theorem add_pieces {last : Option (List (List UInt8))} {fk fl : List UInt8 → Int} {m : Mb} (h : addOk last fk fl m = true) : m.pieces.length ≤ 512 := by
  rw [addOk] at h
  split at h
  · cases h
  · rw [Bool.and_eq_true, Bool.and_eq_true] at h
    have h3 := h.2.2
    rw [kindOkP] at h3
    split at h3
    · rw [Bool.and_eq_true] at h3
      have := h3.1
      simp [bareB] at this
      rw [this.2]; simp
    · split at h3
      · rw [Bool.and_eq_true, piecesB, Bool.and_eq_true, Bool.and_eq_true] at h3
        have h4 := of_decide_eq_true h3.2.1.2
        rcases pieces_len _ _ _ h3.2.2 (Int.le_refl 0) with h5 | h5
        · rw [h5]; simp
        · omega
      · split at h3
        · simp [linkOkP, bareB] at h3
          rw [h3.1.2]; simp
        · cases h3
/-- what the reference opens -/
def rOpen (b : List UInt8) : Option (List Mb) := if 64 ≤ b.length then (parseR b (numN b 8)).bind fun r => if r.2 = b.length ∧ goodB r.1 = true ∧ makeB r.1 = b then some r.1 else none else none
theorem good_pieces {l : List Mb} (h : goodB l = true) : ∀ m ∈ l, m.pieces.length ≤ 512 := fun m hm => by
  rw [← pGood_eq] at h
  obtain ⟨j, hj, rfl⟩ := List.mem_iff_getElem.1 hm
  exact add_pieces ((pGood_iff.1 h).2 j _ (List.getElem?_eq_getElem hj))
theorem open_some {b : List UInt8} {ms : List Mb} : pOpen b = some ms ↔ rOpen b = some ms := by
  constructor
  · intro h
    rw [pOpen] at h
    split at h
    · rename_i hok
      obtain ⟨r, hr, h2⟩ := Option.bind_eq_some_iff.1 h
      split at h2
      · rename_i hg
        cases h2
        have hl := headOk_len hok
        obtain ⟨h3, h4⟩ := parse_R hl (ms := r.1) (k := r.2) hr
        obtain ⟨l1, l2, l3, l4⟩ := parseR_len hl h3
        have hmk : makeB r.1 = b := by
          rw [makeB, l3, ← head_line hok, h4, hg.2]
          have : txt b 64 (b.length - 64) = b.drop 64 := by rw [txt, List.take_of_length_le (by rw [List.length_drop]; exact Nat.le_refl _)]
          rw [this, List.take_append_drop]
        rw [rOpen, if_pos hl, h3, Option.bind_some, if_pos ⟨hg.2, by rw [← pGood_eq]; exact hg.1, hmk⟩]
      · cases h2
    · cases h
  · intro h
    rw [rOpen] at h
    split at h
    · rename_i hl
      obtain ⟨r, hr, h2⟩ := Option.bind_eq_some_iff.1 h
      split at h2
      · rename_i hg
        obtain ⟨g1, g2, g3⟩ := hg
        cases h2
        obtain ⟨l1, l2, l3, l4⟩ := parseR_len hl (ms := r.1) (k := r.2) hr
        have hcl : (closeB (lineB (r.1.length : Int))).length = 64 := closeB_len _ (lineB_len _)
        have ht : b.take 64 = closeB (lineB (r.1.length : Int)) := by
          conv => lhs; rw [← g3]
          rw [makeB, List.take_append_of_le_length (by omega), List.take_of_length_le (by omega)]
        have hd : (r.1.map memberB).flatten = txt b 64 (r.2 - 64) := by
          rw [g1]
          have : txt b 64 (b.length - 64) = b.drop 64 := by rw [txt, List.take_of_length_le (by rw [List.length_drop]; exact Nat.le_refl _)]
          rw [this]
          conv => rhs; rw [← g3]
          rw [makeB, List.drop_append_of_le_length (by omega), List.drop_of_length_le (by omega)]
          rfl
        obtain ⟨hok, _⟩ := line_head hl (by rw [l3]; exact numN_lt _ _) ht
        have hp := R_parse hl (ms := r.1) (k := r.2) hr hd (good_pieces g2)
        rw [pOpen, if_pos hok, hp, Option.bind_some, if_pos ⟨by rw [pGood_eq]; exact g2, g1⟩]
      · cases h2
    · cases h
theorem open_eq (b : List UInt8) : pOpen b = rOpen b := by
  cases h : rOpen b with
  | some ms => exact open_some.2 h
  | none =>
    cases h2 : pOpen b with
    | none => rfl
    | some ms => rw [open_some.1 h2] at h; cases h
end Go.Proofs.YtlecpjfggoehdaaGreatDoor.Ar

set_option linter.unusedVariables false
set_option linter.unusedSimpArgs false
set_option maxRecDepth 100000
namespace Go.Proofs.YtlecpjfggoehdaaGreatDoor.Ar
open Go.RowKit Go.Sort Go.Lib Go.Proofs.YtlecpjfggoehdaaGreatDoor.Rs

theorem byteD_app (p l : List UInt8) (i : Nat) : byteD (p ++ l) (p.length + i) = byteD l i := by
  unfold byteD
  rw [List.getD_eq_getElem?_getD, List.getD_eq_getElem?_getD, List.getElem?_append_right (by omega), Nat.add_sub_cancel_left]
theorem byteD_left (p l : List UInt8) (i : Nat) (h : i < p.length) : byteD (p ++ l) i = byteD p i := by
  unfold byteD
  rw [List.getD_eq_getElem?_getD, List.getD_eq_getElem?_getD, List.getElem?_append_left h]
theorem numAt_left (p l : List UInt8) (i : Nat) (h : i + 4 ≤ p.length) : numAt (p ++ l) i = numAt p i := by
  unfold numAt
  rw [byteD_left _ _ _ (by omega), byteD_left _ _ _ (by omega), byteD_left _ _ _ (by omega), byteD_left _ _ _ (by omega)]
theorem numAt_app (p l : List UInt8) (i : Nat) : numAt (p ++ l) (p.length + i) = numAt l i := by
  unfold numAt
  rw [byteD_app, show p.length + i + 1 = p.length + (i + 1) by omega, show p.length + i + 2 = p.length + (i + 2) by omega, show p.length + i + 3 = p.length + (i + 3) by omega, byteD_app, byteD_app, byteD_app]
theorem num_at {p s : List UInt8} {v : Int} {k : Nat} (hk : p.length = k) (h0 : 0 ≤ v) (h1 : v < 4294967296) : numAt (p ++ (halfB v ++ s)) k = v := by
  subst hk
  have := numAt_app p (halfB v ++ s) 0
  rw [Nat.add_zero] at this
  rw [this]
  exact num4_halfB v h0 h1
theorem numN_at {p s : List UInt8} {n k : Nat} (hk : p.length = k) (h1 : n < 4294967296) : numN (p ++ (halfB n ++ s)) k = n := by
  rw [numN, num_at hk (by omega) (by omega)]; rfl
theorem txt_left (p l : List UInt8) (i n : Nat) (h : i + n ≤ p.length) : txt (p ++ l) i n = txt p i n := by
  unfold txt
  rw [List.drop_append_of_le_length (by omega), List.take_append_of_le_length (by rw [List.length_drop]; omega)]
theorem txt_at {p t s : List UInt8} {k n : Nat} (hk : p.length = k) (hn : t.length = n) : txt (p ++ (t ++ s)) k n = t := by
  subst hk hn
  unfold txt
  rw [List.drop_left' rfl, List.take_left' rfl]

/-- what a member's numbers must fit -/
structure MbFits (m : Mb) : Prop where
  kind0 : 0 ≤ m.kind
  kind1 : m.kind < 4294967296
  path : m.path.length < 4294967296
  link : m.link.length < 4294967296
  size0 : 0 ≤ m.size
  size1 : m.size < 4294967296
  num : m.pieces.length < 4294967296
  pcs : ∀ p ∈ m.pieces, 0 ≤ p.off ∧ p.off < 4294967296 ∧ p.data.length < 4294967296

theorem raw_pcs : ∀ (L : List Pc) (p s : List UInt8) (k : Nat), p.length = k → (∀ q ∈ L, 0 ≤ q.off ∧ q.off < 4294967296 ∧ q.data.length < 4294967296) →
    rawPcs (p ++ ((L.map pieceB).flatten ++ s)) L.length k = some (L, k + ((L.map pieceB).flatten).length)
  | [], p, s, k, hk, _ => rfl
  | q :: L, p, s, k, hk, h => by
    obtain ⟨h0, h1, h2⟩ := h q (by simp)
    have ih := raw_pcs L (p ++ pieceB q) s (k + 8 + q.data.length) (by
      rw [List.length_append, hk, pieceB, List.length_append, List.length_append]
      show k + (4 + 4 + q.data.length) = _
      omega) (fun x hx => h x (by simp [hx]))
    have e1 : p ++ (((q :: L).map pieceB).flatten ++ s) = p ++ (halfB q.off ++ (halfB q.data.length ++ (q.data ++ ((L.map pieceB).flatten ++ s)))) := by
      simp only [List.map_cons, List.flatten_cons, pieceB, List.append_assoc]
    have e2 : p ++ (((q :: L).map pieceB).flatten ++ s) = (p ++ halfB q.off) ++ (halfB q.data.length ++ (q.data ++ ((L.map pieceB).flatten ++ s))) := by
      rw [e1]; simp only [List.append_assoc]
    have e3 : p ++ (((q :: L).map pieceB).flatten ++ s) = (p ++ halfB q.off ++ halfB q.data.length) ++ (q.data ++ ((L.map pieceB).flatten ++ s)) := by
      rw [e1]; simp only [List.append_assoc]
    have e4 : p ++ (((q :: L).map pieceB).flatten ++ s) = (p ++ pieceB q) ++ ((L.map pieceB).flatten ++ s) := by
      simp only [List.map_cons, List.flatten_cons, List.append_assoc]
    have n1 : numAt (p ++ (((q :: L).map pieceB).flatten ++ s)) k = q.off := by rw [e1]; exact num_at hk h0 h1
    have n2 : numN (p ++ (((q :: L).map pieceB).flatten ++ s)) (k + 4) = q.data.length := by rw [e2]; exact numN_at (by rw [List.length_append, hk]; rfl) h2
    have n3 : txt (p ++ (((q :: L).map pieceB).flatten ++ s)) (k + 8) q.data.length = q.data := by rw [e3]; exact txt_at (by rw [List.length_append, List.length_append, hk]; rfl) rfl
    rw [← e4] at ih
    rw [List.length_cons, rawPcs, n1, n2, n3, if_pos (by
      rw [e3, List.length_append, List.length_append, List.length_append, List.length_append, hk]
      show k + 8 + q.data.length ≤ k + 4 + 4 + (q.data.length + _)
      omega), ih]
    rw [Option.map_some]
    simp only [List.map_cons, List.flatten_cons, List.length_append, pieceB]
    have hh : (halfB q.off).length = 4 := rfl
    have hh2 : (halfB (q.data.length : Int)).length = 4 := rfl
    rw [hh, hh2]
    congr 2
    omega
theorem front_len (m : Mb) : (frontB m).length = 20 + m.path.length + m.link.length := by
  rw [frontB, List.length_append, List.length_append]; rfl
theorem raw_member (m : Mb) (p s : List UInt8) (k : Nat) (hk : p.length = k) (h : MbFits m) :
    rawMem (p ++ (memberB m ++ s)) k = some (m, k + (innerB m).length) := by
  obtain ⟨kind, path, link, size, pieces⟩ := m
  have e1 : p ++ (memberB ⟨kind, path, link, size, pieces⟩ ++ s) = p ++ (halfB kind ++ (halfB path.length ++ (halfB link.length ++ (halfB size ++ (halfB pieces.length ++ (path ++ (link ++ ((pieces.map pieceB).flatten ++ (halfB (sumOnB 0 (innerB ⟨kind, path, link, size, pieces⟩)) ++ s))))))))) := by
    simp only [memberB, innerB, frontB, numsOf, List.map_cons, List.map_nil, List.flatten_cons, List.flatten_nil, List.append_assoc, List.append_nil, List.nil_append]
  generalize halfB (sumOnB 0 (innerB ⟨kind, path, link, size, pieces⟩)) ++ s = r at e1
  have hr : True := trivial
  generalize hb : p ++ (memberB ⟨kind, path, link, size, pieces⟩ ++ s) = b at *
  have hlen : k + 20 + path.length + link.length + ((pieces.map pieceB).flatten).length + 4 ≤ b.length := by
    rw [← hb, List.length_append, List.length_append, memberB, List.length_append, innerB, List.length_append, front_len, hk]
    show _ ≤ k + (20 + path.length + link.length + ((pieces.map pieceB).flatten).length + 4 + s.length)
    omega
  have n0 : numAt b k = kind := by rw [e1]; exact num_at hk h.kind0 h.kind1
  have n1 : numN b (k + 4) = path.length := by
    rw [e1, ← List.append_assoc p]
    exact numN_at (by rw [List.length_append, hk]; rfl) h.path
  have n2 : numN b (k + 8) = link.length := by
    rw [e1, ← List.append_assoc p, ← List.append_assoc (p ++ _)]
    exact numN_at (by rw [List.length_append, List.length_append, hk]; rfl) h.link
  have n3 : numAt b (k + 12) = size := by
    rw [e1, ← List.append_assoc p, ← List.append_assoc (p ++ _), ← List.append_assoc (p ++ _ ++ _)]
    exact num_at (by rw [List.length_append, List.length_append, List.length_append, hk]; rfl) h.size0 h.size1
  have n4 : numN b (k + 16) = pieces.length := by
    rw [e1, ← List.append_assoc p, ← List.append_assoc (p ++ _), ← List.append_assoc (p ++ _ ++ _), ← List.append_assoc (p ++ _ ++ _ ++ _)]
    exact numN_at (by rw [List.length_append, List.length_append, List.length_append, List.length_append, hk]; rfl) h.num
  have n5 : txt b (k + 20) path.length = path := by
    rw [e1, ← List.append_assoc p, ← List.append_assoc (p ++ _), ← List.append_assoc (p ++ _ ++ _), ← List.append_assoc (p ++ _ ++ _ ++ _), ← List.append_assoc (p ++ _ ++ _ ++ _ ++ _)]
    exact txt_at (by rw [List.length_append, List.length_append, List.length_append, List.length_append, List.length_append, hk]; rfl) rfl
  have n6 : txt b (k + 20 + path.length) link.length = link := by
    rw [e1, ← List.append_assoc p, ← List.append_assoc (p ++ _), ← List.append_assoc (p ++ _ ++ _), ← List.append_assoc (p ++ _ ++ _ ++ _), ← List.append_assoc (p ++ _ ++ _ ++ _ ++ _), ← List.append_assoc (p ++ _ ++ _ ++ _ ++ _ ++ _)]
    exact txt_at (by rw [List.length_append, List.length_append, List.length_append, List.length_append, List.length_append, List.length_append, hk]; rfl) rfl
  have n7 : rawPcs b pieces.length (k + 20 + path.length + link.length) = some (pieces, k + 20 + path.length + link.length + ((pieces.map pieceB).flatten).length) := by
    rw [e1, ← List.append_assoc p, ← List.append_assoc (p ++ _), ← List.append_assoc (p ++ _ ++ _), ← List.append_assoc (p ++ _ ++ _ ++ _), ← List.append_assoc (p ++ _ ++ _ ++ _ ++ _), ← List.append_assoc (p ++ _ ++ _ ++ _ ++ _ ++ _), ← List.append_assoc (p ++ _ ++ _ ++ _ ++ _ ++ _ ++ _)]
    exact raw_pcs pieces _ _ _ (by rw [List.length_append, List.length_append, List.length_append, List.length_append, List.length_append, List.length_append, List.length_append, hk]; rfl) h.pcs
  rw [rawMem, n0, n1, n2, n3, n4, n5, n6, n7, if_pos (by omega), Option.bind_some, if_pos (by show k + 20 + path.length + link.length + _ + 4 ≤ _; omega)]
  simp only [innerB, List.length_append, front_len]
  congr 2
  omega
theorem member_len (m : Mb) : (memberB m).length = (innerB m).length + 4 := by rw [memberB, List.length_append]; rfl

theorem make_num {l : List Mb} (h : l.length < 4294967296) : numN (makeB l) 8 = l.length := by
  have e : makeB l = magicB ++ (halfB l.length ++ (List.replicate 48 0 ++ (halfB (sumOnB 0 ((lineB (l.length : Int)).take 60)) ++ (l.map memberB).flatten))) := rfl
  rw [e]
  exact numN_at rfl h
theorem make_len (l : List Mb) : (makeB l).length = 64 + ((l.map memberB).flatten).length := by
  rw [makeB, List.length_append, closeB_len _ (lineB_len _)]
theorem parseR_make {l : List Mb} (hf : ∀ m ∈ l, MbFits m) : ∀ i, i ≤ l.length → parseR (makeB l) i = some (l.take i, 64 + (((l.take i).map memberB).flatten).length)
  | 0, _ => rfl
  | i + 1, h => by
    have hi : i < l.length := by omega
    have e : makeB l = (closeB (lineB (l.length : Int)) ++ ((l.take i).map memberB).flatten) ++ (memberB l[i] ++ ((l.drop (i + 1)).map memberB).flatten) := by
      rw [makeB, List.append_assoc]
      congr 1
      rw [← List.flatten_cons, ← List.map_cons, ← List.flatten_append, ← List.map_append, List.getElem_cons_drop, List.take_append_drop]
    have hr := raw_member l[i] (closeB (lineB (l.length : Int)) ++ ((l.take i).map memberB).flatten) (((l.drop (i + 1)).map memberB).flatten) (64 + (((l.take i).map memberB).flatten).length) (by rw [List.length_append, closeB_len _ (lineB_len _)]) (hf _ (List.getElem_mem _))
    rw [← e] at hr
    rw [parseR, parseR_make hf i (by omega), Option.bind_some]
    simp only
    rw [hr, Option.map_some]
    have ht : l.take (i + 1) = l.take i ++ [l[i]] := (List.take_append_getElem hi).symm
    rw [ht, List.map_append, List.flatten_append, List.length_append]
    simp only [List.map_cons, List.map_nil, List.flatten_cons, List.flatten_nil, List.append_nil, member_len]
    congr 2
    omega
theorem good_fits {l : List Mb} (hg : goodB l = true) (hs : ∀ m ∈ l, MbSm m) : ∀ m ∈ l, MbFits m := fun m hm => by
  have hp := hg
  rw [← pGood_eq] at hp
  obtain ⟨j, hj, rfl⟩ := List.mem_iff_getElem.1 hm
  have ha := (pGood_iff.1 hp).2 j _ (List.getElem?_eq_getElem hj)
  have h1 := (hs _ hm).path
  have h2 := (hs _ hm).link
  have hd := add_data ha
  have h3 := add_pieces ha
  rw [addAt, addOk] at ha
  split at ha
  · cases ha
  · rw [Bool.and_eq_true, Bool.and_eq_true] at ha
    have hk := ha.2.2
    rw [kindOkP] at hk
    generalize l[j] = m at *
    have hb : bareB m = true → m.size = 0 ∧ m.pieces = [] := fun h => by
      rw [bareB, Bool.and_eq_true, decide_eq_true_eq] at h
      exact ⟨h.1, List.isEmpty_iff.1 h.2⟩
    split at hk
    · rename_i h
      rw [Bool.and_eq_true] at hk
      obtain ⟨b1, b2⟩ := hb hk.1
      exact ⟨by omega, by omega, by omega, by omega, by omega, by omega, by rw [b2]; decide, fun p hp => by rw [b2] at hp; cases hp⟩
    · split at hk
      · rename_i h
        rw [Bool.and_eq_true, piecesB, Bool.and_eq_true, Bool.and_eq_true, decide_eq_true_eq, decide_eq_true_eq] at hk
        obtain ⟨_, ⟨g1, g2⟩, g3⟩ := hk
        refine ⟨by omega, by omega, by omega, by omega, by omega, by omega, by omega, fun p hp => ?_⟩
        have ho : ∀ (L : List Pc) (next : Int), 0 ≤ next → piecesOk m.size next L = true → ∀ p ∈ L, 0 ≤ p.off ∧ p.off < m.size := by
          intro L
          induction L with
          | nil => intro next _ _ p hp; cases hp
          | cons q L ih =>
            intro next hn h p hp
            rw [piecesOk_cons, Bool.and_eq_true, pcOk] at h
            simp only [Bool.and_eq_true, decide_eq_true_eq] at h
            obtain ⟨⟨⟨⟨⟨h1, h2⟩, _⟩, _⟩, _⟩, h3⟩ := h
            rcases List.mem_cons.1 hp with rfl | hp
            · exact ⟨by omega, h2⟩
            · exact ih (q.off + 512) (by omega) h3 p hp
        obtain ⟨o1, o2⟩ := ho _ 0 (by omega) g3 p hp
        exact ⟨o1, by omega, by have := hd p hp; omega⟩
      · split at hk
        · rename_i h
          rw [linkOkP, Bool.and_eq_true] at hk
          obtain ⟨b1, b2⟩ := hb hk.1
          exact ⟨by omega, by omega, by omega, by omega, by omega, by omega, by rw [b2]; decide, fun p hp => by rw [b2] at hp; cases hp⟩
        · cases hk
/-- Open of what Make made is the list. -/
theorem back {l : List Mb} (hg : goodB l = true) (hs : ∀ m ∈ l, MbSm m) : pOpen (makeB l) = some l := by
  have hl : l.length ≤ 8192 := by rw [goodB, Bool.and_eq_true] at hg; exact of_decide_eq_true hg.1
  have hp := parseR_make (good_fits hg hs) l.length (Nat.le_refl _)
  rw [List.take_of_length_le (Nat.le_refl _), ← make_len] at hp
  rw [open_eq, rOpen, if_pos (by rw [make_len]; omega), make_num (by omega), hp, Option.bind_some, if_pos ⟨rfl, hg, rfl⟩]
/-- .. and what is opened is a good list whose bytes these are -/
theorem forth {b : List UInt8} {ms : List Mb} (h : pOpen b = some ms) : goodB ms = true ∧ makeB ms = b := by
  rw [open_eq, rOpen] at h
  split at h
  · obtain ⟨r, hr, h2⟩ := Option.bind_eq_some_iff.1 h
    split at h2
    · rename_i hg
      cases h2
      exact hg.2
    · cases h2
  · cases h

/-! ### bytes behind -/
theorem rawPcs_app {b : List UInt8} (c : List UInt8) : ∀ {n k : Nat} {r : List Pc × Nat}, rawPcs b n k = some r → rawPcs (b ++ c) n k = some r
  | 0, k, r, h => h
  | n + 1, k, r, h => by
    rw [rawPcs] at h
    split at h
    · rename_i hk
      obtain ⟨q, hq, rfl⟩ := Option.map_eq_some_iff.1 h
      have e1 : numN (b ++ c) (k + 4) = numN b (k + 4) := by rw [numN, numAt_left _ _ _ (by omega), numN]
      rw [rawPcs, e1, if_pos (by rw [List.length_append]; omega), rawPcs_app c hq, numAt_left _ _ _ (by omega), txt_left _ _ _ _ (by omega)]
      rfl
    · cases h
theorem rawMem_app {b : List UInt8} (c : List UInt8) {k : Nat} {r : Mb × Nat} (h : rawMem b k = some r) : rawMem (b ++ c) k = some r := by
  rw [rawMem] at h
  split at h
  · rename_i hk
    obtain ⟨q, hq, h2⟩ := Option.bind_eq_some_iff.1 h
    split at h2
    · rename_i hK
      cases h2
      have e1 : numN (b ++ c) (k + 4) = numN b (k + 4) := by rw [numN, numAt_left _ _ _ (by omega), numN]
      have e2 : numN (b ++ c) (k + 8) = numN b (k + 8) := by rw [numN, numAt_left _ _ _ (by omega), numN]
      have e3 : numN (b ++ c) (k + 16) = numN b (k + 16) := by rw [numN, numAt_left _ _ _ (by omega), numN]
      rw [rawMem, e1, e2, e3, if_pos (by rw [List.length_append]; omega), rawPcs_app c hq, Option.bind_some, if_pos (by rw [List.length_append]; omega), numAt_left _ _ _ (by omega), numAt_left _ _ _ (by omega), txt_left _ _ _ _ (by omega), txt_left _ _ _ _ (by omega)]
    · cases h2
  · cases h
theorem parseR_app {b : List UInt8} (c : List UInt8) : ∀ {i : Nat} {r : List Mb × Nat}, parseR b i = some r → parseR (b ++ c) i = some r
  | 0, r, h => h
  | i + 1, r, h => by
    rw [parseR] at h
    obtain ⟨q, hq, h2⟩ := Option.bind_eq_some_iff.1 h
    obtain ⟨x, hx, rfl⟩ := Option.map_eq_some_iff.1 h2
    rw [parseR, parseR_app c hq, Option.bind_some, rawMem_app c hx]
    rfl
theorem open_parts {b : List UInt8} {ms : List Mb} (h : pOpen b = some ms) : 64 ≤ b.length ∧ parseR b (numN b 8) = some (ms, b.length) := by
  rw [open_eq, rOpen] at h
  split at h
  · rename_i hl
    obtain ⟨r, hr, h2⟩ := Option.bind_eq_some_iff.1 h
    split at h2
    · rename_i hg
      cases h2
      refine ⟨hl, ?_⟩
      rw [hr, ← hg.1]
    · cases h2
  · cases h
/-- of bytes and the same with more behind them at most one is opened -/
theorem open_one {b c : List UInt8} {ms ns : List Mb} (h : pOpen b = some ms) (h2 : pOpen (b ++ c) = some ns) : c = [] := by
  obtain ⟨l1, p1⟩ := open_parts h
  obtain ⟨l2, p2⟩ := open_parts h2
  have e : numN (b ++ c) 8 = numN b 8 := by rw [numN, numAt_left _ _ _ (by omega), numN]
  rw [e, parseR_app c p1] at p2
  injection p2 with p2
  injection p2 with _ p3
  rw [List.length_append] at p3
  exact List.eq_nil_of_length_eq_zero (by omega)
theorem whole_cut {l : List Mb} (hg : goodB l = true) (hs : ∀ m ∈ l, MbSm m) {k : Nat} (hk : k < (makeB l).length) : pOpen ((makeB l).take k) = none := by
  cases h : pOpen ((makeB l).take k) with
  | none => rfl
  | some ms =>
    have hb := back hg hs
    rw [← List.take_append_drop k (makeB l)] at hb
    have := open_one h hb
    have := congrArg List.length this
    rw [List.length_drop, List.length_nil] at this
    omega
theorem whole_more {l : List Mb} (hg : goodB l = true) (hs : ∀ m ∈ l, MbSm m) {c : List UInt8} (hc : c ≠ []) : pOpen (makeB l ++ c) = none := by
  cases h : pOpen (makeB l ++ c) with
  | none => rfl
  | some ms => exact absurd (open_one (back hg hs) h) hc
end Go.Proofs.YtlecpjfggoehdaaGreatDoor.Ar
