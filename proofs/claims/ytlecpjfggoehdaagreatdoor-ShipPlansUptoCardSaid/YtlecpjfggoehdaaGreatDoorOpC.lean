
/- Archive: a member read. -/
import Derived.Test.YtlecpjfggoehdaaGreatDoorOpA
import Derived.Test.YtlecpjfggoehdaaGreatDoorArTy
import Derived.Deep.DeepCutAuto
set_option linter.unusedVariables false
set_option linter.unusedSimpArgs false
set_option maxRecDepth 100000
namespace Go.Proofs.YtlecpjfggoehdaaGreatDoor.Ar
open Go.RowKit Go.Sort Go.Lib Go.Proofs.YtlecpjfggoehdaaGreatDoor.Rs

/-! ### what is read, whatever the sum says -/
def numN (b : List UInt8) (k : Nat) : Nat := (numAt b k).toNat
theorem numN_cast (b : List UInt8) (k : Nat) : ((numN b k : Nat) : Int) = numAt b k := Int.toNat_of_nonneg (num4_lo _ _ _ _)
theorem numN_lt (b : List UInt8) (k : Nat) : numN b k < 4294967296 := by have := num4_hi (byteD b k) (byteD b (k + 1)) (byteD b (k + 2)) (byteD b (k + 3)); unfold numN numAt; have := num4_lo (byteD b k) (byteD b (k + 1)) (byteD b (k + 2)) (byteD b (k + 3)); omega
def rawPcs (b : List UInt8) : Nat → Nat → Option (List Pc × Nat)
  | 0, k => some ([], k)
  | n + 1, k => if k + 8 + numN b (k + 4) ≤ b.length then (rawPcs b n (k + 8 + numN b (k + 4))).map (fun r => (⟨numAt b k, txt b (k + 8) (numN b (k + 4))⟩ :: r.1, r.2)) else none
/-- a member, and the place of its sum -/
def rawMem (b : List UInt8) (k : Nat) : Option (Mb × Nat) :=
  if k + 20 + numN b (k + 4) + numN b (k + 8) ≤ b.length then
    (rawPcs b (numN b (k + 16)) (k + 20 + numN b (k + 4) + numN b (k + 8))).bind fun r => if r.2 + 4 ≤ b.length then some (⟨numAt b k, txt b (k + 20) (numN b (k + 4)), txt b (k + 20 + numN b (k + 4)) (numN b (k + 8)), numAt b (k + 12), r.1⟩, r.2) else none
  else none
/-- .. and what the program makes of it -/
def sumOk (b : List UInt8) (k : Nat) (x : Mb × Nat) : Bool := decide (x.1.pieces.length ≤ 512) && decide (numAt b x.2 = sumOnB 0 (txt b k (x.2 - k)))
def pMem (b : List UInt8) (k : Nat) : Option (Mb × Nat) := (rawMem b k).bind fun x => if sumOk b k x then some (x.1, x.2 + 4) else none
theorem rawPcs_len {b : List UInt8} : ∀ {n k : Nat} {r : List Pc × Nat}, rawPcs b n k = some r → r.1.length = n ∧ k + 8 * n ≤ r.2 ∧ (n = 0 ∨ r.2 ≤ b.length)
  | 0, k, r, h => by cases h; exact ⟨rfl, Nat.le_refl _, .inl rfl⟩
  | n + 1, k, r, h => by
    rw [rawPcs] at h
    split at h
    · obtain ⟨q, hq, rfl⟩ := Option.map_eq_some_iff.1 h
      obtain ⟨h1, h2, h3⟩ := rawPcs_len hq
      refine ⟨by simp [h1], by simp only; omega, .inr ?_⟩
      rcases h3 with h3 | h3
      · subst h3; cases hq; assumption
      · exact h3
    · cases h
theorem raw_short {b : List UInt8} {k : Nat} (h : ¬ k + 20 + numN b (k + 4) + numN b (k + 8) ≤ b.length) : pMem b k = none := by rw [pMem, rawMem, if_neg h]; rfl
theorem raw_many {b : List UInt8} {k : Nat} (h : 512 < numN b (k + 16)) : pMem b k = none := by
  rw [pMem, rawMem]
  split
  · cases hp : rawPcs b (numN b (k + 16)) (k + 20 + numN b (k + 4) + numN b (k + 8)) with
    | none => rfl
    | some r =>
      have := (rawPcs_len hp).1
      simp only [Option.bind_some]
      split
      · simp only [Option.bind_some]; rw [if_neg]; simp [sumOk, this]; omega
      · rfl
  · rfl

/-- what reading a member answers -/
def MemPost (w : World) (R : Nat) (vb : Value) (b : List UInt8) (k : Nat) (e : Ending) (w' : World) : Prop :=
  w.grownBy w' (some R) ∧ match pMem b k with
  | some (m, k') => ∃ vp, e = .returned (.agg (mbCells m vp).toArray) ∧ OwnP w.heap.size w' vp m.pieces ∧ Rd w' R vb b k'
  | none => e = .panicked giveUp
theorem MemPost.no {w : World} {R : Nat} {vb : Value} {b : List UInt8} {k : Nat} {w' : World} (h : pMem b k = none) (hg : w.grownBy w' (some R)) : MemPost w R vb b k (.panicked giveUp) w' := ⟨hg, by rw [h]⟩
theorem MemPost.yes {w : World} {R : Nat} {vb vp : Value} {b : List UInt8} {k k' : Nat} {m : Mb} {w' : World} (h : pMem b k = some (m, k')) (hg : w.grownBy w' (some R)) (ho : OwnP w.heap.size w' vp m.pieces) (hr : Rd w' R vb b k') : MemPost w R vb b k (.returned (.agg (mbCells m vp).toArray)) w' := ⟨hg, by rw [h]; exact ⟨vp, rfl, ho, hr⟩⟩

def HalfPost (w : World) (R : Nat) (vb : Value) (b : List UInt8) (k : Nat) (e : Ending) (w' : World) : Prop :=
  (k + 4 ≤ b.length ∧ e = .returned (.int .i64 (numAt b k)) ∧ Row w' R 76 [vb, .int .i64 ((k + 4 : Nat) : Int)] ∧ w.grownBy w' (some R)) ∨ (¬ k + 4 ≤ b.length ∧ e = .panicked giveUp ∧ w.grownBy w' (some R))
theorem call_rdhalf_any (R : Nat) (vb : Value) (b : List UInt8) (k : Nat) (w : World) (hr : Rd w R vb b k) : Calls Tryz.prog 74 #[.pointer (some ⟨R, 0, none⟩)] w (HalfPost w R vb b k) := by
  by_cases h : k + 4 ≤ b.length
  · exact (call_rdhalf R vb b k w hr h).mono fun e w' h2 => .inl ⟨h, h2.1, h2.2.1.row, h2.2.2⟩
  · exact (call_rdhalf_no R vb b k w hr h).mono fun e w' h2 => .inr ⟨h, h2.1, grown_of_below h2.2 _⟩
def TakePost (w : World) (R : Nat) (vb : Value) (b : List UInt8) (k n : Nat) (e : Ending) (w' : World) : Prop :=
  (k + n ≤ b.length ∧ e = .returned (.string (bs (txt b k n))) ∧ Row w' R 76 [vb, .int .i64 ((k + n : Nat) : Int)] ∧ w.grownBy w' (some R)) ∨ (¬ k + n ≤ b.length ∧ e = .panicked giveUp ∧ w.grownBy w' (some R))
theorem call_take_any (R : Nat) (vb : Value) (b : List UInt8) (k n : Nat) (x : Int) (w : World) (hr : Rd w R vb b k) (h0 : 0 < b.length) (hk : k ≤ b.length) (hx : (n : Int) = x) (hn : n < 4294967296) : Calls Tryz.prog 73 #[.pointer (some ⟨R, 0, none⟩), .int .i64 x] w (TakePost w R vb b k n) := by
  subst hx
  by_cases h : k + n ≤ b.length
  · exact (call_take R vb b k n w hr h0 h).mono fun e w' h2 => .inl ⟨h, h2.1, h2.2.1.row, h2.2.2⟩
  · exact (call_take_no R vb b k n w hr hk hn h).mono fun e w' h2 => .inr ⟨h, h2.1, grown_of_below h2.2 _⟩
theorem grown_new {w w1 : World} {R M : Nat} (h : w.grownBy w1 (some R)) (hM : w.heap.size ≤ M) (j : Nat) (v : Value) : w.grownBy (w1.setCell ⟨M, j, none⟩ v) (some R) :=
  ⟨h.os, h.tape, h.output, by simpa [World.setCell] using h.size, fun k hk hne => (Below.heap_setCell w1 ⟨M, j, none⟩ v k (by intro e; subst e; exact absurd hk (by simp; omega))).trans (h.block k hk hne)⟩
theorem grown_alloc {w w1 : World} {R : Nat} (h : w.grownBy w1 (some R)) (o : Obj) : w.grownBy (w1.alloc o) (some R) :=
  ⟨h.os, h.tape, h.output, by rw [alloc_size]; have := h.size; omega, fun k hk hne => (Below.heap_alloc w1 o k (Nat.lt_of_lt_of_le hk h.size)).trans (h.block k hk hne)⟩
theorem grown_below2 {w w1 w2 : World} {R : Nat} (h : w.grownBy w1 (some R)) (hb : Below w1.heap.size w1 w2) : w.grownBy w2 (some R) := grown_trans h (grown_of_below hb _)
theorem grown_own {w w1 w2 : World} {R : Nat} {v : Value} (h : w.grownBy w1 (some R)) (hg : w1.grownBy w2 v.ownBlock) (hv : ∀ u, v.ownBlock = some u → w.heap.size ≤ u) : w.grownBy w2 (some R) :=
  ⟨hg.os.trans h.os, hg.tape.trans h.tape, hg.output.trans h.output, Nat.le_trans h.size hg.size, fun k hk hne => (hg.block k (Nat.lt_of_lt_of_le hk h.size) (fun e => by have := hv k e.symm; omega)).trans (h.block k hk hne)⟩
theorem grown_setRow {w w1 : World} {R M : Nat} (h : w.grownBy w1 (some R)) (hM : w.heap.size ≤ M) (cs : Array Value) : w.grownBy (w1.setRow M cs) (some R) :=
  ⟨h.os, h.tape, h.output, by have := h.size; simpa [World.setRow] using this, fun k hk hne => (setRow_other w1 M k cs (by omega)).trans (h.block k hk hne)⟩
theorem sl_txt {w : World} {bb oo K k : Nat} {b : List UInt8} (hby : ∀ j x, b[j]? = some x → RByte w bb (oo + j * 1) x) (hK : K ≤ b.length) (hk : k ≤ K) (c : Nat) : Sl RByte 1 w (.slice (some ⟨bb, oo + k, none⟩) (K - k) c) (txt b k (K - k)) :=
  ⟨_, bb, oo + k, c, by rw [txt_len (by omega)], fun _ => rfl, fun j x hj => by
    rw [txt, List.getElem?_take] at hj
    split at hj
    · rw [List.getElem?_drop] at hj
      have h1 := hby (k + j) x hj
      rw [Nat.mul_one, ← Nat.add_assoc] at h1
      show RByte w bb (oo + k + j * 1) x
      rw [Nat.mul_one]
      exact h1
    · cases hj⟩
theorem stp_grown {w w' : World} {R : Nat} {vb : Value} {b : List UInt8} {k : Nat} (h : Stp w) (hr : Rd w R vb b k) (hg : w.grownBy w' (some R)) : Stp w' := by
  have g2 : Tryz.prog.globalNamed "furrow/codec.steps" = some 1 := by kernel_rfl
  unfold Stp Lib.TabIs World.var? at *
  rw [g2] at h ⊢
  simp only [Option.bind_some] at h ⊢
  have hlt : 1 < w.heap.size := by
    rcases Nat.lt_or_ge 1 w.heap.size with h' | h'
    · exact h'
    · rw [Array.getElem?_eq_none h'] at h; cases h
  have hne : 1 ≠ R := fun e => by
    subst e
    have h' : w.heap[1]? = some (.cells #[vb, .int .i64 k] 76 (0, 0)) := hr.row
    rw [h'] at h
    simp [stepsTab] at h
  rw [hg.block 1 hlt (by simpa using hne)]
  exact h
theorem row_apart {w : World} {B B' T T' : Nat} {x y : List Value} (h : Row w B T x) (h' : Row w B' T' y) (hne : T ≠ T') : B ≠ B' := fun e => by
  subst e
  have h1 : w.heap[B]? = some (.cells x.toArray T (0, 0)) := h
  have h2 : w.heap[B]? = some (.cells y.toArray T' (0, 0)) := h'
  rw [h1] at h2
  injection h2 with h2
  injection h2 with _ h3
  exact hne h3
theorem raw_none {b : List UInt8} {k : Nat} (h : rawPcs b (numN b (k + 16)) (k + 20 + numN b (k + 4) + numN b (k + 8)) = none) : pMem b k = none := by
  rw [pMem, rawMem]
  split
  · rw [h]; rfl
  · rfl
theorem raw_some {b : List UInt8} {k K : Nat} {L : List Pc} (h7 : k + 20 + numN b (k + 4) + numN b (k + 8) ≤ b.length) (h : rawPcs b (numN b (k + 16)) (k + 20 + numN b (k + 4) + numN b (k + 8)) = some (L, K)) :
    pMem b k = if K + 4 ≤ b.length then (if sumOk b k (⟨numAt b k, txt b (k + 20) (numN b (k + 4)), txt b (k + 20 + numN b (k + 4)) (numN b (k + 8)), numAt b (k + 12), L⟩, K) then some (⟨numAt b k, txt b (k + 20) (numN b (k + 4)), txt b (k + 20 + numN b (k + 4)) (numN b (k + 8)), numAt b (k + 12), L⟩, K + 4) else none) else none := by
  rw [pMem, rawMem, if_pos h7, h, Option.bind_some]
  split
  · rfl
  · rfl
theorem rawPcs_step {b : List UInt8} {n K : Nat} (h : K + 8 + numN b (K + 4) ≤ b.length) : rawPcs b (n + 1) K = (rawPcs b n (K + 8 + numN b (K + 4))).map (fun r => (⟨numAt b K, txt b (K + 8) (numN b (K + 4))⟩ :: r.1, r.2)) := by rw [rawPcs, if_pos h]
theorem rawPcs_stop {b : List UInt8} {n K : Nat} (h : ¬ K + 8 + numN b (K + 4) ≤ b.length) : rawPcs b (n + 1) K = none := by rw [rawPcs, if_neg h]

set_option maxHeartbeats 8000000 in
theorem call_rdmember (R : Nat) (vb : Value) (b : List UInt8) (k : Nat) (w : World) (hr : Rd w R vb b k) (h0 : 0 < b.length) (hk : k ≤ b.length) (hp : Stp w) :
    Calls Tryz.prog 54 #[.pointer (some ⟨R, 0, none⟩)] w (MemPost w R vb b k) := by
  have hl := hr.len
  have hcap := hr.cap
  obtain ⟨bb, oo, cc, hvb, hby⟩ : ∃ bb oo cc, vb = .slice (some ⟨bb, oo, none⟩) b.length cc ∧ ∀ j x, b[j]? = some x → RByte w bb (oo + j * 1) x := by
    obtain ⟨a, bb, oo, cc, e, ha, hc⟩ := hr.bytes
    rw [ha h0] at e
    exact ⟨bb, oo, cc, e, hc⟩
  have HVb := Lib.hid hvb
  have HBy := Lib.hid hby
  have hcc : b.length ≤ cc := hcap _ _ _ hvb
  have HCap := Lib.hid hcap
  clear hvb hby hcap
  have HR0 := Lib.hid hr
  have HP := Lib.hid hp
  have HRl := Lib.hid hr.row.lt
  obtain ⟨xk, hxk⟩ : ∃ x, numAt b k = x := ⟨_, rfl⟩
  obtain ⟨xp, hxp⟩ : ∃ x, numN b (k + 4) = x := ⟨_, rfl⟩
  obtain ⟨xq, hxq⟩ : ∃ x, numN b (k + 8) = x := ⟨_, rfl⟩
  obtain ⟨xs, hxs⟩ : ∃ x, numAt b (k + 12) = x := ⟨_, rfl⟩
  obtain ⟨xn, hxn⟩ : ∃ x, numN b (k + 16) = x := ⟨_, rfl⟩
  have HXk := Lib.hid hxk
  have HXp := Lib.hid hxp
  have HXq := Lib.hid hxq
  have HXs := Lib.hid hxs
  have HXn := Lib.hid hxn
  have HSh : Hid (¬ k + 20 + xp + xq ≤ b.length → pMem b k = none) := Lib.hid (fun h => raw_short (by rw [hxp, hxq]; exact h))
  have HRn : Hid (rawPcs b xn (k + 20 + xp + xq) = none → pMem b k = none) := Lib.hid (fun h => raw_none (by rw [hxp, hxq, hxn]; exact h))
  have HRs : Hid (∀ K L, k + 20 + xp + xq ≤ b.length → rawPcs b xn (k + 20 + xp + xq) = some (L, K) → pMem b k = if K + 4 ≤ b.length then (if sumOk b k (⟨xk, txt b (k + 20) xp, txt b (k + 20 + xp) xq, xs, L⟩, K) then some (⟨xk, txt b (k + 20) xp, txt b (k + 20 + xp) xq, xs, L⟩, K + 4) else none) else none) := Lib.hid (fun K L h7 h => by have := raw_some (b := b) (k := k) (by rw [hxp, hxq]; exact h7) (by rw [hxp, hxq, hxn]; exact h); rw [hxp, hxq, hxk, hxs] at this; exact this)
  have HMy : Hid (512 < xn → pMem b k = none) := Lib.hid (fun h => raw_many (by rw [hxn]; exact h))
  have hpl : xp < 4294967296 := by rw [← hxp]; exact numN_lt _ _
  have hql : xq < 4294967296 := by rw [← hxq]; exact numN_lt _ _
  have hnl : xn < 4294967296 := by rw [← hxn]; exact numN_lt _ _
  have HNp : Hid (numAt b (k + 4) = (xp : Int)) := Lib.hid (by rw [← numN_cast, hxp])
  have HNq : Hid (numAt b (k + 8) = (xq : Int)) := Lib.hid (by rw [← numN_cast, hxq])
  have HNn : Hid (numAt b (k + 16) = (xn : Int)) := Lib.hid (by rw [← numN_cast, hxn])
  clear hxk hxp hxq hxs hxn hp
  -- the result's block, then the first number
  have r1 := keeps_alloc w (.cells #[.int .i64 0, .string ⟨#[]⟩, .string ⟨#[]⟩, .int .i64 0, .slice none 0 0] 58) _ _ _ (show _ = some (Value.int .i64 k) from hr.row.cell 1)
  have HG : Hid (w.grownBy (w.alloc (.cells #[.int .i64 0, .string ⟨#[]⟩, .string ⟨#[]⟩, .int .i64 0, .slice none 0 0] 58)) (some R)) := Lib.hid (grown_of_below (below_alloc1 w _) _)
  have HW : Hid (Row (w.alloc (.cells #[.int .i64 0, .string ⟨#[]⟩, .string ⟨#[]⟩, .int .i64 0, .slice none 0 0] 58)) R 76 [vb, .int .i64 k]) := Lib.hid (hr.row.alloc _)
  have HB : Hid (Row (w.alloc (.cells #[.int .i64 0, .string ⟨#[]⟩, .string ⟨#[]⟩, .int .i64 0, .slice none 0 0] 58)) w.heap.size 58 [.int .i64 0, .string ⟨#[]⟩, .string ⟨#[]⟩, .int .i64 0, .slice none 0 0]) := Lib.hid (Row.new w 58 _)
  have HWl : Hid (w.heap.size + 1 ≤ (w.alloc (.cells #[.int .i64 0, .string ⟨#[]⟩, .string ⟨#[]⟩, .int .i64 0, .slice none 0 0] 58)).heap.size) := Lib.hid (by rw [alloc_size]; omega)
  clear hr
  go_enter Tryz.func54, Tryz.ntmps54
  go_wp2_with fail
  clear r1
  refine (call_rdhalf_any R vb b (k) _ (Rd.move HR0.out HG.out HW.out (by omega))).mono ?_
  rintro e w1 (⟨h1, rfl, hr1, hg1⟩ | ⟨h1, rfl, hg1⟩)
  rotate_left
  · exact ⟨rfl, MemPost.no (HSh.out (by omega)) (grown_trans HG.out hg1)⟩
  replace HB := Lib.hid (HB.out.grown hg1 (by have := HRl.out; simp; omega))
  replace HWl := Lib.hid (Nat.le_trans HWl.out hg1.size)
  replace HG := Lib.hid (grown_trans HG.out hg1)
  replace HW : Hid (Row w1 R 76 [vb, .int .i64 ((k + 4 : Nat) : Int)]) := Lib.hid (show _ from hr1)
  clear hr1 hg1
  rw [HXk.out]
  have hML : w.heap.size + 1 ≤ w1.heap.size := HWl.out
  have HM : Hid (Row (w1.alloc (.cells #[.int .i64 xk, .string ⟨#[]⟩, .string ⟨#[]⟩, .int .i64 0, .slice none 0 0] 58)) w1.heap.size 58 [.int .i64 xk, .string ⟨#[]⟩, .string ⟨#[]⟩, .int .i64 0, .slice none 0 0]) := Lib.hid (Row.new w1 58 _)
  replace HG := Lib.hid (grown_alloc HG.out (.cells #[.int .i64 xk, .string ⟨#[]⟩, .string ⟨#[]⟩, .int .i64 0, .slice none 0 0] 58))
  replace HW := Lib.hid (HW.out.alloc (.cells #[.int .i64 xk, .string ⟨#[]⟩, .string ⟨#[]⟩, .int .i64 0, .slice none 0 0] 58))
  replace HB := Lib.hid (HB.out.alloc (.cells #[.int .i64 xk, .string ⟨#[]⟩, .string ⟨#[]⟩, .int .i64 0, .slice none 0 0] 58))
  replace HWl : Hid (w.heap.size + 1 ≤ (w1.alloc (.cells #[.int .i64 xk, .string ⟨#[]⟩, .string ⟨#[]⟩, .int .i64 0, .slice none 0 0] 58)).heap.size) := Lib.hid (by rw [alloc_size]; omega)
  go_wp2_with fail
  obtain ⟨M, hMd⟩ : ∃ n, w1.heap.size = n := ⟨_, rfl⟩
  rw [hMd] at HM hML ⊢
  have hMR : M ≠ R := by have := HRl.out; omega
  have hMB : M ≠ w.heap.size := by omega
  have hMw : w.heap.size ≤ M := by omega
  have HMd := Lib.hid hMd
  clear hMd
  refine (call_rdhalf_any R vb b (k + 4) _ (Rd.move HR0.out HG.out HW.out (by omega))).mono ?_
  rintro e w2 (⟨h2, rfl, hr2, hg2⟩ | ⟨h2, rfl, hg2⟩)
  rotate_left
  · exact ⟨rfl, MemPost.no (HSh.out (by omega)) (grown_trans HG.out hg2)⟩
  replace HM := Lib.hid (HM.out.grown hg2 (by simpa using hMR))
  replace HB := Lib.hid (HB.out.grown hg2 (by have := HRl.out; simp; omega))
  replace HWl := Lib.hid (Nat.le_trans HWl.out hg2.size)
  replace HG := Lib.hid (grown_trans HG.out hg2)
  replace HW : Hid (Row w2 R 76 [vb, .int .i64 ((k + 8 : Nat) : Int)]) := Lib.hid (show _ from hr2)
  clear hr2 hg2
  rw [HNp.out]
  go_wp2_with fail
  refine (call_rdhalf_any R vb b (k + 8) _ (Rd.move HR0.out HG.out HW.out (by omega))).mono ?_
  rintro e w3 (⟨h3, rfl, hr3, hg3⟩ | ⟨h3, rfl, hg3⟩)
  rotate_left
  · exact ⟨rfl, MemPost.no (HSh.out (by omega)) (grown_trans HG.out hg3)⟩
  replace HM := Lib.hid (HM.out.grown hg3 (by simpa using hMR))
  replace HB := Lib.hid (HB.out.grown hg3 (by have := HRl.out; simp; omega))
  replace HWl := Lib.hid (Nat.le_trans HWl.out hg3.size)
  replace HG := Lib.hid (grown_trans HG.out hg3)
  replace HW : Hid (Row w3 R 76 [vb, .int .i64 ((k + 12 : Nat) : Int)]) := Lib.hid (show _ from hr3)
  clear hr3 hg3
  rw [HNq.out]
  go_wp2_with fail
  refine (call_rdhalf_any R vb b (k + 12) _ (Rd.move HR0.out HG.out HW.out (by omega))).mono ?_
  rintro e w4 (⟨h4, rfl, hr4, hg4⟩ | ⟨h4, rfl, hg4⟩)
  rotate_left
  · exact ⟨rfl, MemPost.no (HSh.out (by omega)) (grown_trans HG.out hg4)⟩
  replace HM := Lib.hid (HM.out.grown hg4 (by simpa using hMR))
  replace HB := Lib.hid (HB.out.grown hg4 (by have := HRl.out; simp; omega))
  replace HWl := Lib.hid (Nat.le_trans HWl.out hg4.size)
  replace HG := Lib.hid (grown_trans HG.out hg4)
  replace HW : Hid (Row w4 R 76 [vb, .int .i64 ((k + 16 : Nat) : Int)]) := Lib.hid (show _ from hr4)
  clear hr4 hg4
  rw [HXs.out]
  have mfz := HM.out.free
  have mc3 := (show _ = some (Value.int .i64 0) from HM.out.cell 3)
  go_wp2_with fail
  clear mfz mc3
  replace HM := Lib.hid (HM.out.set 3 (.int .i64 xs))
  replace HG := Lib.hid (grown_new HG.out hMw 3 (.int .i64 xs))
  replace HW := Lib.hid (HW.out.other (a := ⟨M, 3, none⟩) (by simpa using Ne.symm hMR) (.int .i64 xs))
  replace HB := Lib.hid (HB.out.other (a := ⟨M, 3, none⟩) (by simpa using Ne.symm hMB) (.int .i64 xs))
  replace HWl : Hid (w.heap.size + 1 ≤ (w4.setCell ⟨M, 3, none⟩ (.int .i64 xs)).heap.size) := Lib.hid (by have := HWl.out; simpa [World.setCell] using this)
  refine (call_rdhalf_any R vb b (k + 16) _ (Rd.move HR0.out HG.out HW.out (by omega))).mono ?_
  rintro e w5 (⟨h5, rfl, hr5, hg5⟩ | ⟨h5, rfl, hg5⟩)
  rotate_left
  · exact ⟨rfl, MemPost.no (HSh.out (by omega)) (grown_trans HG.out hg5)⟩
  replace HM := Lib.hid (HM.out.grown hg5 (by simpa using hMR))
  replace HB := Lib.hid (HB.out.grown hg5 (by have := HRl.out; simp; omega))
  replace HWl := Lib.hid (Nat.le_trans HWl.out hg5.size)
  replace HG := Lib.hid (grown_trans HG.out hg5)
  replace HW : Hid (Row w5 R 76 [vb, .int .i64 ((k + 20 : Nat) : Int)]) := Lib.hid (show _ from hr5)
  clear hr5 hg5
  rw [HNn.out]
  go_wp2_with fail
  refine (call_take_any R vb b (k + 20) xp _ _ (Rd.move HR0.out HG.out HW.out (by omega)) h0 (by omega) rfl (by omega)).mono ?_
  rintro e w6 (⟨h6, rfl, hr6, hg6⟩ | ⟨h6, rfl, hg6⟩)
  rotate_left
  · exact ⟨rfl, MemPost.no (HSh.out (by omega)) (grown_trans HG.out hg6)⟩
  replace HM := Lib.hid (HM.out.grown hg6 (by simpa using hMR))
  replace HB := Lib.hid (HB.out.grown hg6 (by have := HRl.out; simp; omega))
  replace HWl := Lib.hid (Nat.le_trans HWl.out hg6.size)
  replace HG := Lib.hid (grown_trans HG.out hg6)
  replace HW : Hid (Row w6 R 76 [vb, .int .i64 ((k + 20 + xp : Nat) : Int)]) := Lib.hid (show _ from hr6)
  clear hr6 hg6
  obtain ⟨tp, htp⟩ : ∃ x, txt b (k + 20) xp = x := ⟨_, rfl⟩
  have HTp := Lib.hid htp
  rw [htp]
  clear htp
  go_wp2_with fail
  refine (call_take_any R vb b (k + 20 + xp) xq _ _ (Rd.move HR0.out HG.out HW.out (by omega)) h0 (by omega) rfl (by omega)).mono ?_
  rintro e w7 (⟨h7, rfl, hr7, hg7⟩ | ⟨h7, rfl, hg7⟩)
  rotate_left
  · exact ⟨rfl, MemPost.no (HSh.out (by omega)) (grown_trans HG.out hg7)⟩
  replace HM := Lib.hid (HM.out.grown hg7 (by simpa using hMR))
  replace HB := Lib.hid (HB.out.grown hg7 (by have := HRl.out; simp; omega))
  replace HWl := Lib.hid (Nat.le_trans HWl.out hg7.size)
  replace HG := Lib.hid (grown_trans HG.out hg7)
  replace HW : Hid (Row w7 R 76 [vb, .int .i64 ((k + 20 + xp + xq : Nat) : Int)]) := Lib.hid (show _ from hr7)
  clear hr7 hg7
  obtain ⟨tq, htq⟩ : ∃ x, txt b (k + 20 + xp) xq = x := ⟨_, rfl⟩
  have HTq := Lib.hid htq
  rw [htq]
  clear htq
  have mfz := HM.out.free
  have mc1 := (show _ = some (Value.string ⟨#[]⟩) from HM.out.cell 1)
  have mc2 := (show _ = some (Value.string ⟨#[]⟩) from HM.out.cell 2)
  by_cases h512 : 512 < xn
  · have HNo := Lib.hid (HMy.out h512)
    go_wp2_with (go_at_call 34; refine (call_fail _ _).mono ?_; rintro e w8 ⟨rfl, rfl⟩)
    exact ⟨rfl, MemPost.no HNo.out (grown_new (grown_new HG.out hMw 1 _) hMw 2 _)⟩
  · go_wp2_with fail
    clear mfz mc1 mc2
    have HM2 : Hid (Row ((w7.setCell ⟨M, 1, none⟩ (.string (bs tp))).setCell ⟨M, 2, none⟩ (.string (bs tq))) M 58 [.int .i64 xk, .string (bs tp), .string (bs tq), .int .i64 xs, .slice none 0 0]) := Lib.hid ((HM.out.set 1 (.string (bs tp))).set 2 (.string (bs tq)))
    have HG2 := Lib.hid (grown_new (grown_new HG.out hMw 1 (.string (bs tp))) hMw 2 (.string (bs tq)))
    have HW2 : Hid (Row ((w7.setCell ⟨M, 1, none⟩ (.string (bs tp))).setCell ⟨M, 2, none⟩ (.string (bs tq))) R 76 [vb, .int .i64 ((k + 20 + xp + xq : Nat) : Int)]) := Lib.hid ((HW.out.other (a := ⟨M, 1, none⟩) (by simpa using Ne.symm hMR) _).other (a := ⟨M, 2, none⟩) (by simpa using Ne.symm hMR) _)
    have HB2 : Hid (Row ((w7.setCell ⟨M, 1, none⟩ (.string (bs tp))).setCell ⟨M, 2, none⟩ (.string (bs tq))) w.heap.size 58 [.int .i64 0, .string ⟨#[]⟩, .string ⟨#[]⟩, .int .i64 0, .slice none 0 0]) := Lib.hid ((HB.out.other (a := ⟨M, 1, none⟩) (by simpa using Ne.symm hMB) _).other (a := ⟨M, 2, none⟩) (by simpa using Ne.symm hMB) _)
    obtain ⟨i1, hi1, hz1, hs1, hb1⟩ := info_parts info82
    clear HM HG HW HB HWl HMd
    obtain ⟨K0, hK0⟩ : ∃ n, k + 20 + xp + xq = n := ⟨_, rfl⟩
    rw [hK0] at HW2
    have HK0 := Lib.hid hK0
    have hK0l : K0 ≤ b.length := by omega
    have hkK : k + 20 ≤ K0 := by omega
    clear hK0
    go_loopw [39] (fun i wr => ∃ (j : Nat) (L : List Pc) (K : Nat) (vp : Value), i = .int .i64 j ∧ j ≤ xn ∧ Row wr M 58 [.int .i64 xk, .string (bs tp), .string (bs tq), .int .i64 xs, vp] ∧ OwnP w.heap.size wr vp L ∧ L.length = j ∧ Row wr R 76 [vb, .int .i64 K] ∧ K ≤ b.length ∧ k + 20 ≤ K ∧ w.grownBy wr (some R) ∧
        Row wr w.heap.size 58 [.int .i64 0, .string ⟨#[]⟩, .string ⟨#[]⟩, .int .i64 0, .slice none 0 0] ∧ rawPcs b xn K0 = (rawPcs b (xn - j) K).map (fun r => (L ++ r.1, r.2)))
      (fun i _ => xn - (RowKit.intOf i).toNat)
    case atStart => exact ⟨0, [], K0, .slice none 0 0, rfl, Nat.zero_le _, HM2.out, World.ownsRow_nil _ _ _ _, rfl, HW2.out, hK0l, hkK, HG2.out, HB2.out, by simp⟩
    case round =>
      obtain ⟨j, L, K, vp, rfl, hj, hm, ho, hL, hw, hK, hkK2, hg, hbr, hraw⟩ := hrel
      clear HM2 HG2 HW2 HB2
      obtain ⟨ap, np, cp, rfl⟩ := own_isSl ho
      have hnp : np = j := by rw [own_len ho, hL]
      subst hnp
      have HM := Lib.hid hm
      have HO := Lib.hid ho
      have HL := Lib.hid hL
      have HW := Lib.hid hw
      have HG := Lib.hid hg
      have HB := Lib.hid hbr
      have HRaw := Lib.hid hraw
      have HWl : Hid (w.heap.size + 1 ≤ wr.heap.size) := Lib.hid hbr.lt
      clear hm ho hL hw hg hbr hraw
      by_cases hlt : np < xn
      · obtain ⟨n', hn'⟩ : ∃ n', xn - np = n' + 1 := ⟨xn - np - 1, by omega⟩
        obtain ⟨xd, hxd⟩ : ∃ x, numN b (K + 4) = x := ⟨_, rfl⟩
        obtain ⟨xo, hxo⟩ : ∃ x, numAt b K = x := ⟨_, rfl⟩
        obtain ⟨tt, htt⟩ : ∃ x, txt b (K + 8) xd = x := ⟨_, rfl⟩
        have HStop : Hid (¬ K + 8 + xd ≤ b.length → pMem b k = none) := Lib.hid (fun h => HRn.out (by rw [HK0.out, HRaw.out, hn', rawPcs_stop (by rw [hxd]; exact h)]; rfl))
        have HNext : Hid (K + 8 + xd ≤ b.length → rawPcs b xn K0 = (rawPcs b n' (K + 8 + xd)).map (fun r => ((L ++ [⟨xo, tt⟩]) ++ r.1, r.2))) := Lib.hid (fun h => by
          rw [HRaw.out, hn', rawPcs_step (by rw [hxd]; exact h), hxd, hxo, htt, Option.map_map]
          congr 1
          funext r
          simp)
        have HNd : Hid (numAt b (K + 4) = (xd : Int)) := Lib.hid (by rw [← numN_cast, hxd])
        have hxdl : xd < 4294967296 := by rw [← hxd]; exact numN_lt _ _
        have hxo1 : I64 xo := by rw [← hxo]; have h1 := num4_lo (byteD b K) (byteD b (K + 1)) (byteD b (K + 2)) (byteD b (K + 3)); have h2 := num4_hi (byteD b K) (byteD b (K + 1)) (byteD b (K + 2)) (byteD b (K + 3)); exact ⟨by unfold numAt; omega, by unfold numAt; omega⟩
        have HXo := Lib.hid hxo
        have HTt := Lib.hid htt
        have HN' := Lib.hid hn'
        clear hxd hxo htt hn' hxo1
        go_wp2_with fail
        refine (call_rdhalf_any R vb b K _ (Rd.move HR0.out HG.out HW.out (by omega))).mono ?_
        rintro e u1 (⟨g1, rfl, hr1, hg1⟩ | ⟨g1, rfl, hg1⟩)
        rotate_left
        · exact ⟨rfl, MemPost.no (HStop.out (by omega)) (grown_trans HG.out hg1)⟩
        rw [HXo.out]
        have HM1 := Lib.hid (HM.out.grown hg1 (by simpa using hMR))
        have HB1 := Lib.hid (HB.out.grown hg1 (by have := HRl.out; simp; omega))
        have HG1 := Lib.hid (grown_trans HG.out hg1)
        have HW1 : Hid (Row u1 R 76 [vb, .int .i64 ((K + 4 : Nat) : Int)]) := Lib.hid hr1
        have HO1 : Hid (OwnP w.heap.size u1 (.slice ap np cp) L) := Lib.hid (own_keep HO.out (fun u e => hg1.block u (HO.out.lt u e).2 (by intro e2; cases e2; exact own_row_ne HO.out HW.out (by decide) e.symm)))
        have HS1 := Lib.hid (Nat.le_trans HWl.out hg1.size)
        clear hr1 hg1 HM HB HG HW HO
        have HM2 := Lib.hid (HM1.out.alloc (.cells #[.int .i64 xo, .string ⟨#[]⟩] 62))
        have HB2 := Lib.hid (HB1.out.alloc (.cells #[.int .i64 xo, .string ⟨#[]⟩] 62))
        have HG2 := Lib.hid (grown_alloc HG1.out (.cells #[.int .i64 xo, .string ⟨#[]⟩] 62))
        have HW2 := Lib.hid (HW1.out.alloc (.cells #[.int .i64 xo, .string ⟨#[]⟩] 62))
        have HO2 : Hid (OwnP w.heap.size (u1.alloc (.cells #[.int .i64 xo, .string ⟨#[]⟩] 62)) (.slice ap np cp) L) := Lib.hid (own_below HO1.out (below_alloc1 u1 _))
        have HP2 : Hid (Row (u1.alloc (.cells #[.int .i64 xo, .string ⟨#[]⟩] 62)) u1.heap.size 62 [.int .i64 xo, .string ⟨#[]⟩]) := Lib.hid (Row.new u1 62 _)
        have HPo : Hid ((Value.slice ap np cp).ownBlock ≠ some u1.heap.size) := Lib.hid (fun e => by have := (HO1.out.lt _ e).2; omega)
        have HPl : Hid (u1.heap.size < (u1.alloc (.cells #[.int .i64 xo, .string ⟨#[]⟩] 62)).heap.size) := Lib.hid (by rw [alloc_size]; omega)
        clear HM1 HB1 HG1 HW1
        go_wp2_with fail
        obtain ⟨P, hPd⟩ : ∃ n, u1.heap.size = n := ⟨_, rfl⟩
        rw [hPd] at HP2 HPo HPl HS1 ⊢
        have hPR : P ≠ R := by have := HRl.out; have := HS1.out; omega
        have hPM : P ≠ M := row_apart HP2.out HM2.out (by decide)
        have hPB : P ≠ w.heap.size := by have := HS1.out; omega
        have hPw : w.heap.size ≤ P := by have := HS1.out; omega
        clear hPd HO1 HS1
        refine (call_rdhalf_any R vb b (K + 4) _ (Rd.move HR0.out HG2.out HW2.out (by omega))).mono ?_
        rintro e u2 (⟨g2, rfl, hr2, hg2⟩ | ⟨g2, rfl, hg2⟩)
        rotate_left
        · exact ⟨rfl, MemPost.no (HStop.out (by omega)) (grown_trans HG2.out hg2)⟩
        rw [HNd.out]
        have HM3 := Lib.hid (HM2.out.grown hg2 (by simpa using hMR))
        have HB3 := Lib.hid (HB2.out.grown hg2 (by have := HRl.out; simp; omega))
        have HP3 := Lib.hid (HP2.out.grown hg2 (by simpa using hPR))
        have HG3 := Lib.hid (grown_trans HG2.out hg2)
        have HW3 : Hid (Row u2 R 76 [vb, .int .i64 ((K + 8 : Nat) : Int)]) := Lib.hid (show _ from hr2)
        have HO3 : Hid (OwnP w.heap.size u2 (.slice ap np cp) L) := Lib.hid (own_keep HO2.out (fun u e => hg2.block u (HO2.out.lt u e).2 (by intro e2; cases e2; exact own_row_ne HO2.out HW2.out (by decide) e.symm)))
        have HS3 := Lib.hid (Nat.lt_of_lt_of_le HPl.out hg2.size)
        clear hr2 hg2 HM2 HB2 HG2 HW2 HO2 HP2 HPl
        go_wp2_with fail
        refine (call_take_any R vb b (K + 8) xd _ _ (Rd.move HR0.out HG3.out HW3.out (by omega)) h0 (by omega) rfl (by omega)).mono ?_
        rintro e u3 (⟨g3, rfl, hr3, hg3⟩ | ⟨g3, rfl, hg3⟩)
        rotate_left
        · exact ⟨rfl, MemPost.no (HStop.out (by omega)) (grown_trans HG3.out hg3)⟩
        rw [HTt.out]
        have HM4 := Lib.hid (HM3.out.grown hg3 (by simpa using hMR))
        have HB4 := Lib.hid (HB3.out.grown hg3 (by have := HRl.out; simp; omega))
        have HP4 := Lib.hid (HP3.out.grown hg3 (by simpa using hPR))
        have HG4 := Lib.hid (grown_trans HG3.out hg3)
        have HW4 : Hid (Row u3 R 76 [vb, .int .i64 ((K + 8 + xd : Nat) : Int)]) := Lib.hid (show _ from hr3)
        have HO4 : Hid (OwnP w.heap.size u3 (.slice ap np cp) L) := Lib.hid (own_keep HO3.out (fun u e => hg3.block u (HO3.out.lt u e).2 (by intro e2; cases e2; exact own_row_ne HO3.out HW3.out (by decide) e.symm)))
        have HS4 := Lib.hid (Nat.lt_of_lt_of_le HS3.out hg3.size)
        clear hr3 hg3 HM3 HB3 HG3 HW3 HO3 HP3 HS3
        -- the text is laid
        have pz := HP4.out.free 1
        have p1 := (show _ = some (Value.string ⟨#[]⟩) from HP4.out.cell 1)
        have HP5 : Hid (Row (u3.setCell ⟨P, 1, none⟩ (.string (bs tt))) P 62 [.int .i64 xo, .string (bs tt)]) := Lib.hid (HP4.out.set 1 _)
        have HM5 := Lib.hid (HM4.out.other (a := ⟨P, 1, none⟩) (by simpa using Ne.symm hPM) (.string (bs tt)))
        have HB5 := Lib.hid (HB4.out.other (a := ⟨P, 1, none⟩) (by simpa using Ne.symm hPB) (.string (bs tt)))
        have HW5 := Lib.hid (HW4.out.other (a := ⟨P, 1, none⟩) (by simpa using Ne.symm hPR) (.string (bs tt)))
        have HG5 := Lib.hid (grown_new HG4.out hPw 1 (.string (bs tt)))
        have HO5 : Hid (OwnP w.heap.size (u3.setCell ⟨P, 1, none⟩ (.string (bs tt))) (.slice ap np cp) L) := Lib.hid (own_keep HO4.out (fun u e => Below.heap_setCell u3 _ _ u (by intro e2; subst e2; exact HPo.out e)))
        have HZ5 := Lib.hid (setCell_size u3 ⟨P, 1, none⟩ (.string (bs tt)))
        have m4 := (show _ = some (Value.slice ap np cp) from HM5.out.cell 4)
        have q0 := (show _ = some (Value.int .i64 xo) from HP5.out.cell 0)
        have q1 := (show _ = some (Value.string (bs tt)) from HP5.out.cell 1)
        clear HM4 HB4 HG4 HW4 HO4 HP4
        have HA : Hid (((u3.setCell ⟨P, 1, none⟩ (.string (bs tt))).alloc (.cells #[.int .i64 xo, .string (bs tt)] 62)).ownsRow w.heap.size 62 2 (.slice ap np cp) np (pcCells L)) := Lib.hid (by have h := own_below HO5.out (below_alloc1 (u3.setCell ⟨P, 1, none⟩ (.string (bs tt))) (.cells #[.int .i64 xo, .string (bs tt)] 62)); rw [HL.out] at h; exact h)
        have HZ6 : Hid (((u3.setCell ⟨P, 1, none⟩ (.string (bs tt))).alloc (.cells #[.int .i64 xo, .string (bs tt)] 62)).heap.size = u3.heap.size + 1) := Lib.hid (by rw [alloc_size, HZ5.out])
        have HRm := Lib.hid (Row.new (u3.setCell ⟨P, 1, none⟩ (.string (bs tt))) 62 [.int .i64 xo, .string (bs tt)])
        have HSrc : Hid (∃ ad c, Value.slice (some ⟨u3.heap.size, 0, none⟩) 1 1 = .slice ad 1 c ∧ (0 < 1 → ∃ g off, ad = some ⟨g, off, none⟩ ∧ ∀ j u, (pcCells [⟨xo, tt⟩])[j]? = some u → ((u3.setCell ⟨P, 1, none⟩ (.string (bs tt))).alloc (.cells #[.int .i64 xo, .string (bs tt)] 62)).cell? ⟨g, off + j, none⟩ = some u)) :=
          Lib.hid ⟨_, _, rfl, fun _ => ⟨_, 0, rfl, fun j u hj => by rw [Nat.zero_add]; have h := (HRm.out.cell j).trans hj; rw [HZ5.out] at h; exact h⟩⟩
        have HNl : Hid (NilOk (.slice (some ⟨u3.heap.size, 0, none⟩) 1 1)) := Lib.hid (fun n c e => by cases e)
        have HM6 := Lib.hid (HM5.out.alloc (.cells #[.int .i64 xo, .string (bs tt)] 62))
        have HB6 := Lib.hid (HB5.out.alloc (.cells #[.int .i64 xo, .string (bs tt)] 62))
        have HW6 := Lib.hid (HW5.out.alloc (.cells #[.int .i64 xo, .string (bs tt)] 62))
        have HG6 := Lib.hid (grown_alloc HG5.out (.cells #[.int .i64 xo, .string (bs tt)] 62))
        have HBs : Hid (w.heap.size ≤ ((u3.setCell ⟨P, 1, none⟩ (.string (bs tt))).alloc (.cells #[.int .i64 xo, .string (bs tt)] 62)).heap.size) := Lib.hid HG6.out.size
        clear HRm HM5 HB5 HW5 HG5 HO5 HZ5
        go_wp2_with ((refine wpl_many 56 62 i1 _ 2 24 Tryz.underlying56 hi1 hz1 hs1 hb1 rfl (by decide) HA.out (by rfl) _ _ (by rfl) (by rfl) (.slice (some ⟨u3.heap.size, 0, none⟩) 1 1) (by rfl) (pcCells [⟨xo, tt⟩]) 1 rfl HNl.out HSrc.out (pcCells_one _) HBs.out (by omega) (by decide) ?_; intro v4 u4 h1' h2' h3'; obtain ⟨a4, n4, c4, rfl⟩ := own_isSl h1'; have HV4 := Lib.hid h1'; have HR4 := Lib.hid h2'; have HM7 := Lib.hid (HM6.out.grown h2' (own_row_ne HA.out HM6.out (by decide))); have mz := HM7.out.free 4; have m7 := (show _ = some (Value.slice ap np cp) from HM7.out.cell 4); clear h1' h2' h3' m4 q0 q1 pz p1))
        have HB7 := Lib.hid (HB6.out.grown HR4.out (own_row_ne HA.out HB6.out (by decide)))
        have HW7 := Lib.hid (HW6.out.grown HR4.out (own_row_ne HA.out HW6.out (by decide)))
        have HG7 := Lib.hid (grown_own HG6.out HR4.out (fun u e => (HA.out.lt u e).1))
        have HMf : Hid (Row (u4.setCell ⟨M, 4, none⟩ (.slice a4 n4 c4)) M 58 [.int .i64 xk, .string (bs tp), .string (bs tq), .int .i64 xs, .slice a4 n4 c4]) := Lib.hid (HM7.out.set 4 _)
        have HBf := Lib.hid (HB7.out.other (a := ⟨M, 4, none⟩) (by simpa using Ne.symm hMB) (.slice a4 n4 c4))
        have HWf := Lib.hid (HW7.out.other (a := ⟨M, 4, none⟩) (by simpa using Ne.symm hMR) (.slice a4 n4 c4))
        have HGf := Lib.hid (grown_new HG7.out hMw 4 (.slice a4 n4 c4))
        have HOf : Hid (OwnP w.heap.size (u4.setCell ⟨M, 4, none⟩ (.slice a4 n4 c4)) (.slice a4 n4 c4) (L ++ [⟨xo, tt⟩])) := Lib.hid (by
          have h : OwnP w.heap.size u4 (.slice a4 n4 c4) (L ++ [⟨xo, tt⟩]) := by
            have h := HV4.out
            rw [← pcCells_app] at h
            show World.ownsRow _ _ _ _ _ (L ++ [_]).length _
            rw [List.length_append, HL.out]
            exact h
          exact own_keep h (fun u e => Below.heap_setCell u4 _ _ u (by intro e2; subst e2; exact own_row_ne h HM7.out (by decide) e.symm)))
        clear HA HSrc HNl HM6 HB6 HW6 HG6 HBs HV4 HR4 HM7 HB7 HW7 HG7 mz m7 HZ6 HPo
        go_roundw
        case rel => exact ⟨np + 1, L ++ [⟨xo, tt⟩], K + 8 + xd, .slice a4 n4 c4, by go_num, by omega, HMf.out, HOf.out, by rw [List.length_append, HL.out]; rfl, HWf.out, g3, by omega, HGf.out, HBf.out, by
          have h := HNext.out g3
          rw [show xn - (np + 1) = n' by have := HN'.out; omega]
          exact h⟩
        case measure => simp [RowKit.intOf]; omega
      · obtain rfl : np = xn := by omega
        have hrf : rawPcs b np K0 = some (L, K) := by rw [HRaw.out, Nat.sub_self]; simp [rawPcs]
        have hfin := HRs.out K L (by omega) (by rw [HK0.out]; exact hrf)
        rw [HTp.out, HTq.out] at hfin
        obtain ⟨sm, hsm⟩ : ∃ x, sumOnB 0 (txt b k (K - k)) = x := ⟨_, rfl⟩
        have s0 : 0 ≤ sm := by rw [← hsm, sumOnB, bits_xor]; exact bI_lo _
        have s1 : sm < 4294967296 := by rw [← hsm, sumOnB, bits_xor]; exact bI_hi _
        have HFin := Lib.hid hfin
        have HSm := Lib.hid hsm
        have HTl : Hid ((txt b k (K - k)).length ≤ 100000000000000) := Lib.hid (by rw [txt_len (by omega)]; omega)
        have hvb := HVb.out
        obtain ⟨bl, hbl⟩ : ∃ n, b.length = n := ⟨_, rfl⟩
        have HBl := Lib.hid hbl
        rw [hbl] at hvb hcc hK
        have r0 := (show _ = some vb from HW.out.cell 0)
        rw [hvb] at r0
        have r1 := (show _ = some (Value.int .i64 K) from HW.out.cell 1)
        have hkK3 : k < K := by omega
        have n2 : (0 : Int) ≤ k := by omega
        have n3 : (k : Int) ≤ K := by omega
        have n4 : (K : Int) ≤ cc := by omega
        have n5 : ¬ (cc : Int) = k := by omega
        have n6 : ¬ cc = k := by omega
        have n7 : k < cc := by omega
        have HByr : Hid (∀ j x, b[j]? = some x → RByte wr bb (oo + j * 1) x) := Lib.hid (fun j x hj => by
          have h1 := HBy.out j x hj
          exact (World.cell?_of_block (a := ⟨bb, oo + j * 1, none⟩) (HG.out.block bb (World.block_lt_of_cell? w _ h1) (by have := HR0.out.ne h1; simpa using this))).trans h1)
        have HPr : Hid (Stp wr) := Lib.hid (stp_grown HP.out HR0.out HG.out)
        clear hrf hfin hsm hbl hvb
        go_wp2_with fail
        haveI : Nonempty (Wd (Below wr.heap.size wr)) := ⟨⟨_, Below.refl _ _⟩⟩
        have k0 : ∀ y : Wd (Below wr.heap.size wr), y.val.cell? ⟨R, 0, none⟩ = some (.slice (some ⟨bb, oo, none⟩) bl cc) := fun y => keeps_below y.ok _ _ _ r0
        have k1 : ∀ y : Wd (Below wr.heap.size wr), y.val.cell? ⟨R, 1, none⟩ = some (.int .i64 K) := fun y => keeps_below y.ok _ _ _ r1
        refine wp_region_class (Below wr.heap.size wr) (by kernel_rfl) (by kernel_rfl) (below_drew _) ?_
        repeat (first | go_big_quiet_skip | (go_big_quiet_want; go_big_quiet_op; first | go_big_quiet_on | go_big_quiet_call ((go_at_call 41; refine (call_sum _ (txt b k (K - k)) _ (sl_txt (fun j x hj => RByte.stays _ _ (keeps_below (Wd.ok _)) _ _ _ (HByr.out j x hj)) (by rw [HBl.out]; exact hK) (by omega) _) HTl.out (HPr.out.below (Wd.ok _))).mono ?_; rintro e w8 ⟨rfl, rfl⟩; rw [HSm.out]; exact ⟨rfl, ⟨_, Wd.ok _⟩, rfl⟩))))
        refine wpQuiet_nil ?_
        rintro _ ⟨y, rfl⟩
        have HWy := Lib.hid (HW.out.below y.ok HW.out.lt)
        have HMy2 := Lib.hid (HM.out.below y.ok HM.out.lt)
        have HBy2 := Lib.hid (HB.out.below y.ok HB.out.lt)
        have HGy := Lib.hid (grown_below2 HG.out y.ok)
        have HOy : Hid (OwnP w.heap.size y.val (.slice ap np cp) L) := Lib.hid (own_below HO.out y.ok)
        have hK2 : K ≤ b.length := by rw [HBl.out]; exact hK
        clear k0 k1 r0 r1 HW HM HB HG HO HByr HPr n2 n3 n4 n5 n6 n7
        generalize y.val = wy at *
        go_wp2_with fail
        refine (call_rdhalf_any R vb b K _ (Rd.move HR0.out HGy.out HWy.out (by omega))).mono ?_
        rintro e u1 (⟨g1, rfl, hr1, hg1⟩ | ⟨g1, rfl, hg1⟩)
        rotate_left
        · exact ⟨rfl, MemPost.no (by rw [HFin.out, if_neg g1]) (grown_trans HGy.out hg1)⟩
        obtain ⟨xz, hxz⟩ : ∃ x, numAt b K = x := ⟨_, rfl⟩
        have HXz := Lib.hid hxz
        have HMz := Lib.hid (HMy2.out.grown hg1 (by simpa using hMR))
        have HBz := Lib.hid (HBy2.out.grown hg1 (by have := HRl.out; simp; omega))
        have HGz := Lib.hid (grown_trans HGy.out hg1)
        have HOz : Hid (OwnP w.heap.size u1 (.slice ap np cp) L) := Lib.hid (own_keep HOy.out (fun u e => hg1.block u (HOy.out.lt u e).2 (by intro e2; cases e2; exact own_row_ne HOy.out HWy.out (by decide) e.symm)))
        have HWz : Hid (Row u1 R 76 [vb, .int .i64 ((K + 4 : Nat) : Int)]) := Lib.hid hr1
        rw [hxz]
        clear hxz hr1 hg1 HWy HMy2 HBy2 HGy HOy
        have HSok : Hid (sumOk b k (⟨xk, tp, tq, xs, L⟩, K) = (decide (L.length ≤ 512) && decide (xz = sm))) := Lib.hid (by rw [sumOk]; simp only; rw [HXz.out, HSm.out])
        have HL512 : Hid (decide (L.length ≤ 512) = true) := Lib.hid (decide_eq_true (by have := HL.out; omega))
        by_cases hsum : xz = sm
        · have q : (xz != sm) = false := by simpa using hsum
          have HYes : Hid (pMem b k = some (⟨xk, tp, tq, xs, L⟩, K + 4)) := Lib.hid (by rw [HFin.out, if_pos g1, if_pos (by rw [HSok.out, HL512.out, decide_eq_true hsum]; rfl)])
          clear hsum
          go_wp2_with (first
            | refine wpl_load HMz.out rfl 58 _ rfl rfl _ 5 rfl Tryz.underlying58 rfl (by kernel_rfl) ?_
            | refine wpl_store HBz.out rfl 58 _ _ rfl [.int .i64 xk, .string (bs tp), .string (bs tq), .int .i64 xs, .slice ap np cp] rfl rfl 5 rfl rfl (by intro u hu; simp only [List.mem_cons, List.not_mem_nil, or_false] at hu; rcases hu with rfl | rfl | rfl | rfl | rfl <;> rfl) (by kernel_rfl) ?_)
          have HRf := Lib.hid (HBz.out.setRow [.int .i64 xk, .string (bs tp), .string (bs tq), .int .i64 xs, .slice ap np cp])
          have hkeep : ∀ u, u ≠ w.heap.size → (u1.setRow w.heap.size [.int .i64 xk, .string (bs tp), .string (bs tq), .int .i64 xs, .slice ap np cp].toArray).heap[u]? = u1.heap[u]? := fun u hu => setRow_other u1 w.heap.size u _ hu
          have HGf := Lib.hid (grown_setRow HGz.out (Nat.le_refl _) [Value.int .i64 xk, .string (bs tp), .string (bs tq), .int .i64 xs, .slice ap np cp].toArray)
          have HOf : Hid (OwnP w.heap.size (u1.setRow w.heap.size [.int .i64 xk, .string (bs tp), .string (bs tq), .int .i64 xs, .slice ap np cp].toArray) (.slice ap np cp) L) := Lib.hid (own_keep HOz.out (fun u e => hkeep u (by intro e2; subst e2; exact own_row_ne HOz.out HBz.out (by decide) e.symm)))
          have HWf : Hid (Row (u1.setRow w.heap.size [.int .i64 xk, .string (bs tp), .string (bs tq), .int .i64 xs, .slice ap np cp].toArray) R 76 [vb, .int .i64 ((K + 4 : Nat) : Int)]) := Lib.hid ((hkeep R (by have := HRl.out; omega)).trans HWz.out)
          exact bodyPost_agg HRf.out 2 58 rfl _ rfl rfl Tryz.underlying58 rfl (by kernel_rfl) rfl (MemPost.yes (vp := .slice ap np cp) HYes.out HGf.out HOf.out (Rd.move HR0.out HGf.out HWf.out (by omega)))
        · have q : (xz != sm) = true := by simpa using hsum
          have HNo : Hid (pMem b k = none) := Lib.hid (by rw [HFin.out, if_pos g1, if_neg (by rw [HSok.out, HL512.out, decide_eq_false hsum]; simp)])
          clear hsum
          go_wp2_with (go_at_call 34; refine (call_fail _ _).mono ?_; rintro e w8 ⟨rfl, rfl⟩)
          exact ⟨rfl, MemPost.no HNo.out HGz.out⟩
end Go.Proofs.YtlecpjfggoehdaaGreatDoor.Ar
