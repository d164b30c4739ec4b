
/- Archive: a number out of bytes. Archive: the reader's numbers and texts. -/
import Derived.Test.YtlecpjfggoehdaaGreatDoorArZ
import Derived.Laws.BytesArg
import Derived.Lib.BufferRead
import Derived.Test.YtlecpjfggoehdaaGreatDoorArV
set_option linter.unusedVariables false
set_option linter.unusedSimpArgs false
set_option maxRecDepth 100000
namespace Go.Proofs.YtlecpjfggoehdaaGreatDoor.Ar
open Go.RowKit Go.Sort Go.Lib Go.Proofs.YtlecpjfggoehdaaGreatDoor.Rs

/-- the number in four bytes, the least first -/
def num4 (a b c d : UInt8) : Int := (a.toNat : Int) + b.toNat * 256 + c.toNat * 65536 + d.toNat * 16777216
def byteD (l : List UInt8) (i : Nat) : UInt8 := l.getD i 0
def numAt (l : List UInt8) (i : Nat) : Int := num4 (byteD l i) (byteD l (i + 1)) (byteD l (i + 2)) (byteD l (i + 3))
theorem byteD_get {l : List UInt8} {i : Nat} (h : i < l.length) : l[i]? = some (byteD l i) := by
  rw [List.getElem?_eq_getElem h, byteD, List.getD_eq_getElem?_getD, List.getElem?_eq_getElem h]; rfl
theorem num4_lo (a b c d : UInt8) : 0 ≤ num4 a b c d := by unfold num4; omega
theorem num4_hi (a b c d : UInt8) : num4 a b c d < 4294967296 := by
  have h1 := a.toNat_lt; have h2 := b.toNat_lt; have h3 := c.toNat_lt; have h4 := d.toNat_lt
  unfold num4; omega

set_option maxHeartbeats 1000000 in
theorem call_room (v : Value) (l : List UInt8) (at' n : Int) (w : World) (hs : Sl RByte 1 w v l) (hl : l.length ≤ 10000000000000) (h0 : 0 ≤ at') (h1 : at' ≤ 10000000000000) (hn : 0 ≤ n) (hn1 : n ≤ 10000000000000) :
    Calls Tryz.prog 102 #[v, .int .i64 at', .int .i64 n] w fun e w' => e = .returned (.bool (decide (at' + n ≤ l.length))) ∧ w' = w := by
  obtain ⟨a, b, o, cap, rfl, ha, hc⟩ := hs
  obtain ⟨m, hm⟩ : ∃ n, l.length = n := ⟨_, rfl⟩
  rw [hm] at hl ⊢
  clear ha hc hm
  have q0 : decide (0 ≤ at') = true := decide_eq_true h0
  by_cases h2 : at' ≤ m
  · have q1 : decide (at' ≤ (m : Int)) = true := decide_eq_true h2
    go_enter Tryz.func102, Tryz.ntmps102
    go_wp2
    go_ret
    refine ⟨?_, rfl⟩
    have : (decide (n ≤ (m : Int) - at')) = decide (at' + n ≤ (m : Int)) := by rw [decide_eq_decide]; omega
    show Ending.returned (.bool (decide (n ≤ (m : Int) - at'))) = _
    rw [this]
  · have q1 : decide (at' ≤ (m : Int)) = false := decide_eq_false h2
    have q2 : decide (at' + n ≤ (m : Int)) = false := decide_eq_false (by omega)
    rw [q2]
    clear q2
    go_enter Tryz.func102, Tryz.ntmps102
    go_wp2
    go_ret
    exact ⟨rfl, rfl⟩

theorem bits_or (a b : Int) : bits .or .u32 a b = bI (BitVec.ofInt 32 a ||| BitVec.ofInt 32 b) := wrap32 _
theorem or_add (a c k : Nat) (h : a < 2 ^ k) (h2 : a + c * 2 ^ k < 4294967296) : bits .or .u32 (a : Int) ((c * 2 ^ k : Nat) : Int) = ((a + c * 2 ^ k : Nat) : Int) := by
  rw [bits_or, bI]
  have e : ∀ n : Nat, n < 4294967296 → (BitVec.ofInt 32 (n : Int)).toNat = n := fun n hn => by
    rw [BitVec.ofInt_natCast, BitVec.toNat_ofNat]
    exact Nat.mod_eq_of_lt hn
  rw [BitVec.toNat_or, e a (by omega), e _ (by omega)]
  have := Nat.two_pow_add_eq_or_of_lt h c
  rw [Nat.or_comm, Nat.mul_comm c (2 ^ k), ← this, Nat.add_comm]
theorem or4 (x0 x1 x2 x3 : UInt8) : bits .or .u32 (bits .or .u32 (bits .or .u32 ((x0.toNat : Int) % 4294967296) ((x1.toNat : Int) % 4294967296 * 256 % 4294967296)) ((x2.toNat : Int) % 4294967296 * 65536 % 4294967296)) ((x3.toNat : Int) % 4294967296 * 16777216 % 4294967296) = num4 x0 x1 x2 x3 := by
  have h0 := x0.toNat_lt; have h1 := x1.toNat_lt; have h2 := x2.toNat_lt; have h3 := x3.toNat_lt
  have e0 : (x0.toNat : Int) % 4294967296 = (x0.toNat : Nat) := by omega
  have e1 : (x1.toNat : Int) % 4294967296 * 256 % 4294967296 = ((x1.toNat * 2 ^ 8 : Nat) : Int) := by omega
  have e2 : (x2.toNat : Int) % 4294967296 * 65536 % 4294967296 = ((x2.toNat * 2 ^ 16 : Nat) : Int) := by omega
  have e3 : (x3.toNat : Int) % 4294967296 * 16777216 % 4294967296 = ((x3.toNat * 2 ^ 24 : Nat) : Int) := by omega
  rw [e0, e1, e2, e3, or_add _ _ 8 (by omega) (by omega), or_add _ _ 16 (by omega) (by omega), or_add _ _ 24 (by omega) (by omega)]
  unfold num4
  omega

set_option maxHeartbeats 4000000 in
theorem call_half4 (v : Value) (l : List UInt8) (k : Nat) (w : World) (hs : Sl RByte 1 w v l) (hl : l.length ≤ 10000000000000) (h1 : k ≤ 10000000000000) :
    Calls Tryz.prog 87 #[v, .int .i64 k] w fun e w' => e = .returned (if k + 4 ≤ l.length then .tuple #[.int .u32 (numAt l k), .int .i64 0] else .tuple #[.int .u32 0, .int .i64 20]) ∧ Below w.heap.size w w' := by
  have HS := Lib.hid hs
  obtain ⟨a, b, o, cap, rfl, ha, hc⟩ := hs
  obtain ⟨m, hm⟩ : ∃ n, l.length = n := ⟨_, rfl⟩
  have HM := Lib.hid hm
  by_cases h4 : k + 4 ≤ l.length
  · have hr : decide ((k : Int) + 4 ≤ l.length) = true := decide_eq_true (by omega)
    have HR := Lib.hid hr
    have ha' := ha (by omega)
    subst ha'
    have c0 := hc k _ (byteD_get (by omega))
    have c1 := hc (k + 1) _ (byteD_get (by omega))
    have c2 := hc (k + 2) _ (byteD_get (by omega))
    have c3 := hc (k + 3) _ (byteD_get (by omega))
    simp only [RByte, byteV, Nat.mul_one] at c0 c1 c2 c3
    have hL : l.length = m := hm
    rw [if_pos h4]
    rw [hm] at hl h4 HS ⊢
    clear hr hc hm ha
    obtain ⟨x0, hx0⟩ : ∃ x, byteD l k = x := ⟨_, rfl⟩
    obtain ⟨x1, hx1⟩ : ∃ x, byteD l (k + 1) = x := ⟨_, rfl⟩
    obtain ⟨x2, hx2⟩ : ∃ x, byteD l (k + 2) = x := ⟨_, rfl⟩
    obtain ⟨x3, hx3⟩ : ∃ x, byteD l (k + 3) = x := ⟨_, rfl⟩
    have HV : Hid (numAt l k = num4 x0 x1 x2 x3) := Lib.hid (by rw [numAt, hx0, hx1, hx2, hx3])
    rw [hx0] at c0
    rw [hx1] at c1
    rw [hx2] at c2
    rw [hx3] at c3
    have s1 : (0 : Int) ≤ k := by omega
    have s2 : (k : Int) < m := by omega
    have s3 : (k : Int) + 1 < m := by omega
    have s4 : (k : Int) + 2 < m := by omega
    have s5 : (k : Int) + 3 < m := by omega
    clear hx0 hx1 hx2 hx3 hL
    go_enter Tryz.func87, Tryz.ntmps87
    go_wp2_with (go_at_call 102; refine (call_room _ l k 4 _ HS.out (by rw [HM.out]; exact hl) (by omega) (by omega) (by omega) (by omega)).mono ?_; rintro e w1 ⟨rfl, rfl⟩; rw [HR.out])
    go_quiet (fail)
    rw [or4]
    clear c0 c1 c2 c3
    go_wp2
    go_ret2
    exact ⟨by rw [HV.out]; rfl, Below.drewN' (Below.refl _ _) _⟩
  · have hr : decide ((k : Int) + 4 ≤ l.length) = false := decide_eq_false (by omega)
    have HR := Lib.hid hr
    rw [if_neg h4]
    rw [hm] at hl ⊢
    clear hr hc hm ha h4
    rw [HM.out] at HS
    go_enter Tryz.func87, Tryz.ntmps87
    go_wp2_with (go_at_call 102; refine (call_room _ l k 4 _ (by rw [← HM.out] at HS ⊢; exact HS.out) (by rw [HM.out]; exact hl) (by omega) (by omega) (by omega) (by omega)).mono ?_; rintro e w1 ⟨rfl, rfl⟩; rw [HR.out])
    go_ret2
    exact ⟨rfl, Below.refl _ _⟩
end Go.Proofs.YtlecpjfggoehdaaGreatDoor.Ar

set_option linter.unusedVariables false
set_option linter.unusedSimpArgs false
set_option maxRecDepth 100000
namespace Go.Proofs.YtlecpjfggoehdaaGreatDoor.Ar
open Go.RowKit Go.Sort Go.Lib Go.Proofs.YtlecpjfggoehdaaGreatDoor.Rs

/-- what the reader gives up by -/
def giveUp : List PanicEntry := [{ v := .iface 25 (.int .i64 210), recovered := false }]
theorem call_fail (a : Value) (w : World) : Calls Tryz.prog 34 #[a] w fun e w' => e = .panicked giveUp ∧ w = w' := by
  go_enter Tryz.func34, Tryz.ntmps34
  go_wp2
  exact ⟨rfl, rfl, rfl⟩

/-- A reader: its bytes and its place. -/
structure Rd (w : World) (R : Nat) (vb : Value) (b : List UInt8) (k : Nat) : Prop where
  row : Row w R 76 [vb, .int .i64 k]
  bytes : Sl RByte 1 w vb b
  len : b.length ≤ 10000000000000
  cap : ∀ a n c, vb = .slice a n c → n ≤ c
  le : k ≤ 10000000000000
theorem Rd.below {w w' : World} {R : Nat} {vb : Value} {b : List UInt8} {k : Nat} (h : Rd w R vb b k) (hb : Below w.heap.size w w') : Rd w' R vb b k := ⟨h.row.below hb h.row.lt, h.bytes.keep RByte.stays (keeps_below hb), h.len, h.cap, h.le⟩
theorem Rd.ne {w : World} {R : Nat} {vb : Value} {b : List UInt8} {k : Nat} (h : Rd w R vb b k) {B o : Nat} {x : UInt8} (hc : w.cell? ⟨B, o, none⟩ = some (byteV x)) : B ≠ R := fun e => by
  subst e
  rw [h.row.cell] at hc
  obtain ⟨a, b', o', c, rfl, _⟩ := h.bytes
  match o, hc with
  | 0, hc => cases hc
  | 1, hc => cases hc
  | o + 2, hc => simp at hc
/-- the reader goes on: its own block alone has turned -/
theorem Rd.move {w w' : World} {R : Nat} {vb : Value} {b : List UInt8} {k k' : Nat} (h : Rd w R vb b k) (hg : w.grownBy w' (some R)) (hr : Row w' R 76 [vb, .int .i64 k']) (hk : k' ≤ 10000000000000) : Rd w' R vb b k' := by
  refine ⟨hr, ?_, h.len, h.cap, hk⟩
  obtain ⟨a, b', o, c, e, ha, hc⟩ := h.bytes
  exact ⟨a, b', o, c, e, ha, fun j x hj => by
    have h1 := hc j x hj
    exact (World.cell?_of_block (a := ⟨b', o + j * 1, none⟩) (hg.block b' (World.block_lt_of_cell? w _ h1) (by have := h.ne h1; simpa using this))).trans h1⟩
theorem grown_set {w w1 : World} {R : Nat} (hb : Below w.heap.size w w1) (j : Nat) (v : Value) : w.grownBy (w1.setCell ⟨R, j, none⟩ v) (some R) :=
  ⟨hb.os, hb.tape, hb.output, by simpa [World.setCell] using hb.size, fun k hk hne => (Below.heap_setCell w1 ⟨R, j, none⟩ v k (by intro e; exact hne (by rw [e]))).trans (hb.block k hk)⟩
theorem grown_trans {w w1 w2 : World} {R : Nat} (h : w.grownBy w1 (some R)) (k : w1.grownBy w2 (some R)) : w.grownBy w2 (some R) :=
  ⟨k.os.trans h.os, k.tape.trans h.tape, k.output.trans h.output, Nat.le_trans h.size k.size, fun i hi hne => (k.block i (Nat.lt_of_lt_of_le hi h.size) hne).trans (h.block i hi hne)⟩
theorem grown_of_below {w w1 : World} (hb : Below w.heap.size w w1) (R : Option Nat) : w.grownBy w1 R := ⟨hb.os, hb.tape, hb.output, hb.size, fun k hk _ => hb.block k hk⟩

set_option maxHeartbeats 4000000 in
theorem call_rdhalf (R : Nat) (vb : Value) (b : List UInt8) (k : Nat) (w : World) (hr : Rd w R vb b k) (h4 : k + 4 ≤ b.length) :
    Calls Tryz.prog 74 #[.pointer (some ⟨R, 0, none⟩)] w fun e w' => e = .returned (.int .i64 (numAt b k)) ∧ Rd w' R vb b (k + 4) ∧ w.grownBy w' (some R) := by
  obtain ⟨a, bb, o, c, hv, _⟩ := hr.bytes
  subst hv
  have HR := Lib.hid hr
  have hl := hr.len
  have r0 := (show _ = some (Value.slice a b.length c) from hr.row.cell 0)
  have r1 := (show _ = some (Value.int .i64 k) from hr.row.cell 1)
  have hk := hr.le
  have H4 := Lib.hid h4
  obtain ⟨x, hx⟩ : ∃ x, numAt b k = x := ⟨_, rfl⟩
  have hx0 : 0 ≤ x := by rw [← hx]; exact num4_lo _ _ _ _
  have hx1 : x < 4294967296 := by rw [← hx]; exact num4_hi _ _ _ _
  have HX := Lib.hid hx
  obtain ⟨n, hn⟩ : ∃ n, b.length = n := ⟨_, rfl⟩
  have HN := Lib.hid hn
  rw [hn] at r0 hl h4 HR ⊢
  rw [hx]
  clear hr hx hn
  go_enter Tryz.func74, Tryz.ntmps74
  go_wp2_with fail
  haveI : Nonempty (Wd (Below w.heap.size w)) := ⟨⟨_, Below.refl _ _⟩⟩
  have k0 : ∀ y : Wd (Below w.heap.size w), y.val.cell? ⟨R, 0, none⟩ = some (.slice a n c) := fun y => keeps_below y.ok _ _ _ r0
  have k1 : ∀ y : Wd (Below w.heap.size w), y.val.cell? ⟨R, 1, none⟩ = some (.int .i64 k) := fun y => keeps_below y.ok _ _ _ r1
  refine wp_region_class (Below w.heap.size w) (by kernel_rfl) (by kernel_rfl) (below_drew _) ?_
  repeat (first | go_big_quiet_skip | (go_big_quiet_want; go_big_quiet_op; first | go_big_quiet_on | go_big_quiet_call ((go_at_call 87; refine (call_half4 _ b k _ (HR.out.below (Wd.ok _)).bytes (by rw [HN.out]; exact hl) hk).mono ?_; rintro e w2 ⟨rfl, hb2⟩; rw [if_pos H4.out, HX.out]; exact ⟨rfl, ⟨_, below_after (Wd.ok _) hb2⟩, rfl⟩))))
  refine wpQuiet_nil ?_
  rintro _ ⟨y, rfl⟩
  have e0 := k0 y
  have e1 := k1 y
  have hRy := HR.out.below y.ok
  have f1 := hRy.row.free 1
  have HRy := Lib.hid hRy
  have HY := Lib.hid y.ok
  clear k0 k1 hRy
  go_wp2
  go_ret
  exact ⟨rfl, HRy.out.move (grown_set (Below.refl _ _) 1 _) (by have h := HRy.out.row.set 1 (.int .i64 ((k : Int) + 4)); exact h) (Nat.le_trans H4.out (by rw [HN.out]; exact hl)), grown_set HY.out 1 _⟩
set_option maxHeartbeats 4000000 in
theorem call_rdhalf_no (R : Nat) (vb : Value) (b : List UInt8) (k : Nat) (w : World) (hr : Rd w R vb b k) (h4 : ¬ k + 4 ≤ b.length) :
    Calls Tryz.prog 74 #[.pointer (some ⟨R, 0, none⟩)] w fun e w' => e = .panicked giveUp ∧ Below w.heap.size w w' := by
  obtain ⟨a, bb, o, c, hv, _⟩ := hr.bytes
  subst hv
  have HR := Lib.hid hr
  have hl := hr.len
  have r0 := (show _ = some (Value.slice a b.length c) from hr.row.cell 0)
  have r1 := (show _ = some (Value.int .i64 k) from hr.row.cell 1)
  have hk := hr.le
  have H4 := Lib.hid h4
  obtain ⟨n, hn⟩ : ∃ n, b.length = n := ⟨_, rfl⟩
  have HN := Lib.hid hn
  rw [hn] at r0 hl HR
  clear hr hn h4
  go_enter Tryz.func74, Tryz.ntmps74
  go_wp2_with fail
  haveI : Nonempty (Wd (Below w.heap.size w)) := ⟨⟨_, Below.refl _ _⟩⟩
  have k0 : ∀ y : Wd (Below w.heap.size w), y.val.cell? ⟨R, 0, none⟩ = some (.slice a n c) := fun y => keeps_below y.ok _ _ _ r0
  have k1 : ∀ y : Wd (Below w.heap.size w), y.val.cell? ⟨R, 1, none⟩ = some (.int .i64 k) := fun y => keeps_below y.ok _ _ _ r1
  refine wp_region_class (Below w.heap.size w) (by kernel_rfl) (by kernel_rfl) (below_drew _) ?_
  repeat (first | go_big_quiet_skip | (go_big_quiet_want; go_big_quiet_op; first | go_big_quiet_on | go_big_quiet_call ((go_at_call 87; refine (call_half4 _ b k _ (HR.out.below (Wd.ok _)).bytes (by rw [HN.out]; exact hl) hk).mono ?_; rintro e w2 ⟨rfl, hb2⟩; rw [if_neg H4.out]; exact ⟨rfl, ⟨_, below_after (Wd.ok _) hb2⟩, rfl⟩))))
  refine wpQuiet_nil ?_
  rintro _ ⟨y, rfl⟩
  have HY := Lib.hid y.ok
  clear k0 k1
  go_wp2_with (go_at_call 34; refine (call_fail _ _).mono ?_; rintro e w3 ⟨rfl, rfl⟩)
  exact ⟨rfl, rfl, HY.out⟩

/-- n bytes from k on -/
def txt (b : List UInt8) (k n : Nat) : List UInt8 := (b.drop k).take n
theorem txt_len {b : List UInt8} {k n : Nat} (h : k + n ≤ b.length) : (txt b k n).length = n := by rw [txt, List.length_take, List.length_drop]; omega
theorem conv_txt {w : World} {B o c : Nat} {l : List UInt8} (hc : ∀ j x, l[j]? = some x → w.cell? ⟨B, o + j, none⟩ = some (byteV x)) : (convert 22 9 (.slice (some ⟨B, o, none⟩) l.length c)).run Tryz.prog w = .ok (.string (bs l)) w := by
  have h := run_convert_bytes_arg (P := Tryz.prog) w 22 5 Tryz.underlying22 Tryz.underlying5 B o l.length c (l.map fun x => (x.toNat : Int)) (by simp) (fun i hi => by
    rw [hc i _ (List.getElem?_eq_getElem hi)]
    simp [byteV, List.getD_eq_getElem?_getD, List.getElem?_eq_getElem hi]) 9 Tryz.underlying9
  rw [h]
  congr 2
  unfold strOfNums bs
  rw [List.map_map]
  congr 2
  conv => rhs; rw [← List.map_id l]
  apply List.map_congr_left
  intro x _
  simp
theorem conv_none (w : World) (a : Addr) (c : Nat) : (convert 22 9 (.slice (some a) 0 c)).run Tryz.prog w = .ok (.string (bs [])) w := by
  rw [run_convert_bytes_string w 22 9 5 _ 0 c Tryz.underlying22 Tryz.underlying5 Tryz.underlying9, run_bytesToString w a 0 c [] (by simp [loadCells, loadCellsFrom, go_sem])]
  rfl

set_option maxHeartbeats 4000000 in
theorem call_take (R : Nat) (vb : Value) (b : List UInt8) (k n : Nat) (w : World) (hr : Rd w R vb b k) (hb0 : 0 < b.length) (h4 : k + n ≤ b.length) :
    Calls Tryz.prog 73 #[.pointer (some ⟨R, 0, none⟩), .int .i64 n] w fun e w' => e = .returned (.string (bs (txt b k n))) ∧ Rd w' R vb b (k + n) ∧ w.grownBy w' (some R) := by
  have HR := Lib.hid hr
  obtain ⟨a, bb, o, c, hv, ha, hc⟩ := hr.bytes
  have ha' := ha hb0
  subst ha'
  subst hv
  have hl := hr.len
  have r0 := (show _ = some (Value.slice (some ⟨bb, o, none⟩) b.length c) from hr.row.cell 0)
  have r1 := (show _ = some (Value.int .i64 k) from hr.row.cell 1)
  have hk := hr.le
  have H4 := Lib.hid h4
  have hcap := hr.cap _ _ _ rfl
  obtain ⟨x, hx⟩ : ∃ x, txt b k n = x := ⟨_, rfl⟩
  have hxl : x.length = n := by rw [← hx]; exact txt_len h4
  obtain ⟨m, hm⟩ : ∃ n, b.length = n := ⟨_, rfl⟩
  have HM := Lib.hid hm
  have HX := Lib.hid hx
  have HCx : Hid (∀ y : Wd (Below w.heap.size w), ∀ j z, x[j]? = some z → y.val.cell? ⟨bb, o + k + j, none⟩ = some (byteV z)) := Lib.hid (fun y j z hj => by
    rw [← hx, txt, List.getElem?_take] at hj
    split at hj
    · rw [List.getElem?_drop] at hj
      have := keeps_below y.ok _ _ _ (hc (k + j) z hj)
      rwa [Nat.mul_one, ← Nat.add_assoc] at this
    · cases hj)
  rw [hm] at r0 hl h4 HR hcap ⊢
  rw [hx]
  have n4 : (k : Int) + n ≤ c := by omega
  have n0 : decide ((n : Int) < 0) = false := decide_eq_false (by omega)
  have n1 : decide ((m : Int) - k < n) = false := decide_eq_false (by omega)
  have n2 : (0 : Int) ≤ k := by omega
  have n3 : (k : Int) ≤ (k : Int) + n := by omega
  clear hr hx hm ha hc
  go_enter Tryz.func73, Tryz.ntmps73
  go_wp2_with fail
  haveI : Nonempty (Wd (Below w.heap.size w)) := ⟨⟨_, Below.refl _ _⟩⟩
  have k0 : ∀ y : Wd (Below w.heap.size w), y.val.cell? ⟨R, 0, none⟩ = some (.slice (some ⟨bb, o, none⟩) m c) := fun y => keeps_below y.ok _ _ _ r0
  have k1 : ∀ y : Wd (Below w.heap.size w), y.val.cell? ⟨R, 1, none⟩ = some (.int .i64 k) := fun y => keeps_below y.ok _ _ _ r1
  refine wp_region_class (Below w.heap.size w) (by kernel_rfl) (by kernel_rfl) (below_drew _) ?_
  repeat (first | go_big_quiet_skip | (go_big_quiet_want; go_big_quiet_op; first | go_big_quiet_on | go_big_quiet_call (fail)))
  refine wpQuiet_nil ?_
  rintro _ ⟨y, rfl⟩
  have HY := Lib.hid y.ok
  clear n0 n1
  go_wp2_with fail
  by_cases hn0 : 0 < n
  · have n5 : ¬ (c : Int) = k := by omega
    have n6 : ¬ c = k := by omega
    have n7 : k < c := by omega
    have k2 : ∀ z : Wd (Below w.heap.size w), (convert 22 9 (.slice (some ⟨bb, o + k, none⟩) n (c - k))).run Tryz.prog z.val = .ok (.string (bs x)) z.val := fun z => by
      have h := conv_txt (B := bb) (o := o + k) (c := c - k) (HCx.out z)
      rw [hxl] at h
      exact h
    refine wp_region_class (Below w.heap.size w) (by kernel_rfl) (by kernel_rfl) (HY.out.drew) ?_
    repeat (first | go_big_quiet_skip | (go_big_quiet_want; go_big_quiet_op; first | go_big_quiet_on | go_big_quiet_call (fail)))
    refine wpQuiet_nil ?_
    rintro _ ⟨y2, rfl⟩
    have e1 := k1 y2
    have hRy := HR.out.below y2.ok
    have f1 := hRy.row.free 1
    have HRy := Lib.hid hRy
    have HY2 := Lib.hid y2.ok
    clear k0 k1 k2 hRy
    go_wp2
    go_ret
    exact ⟨rfl, HRy.out.move (grown_set (Below.refl _ _) 1 _) (by have h := HRy.out.row.set 1 (.int .i64 ((k : Int) + n)); exact h) (Nat.le_trans H4.out (by rw [HM.out]; exact hl)), grown_set HY2.out 1 _⟩
  · have hn00 : n = 0 := by omega
    have k2 : ∀ (z : Wd (Below w.heap.size w)) (ad : Addr) (cc : Nat), (convert 22 9 (.slice (some ad) n cc)).run Tryz.prog z.val = .ok (.string (bs x)) z.val := fun z ad cc => by rw [hn00, List.eq_nil_of_length_eq_zero (hxl.trans hn00)]; exact conv_none _ _ _
    clear hn00
    by_cases hck : k = c
    · subst hck
      obtain rfl : n = 0 := by omega
      refine wp_region_class (Below w.heap.size w) (by kernel_rfl) (by kernel_rfl) (HY.out.drew) ?_
      repeat (first | go_big_quiet_skip | (go_big_quiet_want; go_big_quiet_op; first | go_big_quiet_on | go_big_quiet_call (fail)))
      refine wpQuiet_nil ?_
      rintro _ ⟨y2, rfl⟩
      have e1 := k1 y2
      have hRy := HR.out.below y2.ok
      have f1 := hRy.row.free 1
      have HRy := Lib.hid hRy
      have HY2 := Lib.hid y2.ok
      clear k0 k1 k2 hRy
      go_wp2
      go_ret
      exact ⟨rfl, HRy.out.move (grown_set (Below.refl _ _) 1 _) (by have h := HRy.out.row.set 1 (.int .i64 ((k : Int) + (0 : Nat))); exact h) (Nat.le_trans H4.out (by rw [HM.out]; exact hl)), grown_set HY2.out 1 _⟩
    · have n5 : ¬ (c : Int) = k := by omega
      have n6 : ¬ c = k := by omega
      have n7 : k < c := by omega
      refine wp_region_class (Below w.heap.size w) (by kernel_rfl) (by kernel_rfl) (HY.out.drew) ?_
      repeat (first | go_big_quiet_skip | (go_big_quiet_want; go_big_quiet_op; first | go_big_quiet_on | go_big_quiet_call (fail)))
      refine wpQuiet_nil ?_
      rintro _ ⟨y2, rfl⟩
      have e1 := k1 y2
      have hRy := HR.out.below y2.ok
      have f1 := hRy.row.free 1
      have HRy := Lib.hid hRy
      have HY2 := Lib.hid y2.ok
      clear k0 k1 k2 hRy
      go_wp2
      go_ret
      exact ⟨rfl, HRy.out.move (grown_set (Below.refl _ _) 1 _) (by have h := HRy.out.row.set 1 (.int .i64 ((k : Int) + n)); exact h) (Nat.le_trans H4.out (by rw [HM.out]; exact hl)), grown_set HY2.out 1 _⟩

set_option maxHeartbeats 4000000 in
theorem call_take_no (R : Nat) (vb : Value) (b : List UInt8) (k n : Nat) (w : World) (hr : Rd w R vb b k) (hk2 : k ≤ b.length) (hn : n < 4294967296) (h4 : ¬ k + n ≤ b.length) :
    Calls Tryz.prog 73 #[.pointer (some ⟨R, 0, none⟩), .int .i64 n] w fun e w' => e = .panicked giveUp ∧ Below w.heap.size w w' := by
  obtain ⟨a, bb, o, c, hv, ha, hc⟩ := hr.bytes
  subst hv
  have hl := hr.len
  have r0 := (show _ = some (Value.slice a b.length c) from hr.row.cell 0)
  have r1 := (show _ = some (Value.int .i64 k) from hr.row.cell 1)
  have hk := hr.le
  obtain ⟨m, hm⟩ : ∃ n, b.length = n := ⟨_, rfl⟩
  rw [hm] at r0 hl h4 hk2
  have n0 : decide ((n : Int) < 0) = false := decide_eq_false (by omega)
  have n1 : decide ((m : Int) - k < n) = true := decide_eq_true (by omega)
  clear hr hm ha hc
  go_enter Tryz.func73, Tryz.ntmps73
  go_wp2_with fail
  haveI : Nonempty (Wd (Below w.heap.size w)) := ⟨⟨_, Below.refl _ _⟩⟩
  have k0 : ∀ y : Wd (Below w.heap.size w), y.val.cell? ⟨R, 0, none⟩ = some (.slice a m c) := fun y => keeps_below y.ok _ _ _ r0
  have k1 : ∀ y : Wd (Below w.heap.size w), y.val.cell? ⟨R, 1, none⟩ = some (.int .i64 k) := fun y => keeps_below y.ok _ _ _ r1
  refine wp_region_class (Below w.heap.size w) (by kernel_rfl) (by kernel_rfl) (below_drew _) ?_
  repeat (first | go_big_quiet_skip | (go_big_quiet_want; go_big_quiet_op; first | go_big_quiet_on | go_big_quiet_call (fail)))
  refine wpQuiet_nil ?_
  rintro _ ⟨y, rfl⟩
  have HY := Lib.hid y.ok
  clear k0 k1 n0 n1
  go_wp2_with (go_at_call 34; refine (call_fail _ _).mono ?_; rintro e w3 ⟨rfl, rfl⟩)
  exact ⟨rfl, rfl, HY.out⟩
end Go.Proofs.YtlecpjfggoehdaaGreatDoor.Ar
