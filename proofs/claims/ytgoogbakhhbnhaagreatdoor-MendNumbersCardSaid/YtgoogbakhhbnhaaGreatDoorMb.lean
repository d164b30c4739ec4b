
/- Mend: the layout's reader of numbers. -/
import Derived.Test.YtgoogbakhhbnhaaGreatDoorMa
set_option linter.unusedVariables false
set_option linter.unusedSimpArgs false
set_option maxRecDepth 100000
namespace Go.Proofs.YtgoogbakhhbnhaaGreatDoor.Ar
open Go.RowKit Go.Sort Go.Lib Go.Proofs.YtgoogbakhhbnhaaGreatDoor.Rs

/-- a reader at place k of bytes -/
structure Ey (w : World) (R : Nat) (vb : Value) (b : List UInt8) (k : Nat) : Prop where
  row : Row w R 170 [vb, .int .i64 (k : Int)]
  sl : Sl RByte 1 w vb b
  cap : ∀ a n c, vb = .slice a n c → n ≤ c
  len : b.length ≤ 1000000000
  pos : 0 < b.length
theorem grown_of_below {w w' : World} (h : Below w.heap.size w w') (r : Option Nat) : w.grownBy w' r := ⟨h.os, h.tape, h.output, h.size, fun k hk _ => h.block k hk⟩
theorem grown_drewN {w w' : World} {r : Option Nat} (h : w.grownBy w' r) (n : Nat) : w.grownBy (w'.drewN n) r := ⟨h.os, h.tape, h.output, h.size, h.block⟩
theorem grown_set {w w' : World} {R : Nat} (h : w.grownBy w' (some R)) (j : Nat) (v : Value) : w.grownBy (w'.setCell ⟨R, j, none⟩ v) (some R) :=
  ⟨h.os, h.tape, h.output, by simpa [World.setCell] using h.size, fun k hk hne => (Below.heap_setCell w' ⟨R, j, none⟩ v k (by intro e; exact hne (by rw [e]))).trans (h.block k hk hne)⟩
/-- the bytes lie elsewhere -/
theorem Ey.turn {w w' : World} {R : Nat} {vb : Value} {b : List UInt8} {k k' : Nat} (h : Ey w R vb b k) (hr : Row w' R 170 [vb, .int .i64 (k' : Int)]) (hg : w.grownBy w' (some R)) : Ey w' R vb b k' := by
  refine ⟨hr, ?_, h.cap, h.len, h.pos⟩
  obtain ⟨a, bb, o, c, e, ha, hc⟩ := h.sl
  refine ⟨a, bb, o, c, e, ha, fun j x hj => ?_⟩
  have h1 := hc j x hj
  have hlt : bb < w.heap.size := World.block_lt_of_cell? w _ h1
  have hne : bb ≠ R := fun e2 => by
    subst e2
    have h2 := h1
    unfold RByte at h2
    rw [h.row.cell] at h2
    match o + j * 1, h2 with
    | 0, h2 => rw [e] at h2; simp [byteV] at h2
    | 1, h2 => simp [byteV] at h2
    | n + 2, h2 => simp at h2
  show World.cell? _ _ = _
  have h3 : w'.heap[bb]? = w.heap[bb]? := hg.block bb hlt (by simpa using hne)
  simp only [World.cell?, h3]
  exact h1

set_option maxHeartbeats 2000000 in
theorem call_number (R : Nat) (vb : Value) (b : List UInt8) (k n : Nat) (w : World) (he : Ey w R vb b k) (hn : n ≤ 8) (hk : k + n ≤ b.length) :
    Calls Tryz.prog 110 #[.pointer (some ⟨R, 0, none⟩), .int .i64 n] w fun e w' => e = .returned (.int .u64 (leN b k n)) ∧ Row w' R 170 [vb, .int .i64 ((k + n : Nat) : Int)] ∧ w.grownBy w' (some R) := by
  have HR := Lib.hid he.row
  have HPos := he.pos
  have HLen := he.len
  obtain ⟨aa, bb, oo, cc, rfl, ha, hc⟩ := he.sl
  have ha' := ha HPos
  subst ha'
  have HC := Lib.hid hc
  obtain ⟨m, hm⟩ : ∃ m, b.length = m := ⟨_, rfl⟩
  have HM := Lib.hid hm
  have hcap := he.cap _ _ _ rfl
  rw [hm] at HR HPos HLen hk hcap ⊢
  clear he ha hc hm
  go_enter Tryz.func110, Tryz.ntmps110
  go_wp2
  go_loopw [5, 8] (fun vv iv wr => ∃ j : Nat, iv = .int .i64 j ∧ j ≤ n ∧ vv = .int .u64 (leN b k j) ∧ Row wr R 170 [.slice (some ⟨bb, oo, none⟩) m cc, .int .i64 (k : Int)] ∧ Below w.heap.size w wr)
    (fun _ iv _ => n - (RowKit.intOf iv).toNat)
  case atStart => exact ⟨0, rfl, Nat.zero_le _, rfl, HR.out, Below.refl _ _⟩
  case round =>
    obtain ⟨j, rfl, hj, rfl, hr, hb⟩ := hrel
    have r0 := (show wr.cell? ⟨R, 0, none⟩ = some (.slice (some ⟨bb, oo, none⟩) m cc) from hr.cell 0)
    have r1 := (show wr.cell? ⟨R, 1, none⟩ = some (.int .i64 (k : Int)) from hr.cell 1)
    have r2 := hr.free 1
    have HRr := Lib.hid hr
    have HB := Lib.hid hb
    by_cases hlt : j < n
    · have c0 := RByte.stays _ _ (keeps_below hb) _ _ _ (HC.out (k + j) _ (byteD_get (by have := HM.out; omega)))
      simp only [RByte, byteV, Nat.mul_one] at c0
      obtain ⟨x, hx⟩ : ∃ x, (byteD b (k + j)).toNat = x := ⟨_, rfl⟩
      have hx2 : x < 256 := by rw [← hx]; exact (byteD b (k + j)).toNat_lt
      obtain ⟨y, hy⟩ : ∃ y, leN b k j = y := ⟨_, rfl⟩
      have HY := Lib.hid hy
      have HX := Lib.hid hx
      have k0 : (0 : Int) ≤ (k : Int) + j := by omega
      have k1 : (k : Int) + j < m := by omega
      have k2 : ¬ (8 * (j : Int)) < 0 := by omega
      rw [hx] at c0
      rw [hy]
      clear hx hy hr hb
      go_wp2_with fail
      go_quiet (fail)
      have HBd := Lib.hid (Below.drewN' HB.out nq)
      have HRd := Lib.hid (HRr.out.drewN nq)
      clear r0 r1 r2 c0
      generalize wr.drewN nq = wd at *
      go_wp2
      go_roundw
      case rel => exact ⟨j + 1, by go_num, by omega, by rw [← HY.out, ← HX.out]; rw [leN_step b k j (by omega)], HRd.out, HBd.out⟩
      case measure => simp [RowKit.intOf]; omega
    · obtain rfl : j = n := by omega
      clear hr hb
      go_wp2
      go_ret
      exact ⟨rfl, by have h := HRr.out.set 1 (.int .i64 ((k : Int) + j)); rw [Int.natCast_add]; exact h, grown_set (grown_of_below HB.out _) 1 _⟩

theorem leN_bound (b : List UInt8) (k n : Nat) (hn : n ≤ 8) : leN b k n < 18446744073709551616 := by
  have h := leN_lt b k n
  have h3 : 2 ^ (8 * n) ≤ 18446744073709551616 := by
    have := Nat.pow_le_pow_right (n := 2) (by omega) (show 8 * n ≤ 64 by omega)
    exact this
  omega
theorem call_ehalf (R : Nat) (vb : Value) (b : List UInt8) (k : Nat) (w : World) (he : Ey w R vb b k) (hk : k + 4 ≤ b.length) :
    Calls Tryz.prog 82 #[.pointer (some ⟨R, 0, none⟩)] w fun e w' => e = .returned (.int .i64 (leN b k 4)) ∧ Row w' R 170 [vb, .int .i64 ((k + 4 : Nat) : Int)] ∧ w.grownBy w' (some R) := by
  have HN := Lib.hid (call_number R vb b k 4 w he (by omega) hk)
  have hx : leN b k 4 < 4294967296 := leN_lt b k 4
  obtain ⟨x, hx2⟩ : ∃ x, leN b k 4 = x := ⟨_, rfl⟩
  rw [hx2] at HN hx ⊢
  clear he hx2
  go_enter Tryz.func82, Tryz.ntmps82
  go_wp2_with (go_at_call 110; refine HN.out.mono ?_; rintro e w1 ⟨rfl, hr1, hg1⟩; have HR1 := Lib.hid hr1; have HG1 := Lib.hid hg1; clear hr1 hg1)
  go_ret
  exact ⟨rfl, HR1.out, HG1.out⟩
/-- what a reader gives up with -/
def breachV (e : Int) : Value := .iface 212 (.agg #[.int .i64 e])
theorem call_must_ok (x : Int) (w : World) : Calls Tryz.prog 79 #[.bool true, .int .i64 x] w fun e w' => e = .returned (.tuple #[]) ∧ w' = w := by
  go_enter Tryz.func79, Tryz.ntmps79
  go_wp2
  go_end0
  exact ⟨rfl, rfl⟩
theorem call_must_no (x : Int) (w : World) : Calls Tryz.prog 79 #[.bool false, .int .i64 x] w fun e w' => e = .panicked [{ v := breachV x, recovered := false }] ∧ w' = w := by
  go_enter Tryz.func79, Tryz.ntmps79
  go_wp2
  exact ⟨rfl, rfl, rfl⟩

set_option maxHeartbeats 2000000 in
theorem call_ezeros (R : Nat) (vb : Value) (b : List UInt8) (k n : Nat) (x : Int) (w : World) (he : Ey w R vb b k) (hk : k + n ≤ b.length) (hn : 0 < n) (hz : ∀ j, j < n → byteD b (k + j) = 0) :
    Calls Tryz.prog 83 #[.pointer (some ⟨R, 0, none⟩), .int .i64 n, .int .i64 x] w fun e w' => e = .returned (.tuple #[]) ∧ Row w' R 170 [vb, .int .i64 ((k + n : Nat) : Int)] ∧ w.grownBy w' (some R) := by
  have HR := Lib.hid he.row
  have HPos := he.pos
  have HLen := he.len
  obtain ⟨aa, bb, oo, cc, rfl, ha, hc⟩ := he.sl
  have ha' := ha HPos
  subst ha'
  have HC := Lib.hid hc
  obtain ⟨m, hm⟩ : ∃ m, b.length = m := ⟨_, rfl⟩
  have HM := Lib.hid hm
  have hcap := he.cap _ _ _ rfl
  have HZ := Lib.hid hz
  rw [hm] at HR HPos HLen hk hcap ⊢
  have r0 := (show w.cell? ⟨R, 0, none⟩ = some (.slice (some ⟨bb, oo, none⟩) m cc) from HR.out.cell 0)
  have r1 := (show w.cell? ⟨R, 1, none⟩ = some (.int .i64 (k : Int)) from HR.out.cell 1)
  have k0 : (0 : Int) ≤ k := Int.natCast_nonneg _
  have k1 : (k : Int) ≤ (k : Int) + n := by omega
  have k2 : (k : Int) + n ≤ cc := by omega
  have k3 : (0 : Int) ≤ (k : Int) + n := by omega
  have k4 : ¬ cc = k := by omega
  have k5 : k + n - k = n := by omega
  clear he ha hc hm hz
  go_enter Tryz.func83, Tryz.ntmps83
  go_wp2_with fail
  go_quiet (fail)
  have HB := Lib.hid (Below.drewN' (Below.refl w.heap.size w) nq)
  have HRd := Lib.hid (HR.out.drewN nq)
  clear r0 r1
  generalize w.drewN nq = wd at *
  simp only [k5, if_neg k4]
  clear k5 k4
  go_wp2
  go_loopw [24] (fun iv wr => ∃ j : Nat, iv = .int .i64 j ∧ j ≤ n ∧ Row wr R 170 [.slice (some ⟨bb, oo, none⟩) m cc, .int .i64 (k : Int)] ∧ Below w.heap.size w wr)
    (fun iv _ => n - (RowKit.intOf iv).toNat)
  case atStart => exact ⟨0, rfl, Nat.zero_le _, HRd.out, HB.out⟩
  case round =>
    obtain ⟨j, rfl, hj, hr, hb⟩ := hrel
    have HRr := Lib.hid hr
    have HBr := Lib.hid hb
    by_cases hlt : j < n
    · have c0 := RByte.stays _ _ (keeps_below hb) _ _ _ (HC.out (k + j) _ (byteD_get (by have := HM.out; omega)))
      rw [HZ.out j hlt] at c0
      have c1 : wr.cell? ⟨bb, oo + k + j, none⟩ = some (.int .u8 0) := by
        have h : wr.cell? ⟨bb, oo + (k + j) * 1, none⟩ = some (byteV 0) := c0
        rw [Nat.mul_one, ← Nat.add_assoc] at h
        exact h
      have j0 : (0 : Int) ≤ j := Int.natCast_nonneg _
      have j1 : (j : Int) < n := by omega
      clear c0 hr hb
      go_wp2_with (go_at_call 79; refine (call_must_ok x _).mono ?_; rintro e w1 ⟨rfl, rfl⟩)
      go_roundw
      case rel => exact ⟨j + 1, by go_num, by omega, HRr.out, HBr.out⟩
      case measure => simp [RowKit.intOf]; omega
    · obtain rfl : j = n := by omega
      have r1 := (show wr.cell? ⟨R, 1, none⟩ = some (.int .i64 (k : Int)) from hr.cell 1)
      have r2 := hr.free 1
      clear hr hb
      go_wp2
      go_end0
      exact ⟨rfl, by have h := HRr.out.set 1 (.int .i64 ((k : Int) + j)); rw [Int.natCast_add]; exact h, grown_set (grown_of_below HBr.out _) 1 _⟩
end Go.Proofs.YtgoogbakhhbnhaaGreatDoor.Ar
