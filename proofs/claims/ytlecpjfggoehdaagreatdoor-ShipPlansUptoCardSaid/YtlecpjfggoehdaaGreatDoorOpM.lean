
/- Archive: the reference's cursor. Archive: the reference's numbers. -/
import Derived.Test.YtlecpjfggoehdaaGreatDoorOpC
set_option linter.unusedVariables false
set_option linter.unusedSimpArgs false
set_option maxRecDepth 100000
namespace Go.Proofs.YtlecpjfggoehdaaGreatDoor.Ar
open Go.RowKit Go.Sort Go.Lib Go.Proofs.YtlecpjfggoehdaaGreatDoor.Rs

/-- A cursor: its bytes, its place, whether it has failed. -/
structure Cu (w : World) (C : Nat) (vb : Value) (b : List UInt8) (k : Nat) (bad : Bool) : Prop where
  row : Row w C 66 [vb, .int .i64 k, .bool bad]
  bytes : Sl RByte 1 w vb b
  len : b.length ≤ 10000000000000
  cap : ∀ a n c, vb = .slice a n c → n ≤ c
  pos : 0 < b.length
  le : k ≤ b.length
theorem Cu.below {w w' : World} {C : Nat} {vb : Value} {b : List UInt8} {k : Nat} {bad : Bool} (h : Cu w C vb b k bad) (hb : Below w.heap.size w w') : Cu w' C vb b k bad := ⟨h.row.below hb h.row.lt, h.bytes.keep RByte.stays (keeps_below hb), h.len, h.cap, h.pos, h.le⟩
theorem Cu.ne {w : World} {C : Nat} {vb : Value} {b : List UInt8} {k : Nat} {bad : Bool} (h : Cu w C vb b k bad) {B o : Nat} {x : UInt8} (hc : w.cell? ⟨B, o, none⟩ = some (byteV x)) : B ≠ C := fun e => by
  subst e
  rw [h.row.cell] at hc
  obtain ⟨a, b', o', c, rfl, _⟩ := h.bytes
  match o, hc with
  | 0, hc => cases hc
  | 1, hc => cases hc
  | 2, hc => cases hc
  | o + 3, hc => simp at hc
theorem Cu.move {w w' : World} {C : Nat} {vb : Value} {b : List UInt8} {k k' : Nat} {bad bad' : Bool} (h : Cu w C vb b k bad) (hg : w.grownBy w' (some C)) (hr : Row w' C 66 [vb, .int .i64 k', .bool bad']) (hk : k' ≤ b.length) : Cu w' C vb b k' bad' := by
  refine ⟨hr, ?_, h.len, h.cap, h.pos, hk⟩
  obtain ⟨a, b', o, c, e, ha, hc⟩ := h.bytes
  exact ⟨a, b', o, c, e, ha, fun j x hj => by
    have h1 := hc j x hj
    exact (World.cell?_of_block (a := ⟨b', o + j * 1, none⟩) (hg.block b' (World.block_lt_of_cell? w _ h1) (by have := h.ne h1; simpa using this))).trans h1⟩
/-- what taking n bytes answers -/
def CTake (w : World) (C : Nat) (vb : Value) (b : List UInt8) (k n : Nat) (bad : Bool) (e : Ending) (w' : World) : Prop :=
  w.grownBy w' (some C) ∧ ((bad = false ∧ k + n ≤ b.length ∧ e = .returned (.string (bs (txt b k n))) ∧ Row w' C 66 [vb, .int .i64 ((k + n : Nat) : Int), .bool false]) ∨
    (¬ (bad = false ∧ k + n ≤ b.length) ∧ e = .returned (.string (bs [])) ∧ Row w' C 66 [vb, .int .i64 k, .bool true]))

set_option maxHeartbeats 4000000 in
theorem call_ctake_bad (C : Nat) (vb : Value) (b : List UInt8) (k n : Nat) (bad : Bool) (w : World) (hr : Cu w C vb b k bad) (hn : n < 4294967296) (h4 : ¬ (bad = false ∧ k + n ≤ b.length)) :
    Calls Tryz.prog 46 #[.pointer (some ⟨C, 0, none⟩), .int .i64 n] w (CTake w C vb b k n bad) := by
  obtain ⟨a, bb, o, c, hv, ha, hc⟩ := hr.bytes
  subst hv
  have hl := hr.len
  have hk := hr.le
  have HR := Lib.hid hr
  have H4 := Lib.hid h4
  have r0 := (show _ = some (Value.slice a b.length c) from hr.row.cell 0)
  have r1 := (show _ = some (Value.int .i64 k) from hr.row.cell 1)
  have r2 := (show _ = some (Value.bool bad) from hr.row.cell 2)
  obtain ⟨m, hm⟩ : ∃ n, b.length = n := ⟨_, rfl⟩
  rw [hm] at r0 hl h4 hk
  have HM := Lib.hid hm
  have hbad : bad = true ∨ (bad = false ∧ decide ((n : Int) > (m : Int) - k) = true) := by
    cases bad
    · exact .inr ⟨rfl, decide_eq_true (by simp at h4; omega)⟩
    · exact .inl rfl
  clear hr hm ha hc h4
  haveI : Nonempty (Wd (Below w.heap.size w)) := ⟨⟨_, Below.refl _ _⟩⟩
  have k0 : ∀ y : Wd (Below w.heap.size w), y.val.cell? ⟨C, 0, none⟩ = some (.slice a m c) := fun y => keeps_below y.ok _ _ _ r0
  have k1 : ∀ y : Wd (Below w.heap.size w), y.val.cell? ⟨C, 1, none⟩ = some (.int .i64 k) := fun y => keeps_below y.ok _ _ _ r1
  have k2 : ∀ y : Wd (Below w.heap.size w), y.val.cell? ⟨C, 2, none⟩ = some (.bool bad) := fun y => keeps_below y.ok _ _ _ r2
  rcases hbad with rfl | ⟨rfl, n1⟩
  · go_enter Tryz.func46, Tryz.ntmps46
    go_wp2_with fail
    refine wp_region_class (Below w.heap.size w) (by kernel_rfl) (by kernel_rfl) (below_drew _) ?_
    repeat (first | go_big_quiet_skip | (go_big_quiet_want; go_big_quiet_op; first | go_big_quiet_on | go_big_quiet_call (fail)))
    refine wpQuiet_nil ?_
    rintro _ ⟨y, rfl⟩
    have HY := Lib.hid y.ok
    have hRy := HR.out.below y.ok
    have e2 := k2 y
    have f2 := hRy.row.free 2
    have HRy := Lib.hid hRy
    clear k0 k1 k2 hRy
    go_wp2
    go_ret
    exact ⟨grown_set HY.out 2 _, .inr ⟨H4.out, rfl, by have h := HRy.out.row.set 2 (.bool true); exact h⟩⟩
  · go_enter Tryz.func46, Tryz.ntmps46
    go_wp2_with fail
    refine wp_region_class (Below w.heap.size w) (by kernel_rfl) (by kernel_rfl) (below_drew _) ?_
    repeat (first | go_big_quiet_skip | (go_big_quiet_want; go_big_quiet_op; first | go_big_quiet_on | go_big_quiet_call (fail)))
    refine wpQuiet_nil ?_
    rintro _ ⟨y, rfl⟩
    have HY := Lib.hid y.ok
    have hRy := HR.out.below y.ok
    have e2 := k2 y
    have f2 := hRy.row.free 2
    have HRy := Lib.hid hRy
    clear k0 k1 k2 hRy n1
    go_wp2
    go_ret
    exact ⟨grown_set HY.out 2 _, .inr ⟨(by simpa using H4.out), rfl, by have h := HRy.out.row.set 2 (.bool true); exact h⟩⟩

set_option maxHeartbeats 4000000 in
theorem call_ctake_ok (C : Nat) (vb : Value) (b : List UInt8) (k n : Nat) (w : World) (hr : Cu w C vb b k false) (hn : n < 4294967296) (h4 : k + n ≤ b.length) :
    Calls Tryz.prog 46 #[.pointer (some ⟨C, 0, none⟩), .int .i64 n] w (CTake w C vb b k n false) := by
  have HR := Lib.hid hr
  obtain ⟨a, bb, o, c, hv, ha, hc⟩ := hr.bytes
  have ha' := ha hr.pos
  subst ha'
  subst hv
  have hl := hr.len
  have r0 := (show _ = some (Value.slice (some ⟨bb, o, none⟩) b.length c) from hr.row.cell 0)
  have r1 := (show _ = some (Value.int .i64 k) from hr.row.cell 1)
  have r2 := (show _ = some (Value.bool false) from hr.row.cell 2)
  have hk := hr.le
  have H4 := Lib.hid h4
  have hcap := hr.cap _ _ _ rfl
  obtain ⟨x, hx⟩ : ∃ x, txt b k n = x := ⟨_, rfl⟩
  have hxl : x.length = n := by rw [← hx]; exact txt_len h4
  obtain ⟨m, hm⟩ : ∃ n, b.length = n := ⟨_, rfl⟩
  have HM := Lib.hid hm
  have HX := Lib.hid hx
  have HCx : Hid (∀ y : Wd (Below w.heap.size w), ∀ j z, x[j]? = some z → y.val.cell? ⟨bb, o + k + j, none⟩ = some (byteV z)) := Lib.hid (fun y j z hj => by
    rw [← hx, txt, List.getElem?_take] at hj
    split at hj
    · rw [List.getElem?_drop] at hj
      have := keeps_below y.ok _ _ _ (hc (k + j) z hj)
      rwa [Nat.mul_one, ← Nat.add_assoc] at this
    · cases hj)
  rw [hm] at r0 hl h4 hk hcap
  have n4 : (k : Int) + n ≤ c := by omega
  have n1 : decide ((n : Int) > (m : Int) - k) = false := decide_eq_false (by omega)
  have n2 : (0 : Int) ≤ k := by omega
  have n3 : (k : Int) ≤ (k : Int) + n := by omega
  have HFin : Hid (∀ w1 : World, Below w.heap.size w w1 → CTake w C (.slice (some ⟨bb, o, none⟩) m c) b k n false (.returned (.string (bs x))) (w1.setCell ⟨C, 1, none⟩ (.int .i64 ((k : Int) + n)))) := Lib.hid (fun w1 hb1 => ⟨grown_set hb1 1 _, .inl ⟨rfl, H4.out, by rw [HX.out], by
    have h := (hr.row.below hb1 hr.row.lt).set 1 (.int .i64 ((k : Int) + n))
    rw [hm] at h
    exact h⟩⟩)
  rw [hm]
  clear hr hx hm ha hc
  haveI : Nonempty (Wd (Below w.heap.size w)) := ⟨⟨_, Below.refl _ _⟩⟩
  have k0 : ∀ y : Wd (Below w.heap.size w), y.val.cell? ⟨C, 0, none⟩ = some (.slice (some ⟨bb, o, none⟩) m c) := fun y => keeps_below y.ok _ _ _ r0
  have k1 : ∀ y : Wd (Below w.heap.size w), y.val.cell? ⟨C, 1, none⟩ = some (.int .i64 k) := fun y => keeps_below y.ok _ _ _ r1
  have k2 : ∀ y : Wd (Below w.heap.size w), y.val.cell? ⟨C, 2, none⟩ = some (.bool false) := fun y => keeps_below y.ok _ _ _ r2
  go_enter Tryz.func46, Tryz.ntmps46
  go_wp2_with fail
  refine wp_region_class (Below w.heap.size w) (by kernel_rfl) (by kernel_rfl) (below_drew _) ?_
  repeat (first | go_big_quiet_skip | (go_big_quiet_want; go_big_quiet_op; first | go_big_quiet_on | go_big_quiet_call (fail)))
  refine wpQuiet_nil ?_
  rintro _ ⟨y, rfl⟩
  have HY := Lib.hid y.ok
  clear n1
  go_wp2_with fail
  have k3 : ∀ (z : Wd (Below w.heap.size w)) (ad : Addr) (cc : Nat), (n = 0 ∨ (ad = ⟨bb, o + k, none⟩ ∧ cc = c - k)) → (convert 22 9 (.slice (some ad) n cc)).run Tryz.prog z.val = .ok (.string (bs x)) z.val := fun z ad cc h => by
    rcases h with rfl | ⟨rfl, rfl⟩
    · rw [List.eq_nil_of_length_eq_zero hxl]; exact conv_none _ _ _
    · have h := conv_txt (B := bb) (o := o + k) (c := c - k) (HCx.out z)
      rw [hxl] at h
      exact h
  by_cases hck : k = c
  · subst hck
    obtain rfl : n = 0 := by omega
    have k4 := fun (z : Wd (Below w.heap.size w)) (ad : Addr) (cc : Nat) => k3 z ad cc (.inl rfl)
    clear k3
    refine wp_region_class (Below w.heap.size w) (by kernel_rfl) (by kernel_rfl) (HY.out.drew) ?_
    repeat (first | go_big_quiet_skip | (go_big_quiet_want; go_big_quiet_op; first | go_big_quiet_on | go_big_quiet_call (fail)))
    refine wpQuiet_nil ?_
    rintro _ ⟨y2, rfl⟩
    have e1 := k1 y2
    have f1 := (HR.out.below y2.ok).row.free 1
    have HY2 := Lib.hid y2.ok
    clear k0 k1 k2 k4
    go_wp2
    go_ret
    exact HFin.out _ HY2.out
  · have n5 : ¬ (c : Int) = k := by omega
    have n6 : ¬ c = k := by omega
    have n7 : k < c := by omega
    have k4 := fun (z : Wd (Below w.heap.size w)) => k3 z ⟨bb, o + k, none⟩ (c - k) (.inr ⟨rfl, rfl⟩)
    clear k3
    refine wp_region_class (Below w.heap.size w) (by kernel_rfl) (by kernel_rfl) (HY.out.drew) ?_
    repeat (first | go_big_quiet_skip | (go_big_quiet_want; go_big_quiet_op; first | go_big_quiet_on | go_big_quiet_call (fail)))
    refine wpQuiet_nil ?_
    rintro _ ⟨y2, rfl⟩
    have e1 := k1 y2
    have f1 := (HR.out.below y2.ok).row.free 1
    have HY2 := Lib.hid y2.ok
    clear k0 k1 k2 k4
    go_wp2
    go_ret
    exact HFin.out _ HY2.out
theorem call_ctake (C : Nat) (vb : Value) (b : List UInt8) (k n : Nat) (bad : Bool) (w : World) (hr : Cu w C vb b k bad) (hn : n < 4294967296) :
    Calls Tryz.prog 46 #[.pointer (some ⟨C, 0, none⟩), .int .i64 n] w (CTake w C vb b k n bad) := by
  by_cases h : bad = false ∧ k + n ≤ b.length
  · obtain ⟨rfl, h⟩ := h
    exact call_ctake_ok C vb b k n w hr hn h
  · exact call_ctake_bad C vb b k n bad w hr hn h
end Go.Proofs.YtlecpjfggoehdaaGreatDoor.Ar

set_option linter.unusedVariables false
set_option linter.unusedSimpArgs false
set_option maxRecDepth 100000
namespace Go.Proofs.YtlecpjfggoehdaaGreatDoor.Ar
open Go.RowKit Go.Sort Go.Lib Go.Proofs.YtlecpjfggoehdaaGreatDoor.Rs

def CHalf (w : World) (C : Nat) (vb : Value) (b : List UInt8) (k : Nat) (bad : Bool) (e : Ending) (w' : World) : Prop :=
  w.grownBy w' (some C) ∧ ((bad = false ∧ k + 4 ≤ b.length ∧ e = .returned (.int .i64 (numAt b k)) ∧ Row w' C 66 [vb, .int .i64 ((k + 4 : Nat) : Int), .bool false]) ∨
    (¬ (bad = false ∧ k + 4 ≤ b.length) ∧ e = .returned (.int .i64 0) ∧ Row w' C 66 [vb, .int .i64 k, .bool true]))

theorem txt4 {b : List UInt8} {k : Nat} (h : k + 4 ≤ b.length) : txt b k 4 = [byteD b k, byteD b (k + 1), byteD b (k + 2), byteD b (k + 3)] := by
  apply List.ext_getElem?
  intro j
  rw [txt, List.getElem?_take]
  match j with
  | 0 => simp [byteD_get (show k < b.length by omega)]
  | 1 => simp [byteD_get (show k + 1 < b.length by omega)]
  | 2 => simp [byteD_get (show k + 2 < b.length by omega)]
  | 3 => simp [byteD_get (show k + 3 < b.length by omega)]
  | j + 4 => rw [if_neg (by omega)]; simp
theorem w64 {x : Int} (h0 : 0 ≤ x) (h1 : x < 9223372036854775808) : wrap64 x = x := by unfold wrap64; omega
theorem num4_wrap (a b c d : UInt8) : wrap64 (wrap64 (wrap64 (wrap64 (a.toNat : Int) + wrap64 (wrap64 (b.toNat : Int) * 256)) + wrap64 (wrap64 (c.toNat : Int) * 65536)) + wrap64 (wrap64 (d.toNat : Int) * 16777216)) = num4 a b c d := by
  have h1 := a.toNat_lt; have h2 := b.toNat_lt; have h3 := c.toNat_lt; have h4 := d.toNat_lt
  rw [w64 (x := (a.toNat : Int)) (by omega) (by omega), w64 (x := (b.toNat : Int)) (by omega) (by omega), w64 (x := (c.toNat : Int)) (by omega) (by omega), w64 (x := (d.toNat : Int)) (by omega) (by omega),
    w64 (x := (b.toNat : Int) * 256) (by omega) (by omega), w64 (x := (c.toNat : Int) * 65536) (by omega) (by omega), w64 (x := (d.toNat : Int) * 16777216) (by omega) (by omega),
    w64 (x := (a.toNat : Int) + (b.toNat : Int) * 256) (by omega) (by omega), w64 (x := (a.toNat : Int) + (b.toNat : Int) * 256 + (c.toNat : Int) * 65536) (by omega) (by omega), w64 (by omega) (by omega)]
  rfl
set_option maxHeartbeats 4000000 in
theorem call_chalf (C : Nat) (vb : Value) (b : List UInt8) (k : Nat) (bad : Bool) (w : World) (hr : Cu w C vb b k bad) :
    Calls Tryz.prog 25 #[.pointer (some ⟨C, 0, none⟩)] w (CHalf w C vb b k bad) := by
  have HR := Lib.hid hr
  clear hr
  go_enter Tryz.func25, Tryz.ntmps25
  go_wp2_with fail
  refine (call_ctake C vb b k 4 bad _ HR.out (by omega)).mono ?_
  rintro e w1 ⟨hg, ⟨rfl, h4, rfl, hrow⟩ | ⟨h4, rfl, hrow⟩⟩
  rotate_left
  · have e2 := (show _ = some (Value.bool true) from hrow.cell 2)
    have HRow := Lib.hid hrow
    have HG := Lib.hid hg
    have H4 := Lib.hid h4
    clear hrow hg h4
    go_wp2
    go_ret
    exact ⟨HG.out, .inr ⟨H4.out, rfl, HRow.out⟩⟩
  · have e2 := (show _ = some (Value.bool false) from hrow.cell 2)
    have HRow := Lib.hid hrow
    have HG := Lib.hid hg
    have H4 := Lib.hid h4
    clear hrow hg h4
    obtain ⟨y0, hy0⟩ : ∃ x, byteD b k = x := ⟨_, rfl⟩
    obtain ⟨y1, hy1⟩ : ∃ x, byteD b (k + 1) = x := ⟨_, rfl⟩
    obtain ⟨y2, hy2⟩ : ∃ x, byteD b (k + 2) = x := ⟨_, rfl⟩
    obtain ⟨y3, hy3⟩ : ∃ x, byteD b (k + 3) = x := ⟨_, rfl⟩
    have HV : Hid (numAt b k = num4 y0 y1 y2 y3) := Lib.hid (by rw [numAt, hy0, hy1, hy2, hy3])
    rw [txt4 H4.out, hy0, hy1, hy2, hy3]
    clear hy0 hy1 hy2 hy3
    simp only [bs]
    go_wp2_with fail
    go_quiet (fail)
    go_wp2
    go_ret
    exact ⟨grown_trans HG.out (grown_of_below (Below.drewN' (Below.refl _ _) _) _), .inl ⟨rfl, H4.out, by rw [HV.out, ← num4_wrap]; rfl, HRow.out.below (Below.drewN' (Below.refl _ _) _) HRow.out.lt⟩⟩
end Go.Proofs.YtlecpjfggoehdaaGreatDoor.Ar
