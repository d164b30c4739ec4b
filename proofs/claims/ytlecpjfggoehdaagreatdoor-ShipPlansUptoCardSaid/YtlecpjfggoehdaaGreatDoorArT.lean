
/- Archive: what must hold of a member of one kind, the program's. -/
import Derived.Test.YtlecpjfggoehdaaGreatDoorArM
set_option linter.unusedVariables false
set_option linter.unusedSimpArgs false
set_option maxRecDepth 100000
namespace Go.Proofs.YtlecpjfggoehdaaGreatDoor.Ar
open Go.RowKit Go.Sort Go.Lib Go.Proofs.YtlecpjfggoehdaaGreatDoor.Rs

def bareB (m : Mb) : Bool := decide (m.size = 0) && m.pieces.isEmpty
theorem call_bare (m : Mb) (vp : Value) (w : World) (hv : MbV w m vp) (hs : MbSm m) :
    Calls Tryz.prog 65 #[.agg (mbCells m vp).toArray] w fun e w' => e = .returned (.bool (bareB m)) ∧ Below w.heap.size w w' := by
  obtain ⟨ap, mp, cp, rfl⟩ : ∃ a m' c, vp = .slice a m' c := by obtain ⟨a, b, o, c, h, _⟩ := hv.pieces; exact ⟨_, _, _, h⟩
  have hmp : m.pieces.length = mp := by obtain ⟨a, b, o, c, h, _⟩ := hv.pieces; cases h; rfl
  have l3 := hs.pieces
  rw [hmp] at l3
  have B1 := mbS (N := 1) (Box.new w 58 (mbCells m (.slice ap mp cp))) (by show _ ≤ (w.alloc _).heap.size; rw [alloc_size]; omega)
  have HB := Lib.hid B1.box.2
  have HP : Hid (m.pieces.isEmpty = decide (mp = 0)) := Lib.hid (by rw [← hmp]; cases m.pieces <;> simp)
  simp only [mbCells] at B1 ⊢
  clear hv hs hmp
  by_cases hz : m.size = 0
  · have bz : (m.size == 0) = true := beq_iff_eq.2 hz
    by_cases hp : mp = 0
    · have bp : ((mp : Int) == 0) = true := by rw [hp]; rfl
      have HR : Hid (bareB m = true) := Lib.hid (by rw [bareB, HP.out]; simp [hz, hp])
      go_enter Tryz.func65, Tryz.ntmps65
      go_wp2
      go_ret
      exact ⟨by rw [HR.out]; rfl, below_alloc1 _ _⟩
    · have bp : ((mp : Int) == 0) = false := by rw [beq_eq_false_iff_ne]; omega
      have HR : Hid (bareB m = false) := Lib.hid (by rw [bareB, HP.out]; simp [hp])
      go_enter Tryz.func65, Tryz.ntmps65
      go_wp2
      go_ret
      exact ⟨by rw [HR.out]; rfl, below_alloc1 _ _⟩
  · have bz : (m.size == 0) = false := beq_eq_false_iff_ne.2 hz
    have HR : Hid (bareB m = false) := Lib.hid (by rw [bareB]; simp [hz])
    go_enter Tryz.func65, Tryz.ntmps65
    go_wp2
    go_ret
    exact ⟨by rw [HR.out]; rfl, below_alloc1 _ _⟩

/-- a directory -/
theorem call_check1 (q : Value) (m : Mb) (vp : Value) (w : World) (hv : MbV w m vp) (hs : MbSm m) :
    Calls Tryz.prog 64 #[q, .agg (mbCells m vp).toArray] w fun e w' => e = .returned (.bool (bareB m && m.link.isEmpty)) ∧ Below w.heap.size w w' := by
  have B1 := mbS (N := 1) (Box.new w 58 (mbCells m vp)) (by show _ ≤ (w.alloc _).heap.size; rw [alloc_size]; omega)
  have HB := Lib.hid B1
  have el := bs_toList m.link
  have HV := Lib.hid (hv.keep (keeps_alloc w (.cells (mbCells m vp).toArray 58)))
  have HSm := Lib.hid hs
  obtain ⟨ap, mp, cp, rfl⟩ : ∃ a m' c, vp = .slice a m' c := by obtain ⟨a, b, o, c, h, _⟩ := hv.pieces; exact ⟨_, _, _, h⟩
  simp only [mbCells] at B1 HV ⊢
  clear hv hs
  cases hb : bareB m with
  | false =>
    have HR := Lib.hid hb
    clear hb
    go_enter Tryz.func64, Tryz.ntmps64
    go_wp2_with (go_at_call 65; refine (call_bare m (.slice ap mp cp) _ HV.out HSm.out).mono ?_; rintro e w1 ⟨rfl, hb1⟩; rw [HR.out]; have HB1 := Lib.hid (HB.out.step (by omega) (hb1.mono HB.out.size)); clear hb1)
    go_ret
    exact ⟨by simp, HB1.out.box.2⟩
  | true =>
    have HR := Lib.hid hb
    clear hb
    cases hl : m.link.isEmpty with
    | false =>
      go_enter Tryz.func64, Tryz.ntmps64
      go_wp2_with (go_at_call 65; refine (call_bare m (.slice ap mp cp) _ HV.out HSm.out).mono ?_; rintro e w1 ⟨rfl, hb1⟩; rw [HR.out]; have HB1 := Lib.hid (HB.out.step (by omega) (hb1.mono HB.out.size)); have hS := HB1.out; clear hb1 B1)
      go_ret
      exact ⟨by simp, HB1.out.box.2⟩
    | true =>
      go_enter Tryz.func64, Tryz.ntmps64
      go_wp2_with (go_at_call 65; refine (call_bare m (.slice ap mp cp) _ HV.out HSm.out).mono ?_; rintro e w1 ⟨rfl, hb1⟩; rw [HR.out]; have HB1 := Lib.hid (HB.out.step (by omega) (hb1.mono HB.out.size)); have hS := HB1.out; clear hb1 B1)
      go_ret
      exact ⟨by simp, HB1.out.box.2⟩

/-- a file -/
theorem call_check2 (q : Value) (m : Mb) (vp : Value) (w : World) (hv : MbV w m vp) (hs : MbSm m) :
    Calls Tryz.prog 66 #[q, .agg (mbCells m vp).toArray] w fun e w' => e = .returned (.bool (m.link.isEmpty && piecesB m.size m.pieces)) ∧ Below w.heap.size w w' := by
  have B1 := mbS (N := 1) (Box.new w 58 (mbCells m vp)) (by show _ ≤ (w.alloc _).heap.size; rw [alloc_size]; omega)
  have HB := Lib.hid B1
  have el := bs_toList m.link
  have HV := Lib.hid (hv.keep (keeps_alloc w (.cells (mbCells m vp).toArray 58)))
  have HSm := Lib.hid hs
  obtain ⟨ap, mp, cp, rfl⟩ : ∃ a m' c, vp = .slice a m' c := by obtain ⟨a, b, o, c, h, _⟩ := hv.pieces; exact ⟨_, _, _, h⟩
  simp only [mbCells] at B1 HV ⊢
  clear hv hs
  cases hl : m.link.isEmpty with
  | false =>
    go_enter Tryz.func66, Tryz.ntmps66
    go_wp2
    go_ret
    exact ⟨by simp, HB.out.box.2⟩
  | true =>
    go_enter Tryz.func66, Tryz.ntmps66
    go_wp2_with (go_at_call 67; refine (call_pieces m (.slice ap mp cp) _ HV.out HSm.out).mono ?_; rintro e w1 ⟨rfl, hb1⟩; have HB1 := Lib.hid (HB.out.step (by omega) (hb1.mono HB.out.size)); clear hb1)
    go_ret
    exact ⟨by simp, HB1.out.box.2⟩

/-- the three checks, in a block of the call's own -/
theorem call_checks (w : World) :
    Calls Tryz.prog 45 #[] w fun e w' => ∃ B, e = .returned (.slice (some ⟨B, 0, none⟩) 3 3) ∧ w.heap.size ≤ B ∧ Row w' B 106 [.int .i64 2, .func (.func 64) #[] #[], .int .i64 1, .func (.func 66) #[] #[], .int .i64 3, .func (.func 68) #[] #[]] ∧ Below w.heap.size w w' := by
  go_enter Tryz.func45, Tryz.ntmps45
  go_wp2
  go_ret
  exact ⟨w.heap.size, rfl, Nat.le_refl _, Row.new w 106 _, below_alloc1 _ _⟩
end Go.Proofs.YtlecpjfggoehdaaGreatDoor.Ar
