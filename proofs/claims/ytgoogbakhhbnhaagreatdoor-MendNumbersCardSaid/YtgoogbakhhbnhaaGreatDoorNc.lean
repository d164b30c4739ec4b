/-
  Mend: a rescue under way: what only looks.
-/
import Derived.Test.YtgoogbakhhbnhaaGreatDoorNb
import Derived.Laws.EntriesVeiled
set_option linter.unusedVariables false
set_option linter.unusedSimpArgs false
set_option maxRecDepth 100000
namespace Go.Proofs.YtgoogbakhhbnhaaGreatDoor.Ar
open Go.RowKit Go.Sort Go.Lib Go.Proofs.YtgoogbakhhbnhaaGreatDoor.Rs
attribute [local go_sem] Oper.semAt_some
/-- a rescue that is under way -/
structure WkI (base : Nat) (W : World) (P R m mo mm mt : Nat) (Mm : List (Int × Value)) (nl np : Nat) (xl xp : List Value) : Prop where
  scan : ScanOk W R m mo
  ex : ∃ vl vp, Row W P 76 [.pointer (some ⟨R, 0, none⟩), .map (some mm), .map (some mt), vl, vp] ∧ W.ownsRow base 35 3 vl nl xl ∧ W.ownsRow base 118 2 vp np xp
  many : MapI W mm Mm
  lowP : base ≤ P ∧ base ≤ mm ∧ base ≤ mt
theorem WkI.under {base : Nat} {W W' : World} {P R m mo mm mt nl np : Nat} {Mm : List (Int × Value)} {xl xp : List Value} (h : WkI base W P R m mo mm mt Mm nl np xl xp) (hb : Below W.heap.size W W') : WkI base W' P R m mo mm mt Mm nl np xl xp := by
  obtain ⟨vl, vp, h1, h2, h3⟩ := h.ex
  exact ⟨h.scan.below hb, ⟨vl, vp, h1.below hb h1.lt, own_below h2 hb, own_below h3 hb⟩, h.many.below hb h.many.lt, h.lowP⟩
theorem WkI.c0 {base : Nat} {W : World} {P R m mo mm mt nl np : Nat} {Mm : List (Int × Value)} {xl xp : List Value} (h : WkI base W P R m mo mm mt Mm nl np xl xp) : W.cell? ⟨P, 0, none⟩ = some (.pointer (some ⟨R, 0, none⟩)) := by obtain ⟨vl, vp, h1, _⟩ := h.ex; exact h1.cell 0
theorem WkI.c1 {base : Nat} {W : World} {P R m mo mm mt nl np : Nat} {Mm : List (Int × Value)} {xl xp : List Value} (h : WkI base W P R m mo mm mt Mm nl np xl xp) : W.cell? ⟨P, 1, none⟩ = some (.map (some mm)) := by obtain ⟨vl, vp, h1, _⟩ := h.ex; exact h1.cell 1
theorem WkI.c2 {base : Nat} {W : World} {P R m mo mm mt nl np : Nat} {Mm : List (Int × Value)} {xl xp : List Value} (h : WkI base W P R m mo mm mt Mm nl np xl xp) : W.cell? ⟨P, 2, none⟩ = some (.map (some mt)) := by obtain ⟨vl, vp, h1, _⟩ := h.ex; exact h1.cell 2
theorem WkI.turn {base b : Nat} {W W' : World} {P R m mo mm mt nl np : Nat} {Mm : List (Int × Value)} {xl xp : List Value} {row : Option Nat} (h : WkI base W P R m mo mm mt Mm nl np xl xp) (t : TurnOk b W W' row) (hm : m < b ∧ mo < b ∧ mm < b) : WkI base W' P R m mo mm mt Mm nl np xl xp := by
  obtain ⟨vl, vp, h1, h2, h3⟩ := h.ex
  exact ⟨t.scan h.scan ⟨hm.1, hm.2.1⟩, ⟨vl, vp, t.row h1, own_turn h2 t, own_turn h3 t⟩, t.map h.many hm.2.2, h.lowP⟩
theorem look59 {W : World} {R m mo : Nat} (h : ScanOk W R m mo) (x : Int) (hx : x = 1 ∨ x = 5) : (Instr.lookup 59 (.map (some m)) (.int .i64 x) false).run Tryz.prog W = .ok (.agg #[.int .i64 x, .int .i64 2, .int .i64 1, .int .i64 0, .slice none 0 0, .slice none 0 0, .int .i64 0, .int .i64 0, .slice none 0 0, .int .i64 0]) W := by
  have hl := h.map.look Tryz.underlying59 Tryz.underlying3 (zero66 W) x
  rcases hx with rfl | rfl
  · rw [show atI (nodesTo 9) 1 = some (.agg (nodeL 1 2 1).toArray) from rfl] at hl; exact hl
  · rw [show atI (nodesTo 9) 5 = some (.agg (nodeL 5 2 1).toArray) from rfl] at hl; exact hl
section
variable {base P R m mo mm mt nl np : Nat} {Mm : List (Int × Value)} {xl xp : List Value} {w : World}
theorem call_isRoot1 (h : WkI base w P R m mo mm mt Mm nl np xl xp) : Calls Tryz.prog 19 #[.pointer (some ⟨P, 0, none⟩), .int .i64 1] w fun e w' => e = .returned (.bool true) ∧ w' = w := by
  have c0 := h.c0
  have c6 := h.scan.c6
  have hl := look59 h.scan 1 (.inl rfl)
  have hfd := field66
  clear h
  go_enter Tryz.func19, Tryz.ntmps19
  go_wp2
  go_ret
  exact ⟨rfl, rfl⟩
theorem call_isRoot5 (h : WkI base w P R m mo mm mt Mm nl np xl xp) : Calls Tryz.prog 19 #[.pointer (some ⟨P, 0, none⟩), .int .i64 5] w fun e w' => e = .returned (.bool false) ∧ w' = w := by
  clear h
  go_enter Tryz.func19, Tryz.ntmps19
  go_wp2
  go_ret
  exact ⟨rfl, rfl⟩
theorem field66n (i k l : Int) (y : World) : (Instr.field 66 (.agg #[.int .i64 i, .int .i64 k, .int .i64 l, .int .i64 0, .slice none 0 0, .slice none 0 0, .int .i64 0, .int .i64 0, .slice none 0 0, .int .i64 0]) 5).run Tryz.prog y = .ok (.slice none 0 0) y := by rfl
set_option maxHeartbeats 4000000 in
theorem call_visit2 (x : Int) (s : ByteArray) (hx : x = 1 ∨ x = 5) (B1 B2 B3 : Nat) (h : WkI base w P R m mo mm mt Mm nl np xl xp) (h1 : Row w B1 72 [.pointer (some ⟨P, 0, none⟩)]) :
    Calls Tryz.prog 66 #[.int .i64 x, .string s, .pointer (some ⟨B1, 0, none⟩), .pointer (some ⟨B2, 0, none⟩), .pointer (some ⟨B3, 0, none⟩)] w fun e w' => e = .returned (.bool true) ∧ w' = w := by
  have c0 := h.c0
  have c6 := h.scan.c6
  have hl := look59 h.scan x hx
  have hfd := field66n
  have b0 := (show w.cell? ⟨B1, 0, none⟩ = some (.pointer (some ⟨P, 0, none⟩)) from h1.cell 0)
  clear h h1
  go_enter Tryz.func66, Tryz.ntmps66
  go_wp2
  go_loopw [23] (fun iv wz => iv = .int .i64 0 ∧ wz = w) (fun _ _ => 0)
  case atStart => exact ⟨rfl, rfl⟩
  case round =>
    obtain ⟨rfl, rfl⟩ := hrel
    go_wp2
    go_ret
    exact ⟨rfl, rfl⟩
set_option maxHeartbeats 4000000 in
theorem call_below1 (y : Nat) (x : Int) (s : ByteArray) (hx : x = 1 ∨ x = 5) (B1 B2 B3 : Nat) (h : WkI base w P R m mo mm mt Mm nl np xl xp) (h1 : Row w B1 72 [.pointer (some ⟨P, 0, none⟩)]) (h2 : Row w B2 3 [.int .i64 x]) (h3 : Row w B3 9 [.string s]) :
    Calls Tryz.prog 65 #[.func (.yield y) #[] #[], .pointer (some ⟨B1, 0, none⟩), .pointer (some ⟨B2, 0, none⟩), .pointer (some ⟨B3, 0, none⟩)] w fun e w' => (∃ v, e = .returned v) ∧ Below w.heap.size w w' := by
  have hb2 := below_alloc2 w (.cells #[.func (.yield y) #[] #[]] 149) (.cells #[.nilFunc] 150)
  have r9 := row_new1 w (.cells #[.func (.yield y) #[] #[]] 149) 150 [.nilFunc]
  obtain ⟨A4, e4⟩ : ∃ A, ((w.alloc (.cells #[.func (.yield y) #[] #[]] 149)).alloc (.cells #[.nilFunc] 150)).setCell ⟨w.heap.size + 1, 0, none⟩ (.func (.func 66) #[] #[.pointer (some ⟨B1, 0, none⟩), .pointer (some ⟨w.heap.size, 0, none⟩), .pointer (some ⟨w.heap.size + 1, 0, none⟩)]) = A := ⟨_, rfl⟩
  have r4 : Row A4 (w.heap.size + 1) 150 [.func (.func 66) #[] #[.pointer (some ⟨B1, 0, none⟩), .pointer (some ⟨w.heap.size, 0, none⟩), .pointer (some ⟨w.heap.size + 1, 0, none⟩)]] := by rw [← e4]; exact r9.set 0 _
  have b4 : Below w.heap.size w A4 := by rw [← e4]; exact hb2.setCell (p := ⟨w.heap.size + 1, 0, none⟩) (Nat.le_succ _) _
  have u0 := (show World.cell? ((w.alloc (.cells #[.func (.yield y) #[] #[]] 149)).alloc (.cells #[.nilFunc] 150)) ⟨w.heap.size + 1, 0, none⟩ = some .nilFunc from r9.cell 0)
  have u1 := r9.free 0
  have t0 := (show A4.cell? ⟨w.heap.size + 1, 0, none⟩ = some _ from r4.cell 0)
  have q2 := (show A4.cell? ⟨B2, 0, none⟩ = some (.int .i64 x) from (h2.below b4 h2.lt).cell 0)
  have q3 := (show A4.cell? ⟨B3, 0, none⟩ = some (.string s) from (h3.below b4 h3.lt).cell 0)
  have HV := Lib.hid (call_visit2 (w := A4) x s hx B1 w.heap.size (w.heap.size + 1) (h.under b4) (h1.below b4 h1.lt))
  have HB := Lib.hid b4
  clear h h1 h2 h3 r9 r4 b4 hb2
  go_enter Tryz.func65, Tryz.ntmps65
  go_wp2_with (go_at_call 66; refine HV.out.mono ?_; rintro e w9 ⟨rfl, rfl⟩)
  go_end0
  exact ⟨⟨_, rfl⟩, HB.out⟩
theorem call_below0 (v : Value) (x : Int) (s : ByteArray) (hv : ∃ p, v = .pointer p) :
    Calls Tryz.prog 42 #[v, .int .i64 x, .string s] w fun e w' => e = .returned (.func (.func 65) #[] #[.pointer (some ⟨w.heap.size, 0, none⟩), .pointer (some ⟨w.heap.size + 1, 0, none⟩), .pointer (some ⟨w.heap.size + 1 + 1, 0, none⟩)]) ∧ w' = ((w.alloc (.cells #[v] 72)).alloc (.cells #[.int .i64 x] 3)).alloc (.cells #[.string s] 9) := by
  obtain ⟨p, rfl⟩ := hv
  go_enter Tryz.func42, Tryz.ntmps42
  go_wp2
  go_ret
  exact ⟨rfl, rfl⟩
set_option maxHeartbeats 4000000 in
theorem call_down (x : Int) (s : ByteArray) (hx : x = 1 ∨ x = 5) (h : WkI base w P R m mo mm mt Mm nl np xl xp) :
    Calls Tryz.prog 20 #[.pointer (some ⟨P, 0, none⟩), .int .i64 x, .string s] w fun e w' => (∃ v, e = .returned v) ∧ Below w.heap.size w w' := by
  have hb1 := below_alloc1 w (.cells #[.pointer (some ⟨P, 0, none⟩)] 72)
  obtain ⟨A1, e1⟩ : ∃ A, w.alloc (.cells #[.pointer (some ⟨P, 0, none⟩)] 72) = A := ⟨_, rfl⟩
  have r1 : Row A1 w.heap.size 72 [.pointer (some ⟨P, 0, none⟩)] := by rw [← e1]; exact Row.new w 72 _
  have s0 := (show A1.cell? ⟨w.heap.size, 0, none⟩ = some (.pointer (some ⟨P, 0, none⟩)) from r1.cell 0)
  rw [e1] at hb1
  have hh := h.under hb1
  obtain ⟨A2, e2⟩ : ∃ A, A1.alloc (.cells #[.pointer (some ⟨P, 0, none⟩)] 72) = A := ⟨_, rfl⟩
  have r2 : Row A2 A1.heap.size 72 [.pointer (some ⟨P, 0, none⟩)] := by rw [← e2]; exact Row.new A1 72 _
  have z2 : A2.heap.size = A1.heap.size + 1 := by rw [← e2, alloc_size]
  have b2 : Below A1.heap.size A1 A2 := by rw [← e2]; exact below_alloc1 _ _
  obtain ⟨A3, e3⟩ : ∃ A, A2.alloc (.cells #[.int .i64 x] 3) = A := ⟨_, rfl⟩
  have r3 : Row A3 (A1.heap.size + 1) 3 [.int .i64 x] := by rw [← e3, ← z2]; exact Row.new A2 3 _
  have z3 : A3.heap.size = A1.heap.size + 1 + 1 := by rw [← e3, alloc_size, z2]
  have b3 : Below A2.heap.size A2 A3 := by rw [← e3]; exact below_alloc1 _ _
  obtain ⟨A4, e4⟩ : ∃ A, A3.alloc (.cells #[.string s] 9) = A := ⟨_, rfl⟩
  have r4 : Row A4 (A1.heap.size + 1 + 1) 9 [.string s] := by rw [← e4, ← z3]; exact Row.new A3 9 _
  have b4 : Below A3.heap.size A3 A4 := by rw [← e4]; exact below_alloc1 _ _
  have c34 := below_after b3 b4
  have c24 := below_after b2 c34
  have HW := Lib.hid (hh.under c24)
  have H2 := Lib.hid (r2.below c34 r2.lt)
  have H3 := Lib.hid (r3.below b4 r3.lt)
  have H4 := Lib.hid r4
  have HB := Lib.hid (below_after hb1 c24)
  have HE : Hid (((A1.alloc (.cells #[.pointer (some ⟨P, 0, none⟩)] 72)).alloc (.cells #[.int .i64 x] 3)).alloc (.cells #[.string s] 9) = A4) := Lib.hid (by rw [e2, e3, e4])
  clear h hh r1 r2 r3 r4 b2 b3 b4 c34 c24 z2 z3 hb1 e2 e3 e4
  refine (callsIn_wide (n := 9)).1 ?_
  refine callsIn_of_wp_marks Tryz.func20 rfl trivial ?_ rfl
  simp only [Tryz.ntmps20, List.size_toArray, List.length_cons, List.length_nil, Nat.reduceAdd, Nat.reduceSub, Array.replicate_succ, Array.replicate_zero, List.push_toArray, List.append_toArray, List.nil_append, List.cons_append]
  refine wpIn_wide.2 ?_
  go_wp2_with (go_at_call 42; refine (call_below0 _ x s ⟨_, rfl⟩).mono ?_; rw [HE.out]; rintro e w3 ⟨rfl, rfl⟩)
  refine wp_range_none rfl (enters_of Tryz.func65 (by kernel_rfl) rfl) (fun y W hW => call_below1 y x s hx _ _ _ (HW.out.under hW) (H2.out.below hW H2.out.lt) (H3.out.below hW H3.out.lt) (H4.out.below hW H4.out.lt)) ?_
  intro D W hD hW hk
  go_wp2
  refine leaves_mark hk ⟨.tuple #[], by simp [results, Tryz.results20, go_sem], ⟨_, rfl⟩, below_put (below_after HB.out hW) ?_⟩
  have := HB.out.size
  omega
end
end Go.Proofs.YtgoogbakhhbnhaaGreatDoor.Ar
