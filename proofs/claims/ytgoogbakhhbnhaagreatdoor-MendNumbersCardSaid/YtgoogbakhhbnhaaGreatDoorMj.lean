
/-
  Mend, j: the image copied.
-/
import Derived.Test.YtgoogbakhhbnhaaGreatDoorMi
import Derived.WalkSpells
set_option linter.unusedVariables false
set_option linter.unusedSimpArgs false
set_option maxRecDepth 100000
namespace Go.Proofs.YtgoogbakhhbnhaaGreatDoor.Ar
open Go.RowKit Go.Sort Go.Lib Go.Proofs.YtgoogbakhhbnhaaGreatDoor.Rs
theorem own0 (w : World) : (w.alloc (.cells #[] 5)).ownsRow w.heap.size 5 1 (.slice (some ⟨w.heap.size, 0, none⟩) 0 0) 0 [] :=
  ⟨rfl, Or.inr ⟨w.heap.size, 0, #[], rfl, Nat.le_refl _, heap_alloc_new w _, Nat.le_refl _, Nat.zero_le _, rfl, rfl⟩⟩
set_option maxHeartbeats 2000000 in
theorem call_clone (l : List UInt8) (h0 : 0 < l.length) (h1 : l.length ≤ 1000000000) (vb : Value) (w : World) (hv : Sl RByte 1 w vb l) :
    Calls Tryz.prog 57 #[vb] w fun e w' => ∃ v', e = .returned v' ∧ w'.ownsRow w.heap.size 5 1 v' l.length (l.map byteV) ∧ Below w.heap.size w w' := by
  obtain ⟨aa, bb, oo, cc, rfl, ha, hc⟩ := hv
  have ha' := ha (by omega)
  subst ha'
  have HC := Lib.hid hc
  obtain ⟨m, hm⟩ : ∃ m, l.length = m := ⟨_, rfl⟩
  have HM := Lib.hid hm
  rw [hm] at h0 h1 ⊢
  clear ha hc hm
  have qe := fun (w : World) => Lib.run_eql_slice_nil (P := Tryz.prog) w 23 5 (some ⟨bb, oo, none⟩) m cc 0 0 Tryz.underlying23
  obtain ⟨i0, hi, hz0, hz1, hz2⟩ := info_parts info5
  go_enter Tryz.func57, Tryz.ntmps57
  go_wp2_with (refine wpl_app (w := w.alloc (.cells #[] 5)) (base := w.heap.size) (n := 0) (xs := []) (v := .slice (some ⟨w.heap.size, 0, none⟩) 0 0) (own0 w) rfl _ _ rfl rfl bb oo m cc rfl l HM.out (fun j b hj => by have h := RByte.stays _ _ (keeps_below (below_alloc1 w (.cells #[] 5))) _ _ _ (HC.out j b hj); rw [Nat.mul_one] at h; exact h) (by rw [alloc_size]; omega) (by omega) ?_)
  intro v' w' ho hb
  have HO := Lib.hid ho
  have HB := Lib.hid ((below_alloc1 w (.cells #[] 5)).trans hb)
  clear ho hb
  go_wp2
  go_ret
  exact ⟨v', rfl, HO.out, HB.out⟩
/-- the copy, read as a row of bytes -/
theorem own_sl {w : World} {base : Nat} {v : Value} {l : List UInt8} (h : w.ownsRow base 5 1 v l.length (l.map byteV)) (h0 : 0 < l.length) : Sl RByte 1 w v l ∧ (∀ a n c, v = .slice a n c → n ≤ c) := by
  rcases h.2 with ⟨_, h1⟩ | ⟨g, cap, cur, rfl, _, hg, hn, _, _, ht⟩
  · omega
  · refine ⟨⟨_, g, 0, cap, rfl, fun _ => rfl, fun j x hj => ?_⟩, fun a n c e => by injection e with e1 e2 e3; omega⟩
    have hlt : j < l.length := (List.getElem?_eq_some_iff.1 hj).1
    have h2 : (cur.toList.take (l.length * 1))[j]? = some (byteV x) := by rw [ht, List.getElem?_map, hj]; rfl
    rw [Nat.mul_one, List.getElem?_take, if_pos hlt] at h2
    show w.cell? _ = _
    rw [Nat.zero_add, Nat.mul_one, cell_of_row _ _ j cur 5 (0, 0) hg]
    simpa using h2
theorem own_base {w : World} {b b' e size n : Nat} {v : Value} {xs : List Value} (h : w.ownsRow b e size v n xs) (hb : b' ≤ b) : w.ownsRow b' e size v n xs := by
  refine ⟨h.1, ?_⟩
  rcases h.2 with h1 | ⟨g, cap, cur, h1, h2, h3⟩
  · exact Or.inl h1
  · exact Or.inr ⟨g, cap, cur, h1, Nat.le_trans hb h2, h3⟩
set_option maxHeartbeats 2000000 in
theorem call_overlay (l : List UInt8) (hl : Img l) (vb : Value) (w : World) (hv : Sl RByte 1 w vb l) (hcap : ∀ a n c, vb = .slice a n c → n ≤ c ∧ c ≤ 1000000000) (hp : Stp w) :
    Calls Tryz.prog 33 #[vb] w fun e w' => ∃ v', e = .returned (.tuple #[v', .int .i64 0]) ∧ w'.ownsRow w.heap.size 5 1 v' l.length (l.map byteV) ∧ Below w.heap.size w w' := by
  have HF := Lib.hid (call_pending l hl vb w hv hcap hp)
  have HL := Lib.hid hl
  have HV := Lib.hid hv
  clear hp hl hcap hv
  go_enter Tryz.func33, Tryz.ntmps33
  go_wp2_with (first
    | (go_at_call 56; refine HF.out.mono ?_; rintro e w1 ⟨rfl, hb⟩; have HB1 := Lib.hid hb; clear hb HF)
    | (go_at_call 57; have hg := HB1.out; clear hg; refine (call_clone l (by rw [HL.out.len]; decide) (by rw [HL.out.len]; decide) _ _ (HV.out.keep RByte.stays (keeps_below HB1.out))).mono ?_; rintro e w2 ⟨v', rfl, ho, hb⟩; have HB2 := Lib.hid (below_after HB1.out hb); have HO := Lib.hid (show w2.ownsRow w.heap.size 5 1 v' l.length (l.map byteV) from own_base ho HB1.out.size); clear hb ho HB1))
  go_loopw [21] (fun iv wr => iv = .int .i64 0 ∧ Below w.heap.size w wr ∧ wr.ownsRow w.heap.size 5 1 v' l.length (l.map byteV)) (fun _ _ => 0)
  case atStart => exact ⟨rfl, HB2.out, HO.out⟩
  case round =>
    obtain ⟨rfl, hb, ho⟩ := hrel
    have HBr := Lib.hid hb
    have HOr := Lib.hid ho
    clear hb ho
    go_wp2
    exact ⟨rfl, .tuple #[v', .int .i64 0], by simp [results, Tryz.results33, go_sem], v', rfl, HOr.out, HBr.out⟩
end Go.Proofs.YtgoogbakhhbnhaaGreatDoor.Ar
