/-
  Mend: the members of a rescue.
-/
import Derived.Test.YtgoogbakhhbnhaaGreatDoorNi
set_option linter.unusedVariables false
set_option linter.unusedSimpArgs false
set_option maxRecDepth 100000
namespace Go.Proofs.YtgoogbakhhbnhaaGreatDoor.Ar
open Go.RowKit Go.Sort Go.Lib Go.Proofs.YtgoogbakhhbnhaaGreatDoor.Rs
def memberL (s : ByteArray) : List Value := [.int .i64 2, .string s, .string ⟨#[]⟩, .int .i64 0, .slice none 0 0]
def memM : Nat → List Value
  | 0 => []
  | 1 => memberL lostS
  | _ => memberL lostS ++ memberL lost5
structure MemI (w W : World) (M : Nat) (v : Value) (j : Nat) : Prop where
  below : Below w.heap.size w W
  own : W.ownsRow w.heap.size 38 5 v j (memM j)
  map : MapI W M []
theorem MemI.under {w W W' : World} {M j : Nat} {v : Value} (h : MemI w W M v j) (hb : Below W.heap.size W W') : MemI w W' M v j :=
  ⟨below_after h.below hb, own_below h.own hb, h.map.below hb h.map.lt⟩
theorem MemI.grown {w W4 w9 : World} {M j : Nat} {v v9 : Value} {o : Obj} {xs : List Value} (hb : Below w.heap.size w W4) (ho : W4.ownsRow w.heap.size 38 5 v j (memM j)) (hm : MapI W4 M [])
    (h1 : w9.ownsRow w.heap.size 38 5 v9 (j + 1) xs) (hx : xs = memM (j + 1)) (hg : (W4.alloc o).grownBy w9 v.ownBlock) : MemI w w9 M v9 (j + 1) := by
  subst hx
  have hba := below_alloc1 W4 o
  have h2 := below_after hb hba
  have ho2 := own_below ho hba
  exact ⟨h2.trans (below_grown ho2 hg (Nat.le_refl _) h2.size), h1, (keepT_of_grown (B := M + 1) ho2 hg).mapi (hm.below hba hm.lt) (by omega)⟩
theorem info38 : (Tryz.prog.info? 38).map (fun i => (i.zero, i.size, i.bytes)) = some (some (.agg #[.int .i64 0, .string ⟨#[]⟩, .string ⟨#[]⟩, .int .i64 0, .slice none 0 0]), 5, 72) := by kernel_rfl
theorem own_row {base e size n : Nat} {w : World} {v : Value} {xs : List Value} (h : w.ownsRow base e size v n xs) (h0 : 0 < n) : ∃ g c rest, v = .slice (some ⟨g, 0, none⟩) n c ∧ Row w g e (xs ++ rest) := by
  rcases h.2 with ⟨_, h1⟩ | ⟨g, cap, cur, hv, _, hg, _, _, _, hc⟩
  · omega
  · refine ⟨g, cap, cur.toList.drop (n * size), hv, ?_⟩
    rw [← hc, List.take_append_drop]
    exact hg
section
variable {base P R m mo mm mt nl : Nat} {Mm : List (Int × Value)} {xl : List Value} {w : World}
theorem look59z {W : World} (h : ScanOk W R m mo) : (Instr.lookup 59 (.map (some m)) (.int .i64 0) false).run Tryz.prog W = .ok (.agg #[.int .i64 0, .int .i64 0, .int .i64 0, .int .i64 0, .slice none 0 0, .slice none 0 0, .int .i64 0, .int .i64 0, .slice none 0 0, .int .i64 0]) W := by
  have hl := h.map.look Tryz.underlying59 Tryz.underlying3 (zero66 W) 0
  rw [show atI (nodesTo 9) 0 = none from rfl] at hl
  exact hl
set_option maxHeartbeats 8000000 in
theorem call_members (h : WkI base w P R m mo mm mt Mm nl 2 xl placesL) (hM : MaxL w) :
    Calls Tryz.prog 22 #[.pointer (some ⟨P, 0, none⟩)] w fun e w' => ∃ v, e = .returned v ∧ w'.ownsRow w.heap.size 38 5 v 2 (memM 2) ∧ Below w.heap.size w w' := by
  obtain ⟨vl, vp, h1, h2, h3⟩ := h.ex
  obtain ⟨L, c, rest, rfl, hL⟩ := own_row h3 (by decide)
  have HS := Lib.hid (call_sort L c w hM hL)
  have H := Lib.hid h
  have H1 := Lib.hid h1
  have HL := Lib.hid hL
  have p4 := (show w.cell? ⟨P, 4, none⟩ = some (.slice (some ⟨L, 0, none⟩) 2 c) from h1.cell 4)
  have hmm := @run_makeMap Tryz.prog
  obtain ⟨i0, hi, hz0, hz1, hz2⟩ := info_parts info38
  clear h h1 h2 h3 hL hM
  go_enter Tryz.func22, Tryz.ntmps22
  go_wp2_with (go_at_call 47; refine HS.out.mono ?_; rintro e w1 ⟨⟨v0, rfl⟩, hb⟩; have HB1 := Lib.hid hb; have p4 := (show World.cell? (w1.alloc (.map #[] 0)) ⟨P, 4, none⟩ = some (.slice (some ⟨L, 0, none⟩) 2 c) from ((H1.out.below hb H1.out.lt).below (below_alloc1 _ _) (H1.out.below hb H1.out.lt).lt).cell 4); clear hb HS)
  go_loopw [4, 22] (fun vv iv wr => ∃ j : Nat, iv = .int .i64 j ∧ j ≤ 2 ∧ MemI w wr w1.heap.size vv j) (fun _ iv _ => 2 - (RowKit.intOf iv).toNat)
  case atStart => exact ⟨0, rfl, by decide, below_after HB1.out (below_alloc1 _ _), World.ownsRow_nil _ _ _ _, MapI.made w1⟩
  case round =>
    obtain ⟨j, rfl, hj, hi⟩ := hrel
    have HI := Lib.hid hi
    have HW := Lib.hid (H.out.under hi.below)
    have HL2 := Lib.hid (HL.out.below hi.below HL.out.lt)
    have hbz : Hid (w.heap.size ≤ wr.heap.size) := Lib.hid hi.below.size
    have hMw : Hid (w.heap.size ≤ w1.heap.size) := Lib.hid HB1.out.size
    clear hi p4 HL H H1 HB1
    rcases (show j = 0 ∨ j = 1 ∨ j = 2 by omega) with rfl | rfl | rfl
    · have l0 := (show wr.cell? ⟨L, 0, none⟩ = some (.string lostS) from HL2.out.cell 0)
      have l1 := (show wr.cell? ⟨L, 1, none⟩ = some (.int .i64 0) from HL2.out.cell 1)
      go_wp2
      have hbe := below_alloc2 wr (.cells #[.string lostS, .int .i64 0] 118) (.cells #[.int .i64 2, .string lostS, .string ⟨#[]⟩, .int .i64 0, .slice none 0 0] 38)
      have R6 := Lib.hid ((Row.new wr 118 [.string lostS, .int .i64 0]).below (below_alloc1 _ (.cells #[.int .i64 2, .string lostS, .string ⟨#[]⟩, .int .i64 0, .slice none 0 0] 38)) (by simp))
      have R7 := Lib.hid (show Row ((wr.alloc (.cells #[.string lostS, .int .i64 0] 118)).alloc (.cells #[.int .i64 2, .string lostS, .string ⟨#[]⟩, .int .i64 0, .slice none 0 0] 38)) (wr.heap.size + 1) 38 (memberL lostS) from row_new1 wr (.cells #[.string lostS, .int .i64 0] 118) 38 (memberL lostS))
      have HW2 := Lib.hid (HW.out.under hbe)
      have HI2 := Lib.hid (HI.out.under hbe)
      have HL3 := Lib.hid (HL2.out.below hbe HL2.out.lt)
      have hbz2 : Hid (w.heap.size ≤ ((wr.alloc (.cells #[.string lostS, .int .i64 0] 118)).alloc (.cells #[.int .i64 2, .string lostS, .string ⟨#[]⟩, .int .i64 0, .slice none 0 0] 38)).heap.size) := Lib.hid HI2.out.below.size
      clear HW HI HL2 l0 l1 hbe hbz
      generalize ((wr.alloc (.cells #[.string lostS, .int .i64 0] 118)).alloc (.cells #[.int .i64 2, .string lostS, .string ⟨#[]⟩, .int .i64 0, .slice none 0 0] 38)) = A2 at *
      generalize wr.heap.size = B6 at *
      have hbn := (below_alloc1 A2 (.cells #[.int .i64 0, .int .i64 0, .int .i64 0, .int .i64 0, .slice none 0 0, .slice none 0 0, .int .i64 0, .int .i64 0, .slice none 0 0, .int .i64 0] 66)).drew
      have hbf := (below_alloc1 A2 (.cells #[.int .i64 0, .int .i64 0, .int .i64 0, .int .i64 0, .slice none 0 0, .slice none 0 0, .int .i64 0, .int .i64 0, .slice none 0 0, .int .i64 0] 66)).drew
      have q0 := HW2.out.c0
      have q1 := (HW2.out.under (below_drew A2)).c0
      have q2 := (HW2.out.under hbn).c0
      have q3 := HW2.out.scan.c6
      have q4 := (HW2.out.under hbn).scan.c6
      have q5 := (show A2.cell? ⟨B6, 1, none⟩ = some (.int .i64 0) from R6.out.cell 1)
      have q6 := (show World.cell? (A2.alloc (.cells #[.int .i64 0, .int .i64 0, .int .i64 0, .int .i64 0, .slice none 0 0, .slice none 0 0, .int .i64 0, .int .i64 0, .slice none 0 0, .int .i64 0] 66)).drew ⟨B6, 1, none⟩ = some (.int .i64 0) from (R6.out.below hbn R6.out.lt).cell 1)
      have q7 := look59z (HW2.out.under (below_drew A2)).scan
      have q8 := look59z (HW2.out.under hbn).scan
      have S6 := Lib.hid (R6.out.below hbf R6.out.lt)
      have S7 := Lib.hid (R7.out.below hbf R7.out.lt)
      have S8 := Lib.hid ((Row.new A2 66 (nodeL 0 0 0)).drew)
      have HI3 := Lib.hid (HI2.out.under hbf)
      clear hbn hbf R6 R7 HW2 HI2 HL3
      go_region
      all_goals
        clear q0 q1 q2 q3 q4 q5 q6 q7 q8
        simp only [nodeL] at S8
        have hbz3 : Hid (w.heap.size ≤ (A2.alloc (.cells #[.int .i64 0, .int .i64 0, .int .i64 0, .int .i64 0, .slice none 0 0, .slice none 0 0, .int .i64 0, .int .i64 0, .slice none 0 0, .int .i64 0] 66)).drew.heap.size) := Lib.hid HI3.out.below.size
        generalize (A2.alloc (.cells #[.int .i64 0, .int .i64 0, .int .i64 0, .int .i64 0, .slice none 0 0, .slice none 0 0, .int .i64 0, .int .i64 0, .slice none 0 0, .int .i64 0] 66)).drew = A3 at *
        generalize A2.heap.size = B8 at *
        have d1 := (show A3.cell? ⟨B8, 1, none⟩ = some (.int .i64 0) from S8.out.cell 1)
        have k0 := (show A3.cell? ⟨B6 + 1, 0, none⟩ = some (.int .i64 2) from S7.out.cell 0)
        have k1 := (show A3.cell? ⟨B6 + 1, 1, none⟩ = some (.string lostS) from S7.out.cell 1)
        have k2 := (show A3.cell? ⟨B6 + 1, 2, none⟩ = some (.string ⟨#[]⟩) from S7.out.cell 2)
        have k3 := (show A3.cell? ⟨B6 + 1, 3, none⟩ = some (.int .i64 0) from S7.out.cell 3)
        have k4 := (show A3.cell? ⟨B6 + 1, 4, none⟩ = some (.slice none 0 0) from S7.out.cell 4)
        have hone : Hid (∀ u ∈ memberL lostS, u.oneCell' = true) := Lib.hid (by intro u hu; simp only [memberL, List.mem_cons, List.not_mem_nil, or_false] at hu; rcases hu with rfl | rfl | rfl | rfl | rfl <;> rfl)
        have HPz : Hid (w.heap.size ≤ (A3.alloc (.cells #[.int .i64 2, .string lostS, .string ⟨#[]⟩, .int .i64 0, .slice none 0 0] 38)).heap.size) := Lib.hid (by have := HI3.out.below.size; rw [alloc_size]; omega)
        clear S6 S7 S8 hbz3
        go_wp2_with (refine wpList_append_own _ rfl _ _ 27 rfl w.heap.size 38 i0 (.agg #[.int .i64 0, .string ⟨#[]⟩, .string ⟨#[]⟩, .int .i64 0, .slice none 0 0]) 5 72 Tryz.underlying27 hi hz0 hz1 hz2 rfl (by decide) _ 0 (memM 0) rfl (own_below HI3.out.own (below_alloc1 _ _)) ⟨A3.heap.size, 0, none⟩ 1 1 (memberL lostS) rfl rfl (Row.new A3 38 (memberL lostS)).cells hone.out (by decide) (by decide) HPz.out ?_; intro v9 w9 h1 h2 h3; have HF := Lib.hid (MemI.grown HI3.out.below HI3.out.own HI3.out.map h1 rfl h2); clear h1 h2 h3)
        exact ⟨⟨1, rfl, by decide, HF.out⟩, by simp [RowKit.intOf]⟩
    · have l0 := (show wr.cell? ⟨L, 2, none⟩ = some (.string lost5) from HL2.out.cell 2)
      have l1 := (show wr.cell? ⟨L, 3, none⟩ = some (.int .i64 5) from HL2.out.cell 3)
      go_wp2
      have hbe := below_alloc2 wr (.cells #[.string lost5, .int .i64 5] 118) (.cells #[.int .i64 2, .string lost5, .string ⟨#[]⟩, .int .i64 0, .slice none 0 0] 38)
      have R6 := Lib.hid ((Row.new wr 118 [.string lost5, .int .i64 5]).below (below_alloc1 _ (.cells #[.int .i64 2, .string lost5, .string ⟨#[]⟩, .int .i64 0, .slice none 0 0] 38)) (by simp))
      have R7 := Lib.hid (show Row ((wr.alloc (.cells #[.string lost5, .int .i64 5] 118)).alloc (.cells #[.int .i64 2, .string lost5, .string ⟨#[]⟩, .int .i64 0, .slice none 0 0] 38)) (wr.heap.size + 1) 38 (memberL lost5) from row_new1 wr (.cells #[.string lost5, .int .i64 5] 118) 38 (memberL lost5))
      have HW2 := Lib.hid (HW.out.under hbe)
      have HI2 := Lib.hid (HI.out.under hbe)
      have HL3 := Lib.hid (HL2.out.below hbe HL2.out.lt)
      have hbz2 : Hid (w.heap.size ≤ ((wr.alloc (.cells #[.string lost5, .int .i64 5] 118)).alloc (.cells #[.int .i64 2, .string lost5, .string ⟨#[]⟩, .int .i64 0, .slice none 0 0] 38)).heap.size) := Lib.hid HI2.out.below.size
      clear HW HI HL2 l0 l1 hbe hbz
      generalize ((wr.alloc (.cells #[.string lost5, .int .i64 5] 118)).alloc (.cells #[.int .i64 2, .string lost5, .string ⟨#[]⟩, .int .i64 0, .slice none 0 0] 38)) = A2 at *
      generalize wr.heap.size = B6 at *
      have hbn := (below_alloc1 A2 (.cells #[.int .i64 0, .int .i64 0, .int .i64 0, .int .i64 0, .slice none 0 0, .slice none 0 0, .int .i64 0, .int .i64 0, .slice none 0 0, .int .i64 0] 66)).drew
      have hbf := (below_alloc1 A2 (.cells #[.int .i64 5, .int .i64 2, .int .i64 1, .int .i64 0, .slice none 0 0, .slice none 0 0, .int .i64 0, .int .i64 0, .slice none 0 0, .int .i64 0] 66)).drew
      have q0 := HW2.out.c0
      have q1 := (HW2.out.under (below_drew A2)).c0
      have q2 := (HW2.out.under hbn).c0
      have q3 := HW2.out.scan.c6
      have q4 := (HW2.out.under hbn).scan.c6
      have q5 := (show A2.cell? ⟨B6, 1, none⟩ = some (.int .i64 5) from R6.out.cell 1)
      have q6 := (show World.cell? (A2.alloc (.cells #[.int .i64 0, .int .i64 0, .int .i64 0, .int .i64 0, .slice none 0 0, .slice none 0 0, .int .i64 0, .int .i64 0, .slice none 0 0, .int .i64 0] 66)).drew ⟨B6, 1, none⟩ = some (.int .i64 5) from (R6.out.below hbn R6.out.lt).cell 1)
      have q7 := look59 (HW2.out.under (below_drew A2)).scan 5 (.inr rfl)
      have q8 := look59 (HW2.out.under hbn).scan 5 (.inr rfl)
      have S6 := Lib.hid (R6.out.below hbf R6.out.lt)
      have S7 := Lib.hid (R7.out.below hbf R7.out.lt)
      have S8 := Lib.hid ((Row.new A2 66 (nodeL 5 2 1)).drew)
      have HI3 := Lib.hid (HI2.out.under hbf)
      clear hbn hbf R6 R7 HW2 HI2 HL3
      go_region
      all_goals
        clear q0 q1 q2 q3 q4 q5 q6 q7 q8
        simp only [nodeL] at S8
        have hbz3 : Hid (w.heap.size ≤ (A2.alloc (.cells #[.int .i64 5, .int .i64 2, .int .i64 1, .int .i64 0, .slice none 0 0, .slice none 0 0, .int .i64 0, .int .i64 0, .slice none 0 0, .int .i64 0] 66)).drew.heap.size) := Lib.hid HI3.out.below.size
        generalize (A2.alloc (.cells #[.int .i64 5, .int .i64 2, .int .i64 1, .int .i64 0, .slice none 0 0, .slice none 0 0, .int .i64 0, .int .i64 0, .slice none 0 0, .int .i64 0] 66)).drew = A3 at *
        generalize A2.heap.size = B8 at *
        have d1 := (show A3.cell? ⟨B8, 1, none⟩ = some (.int .i64 2) from S8.out.cell 1)
        have k0 := (show A3.cell? ⟨B6 + 1, 0, none⟩ = some (.int .i64 2) from S7.out.cell 0)
        have k1 := (show A3.cell? ⟨B6 + 1, 1, none⟩ = some (.string lost5) from S7.out.cell 1)
        have k2 := (show A3.cell? ⟨B6 + 1, 2, none⟩ = some (.string ⟨#[]⟩) from S7.out.cell 2)
        have k3 := (show A3.cell? ⟨B6 + 1, 3, none⟩ = some (.int .i64 0) from S7.out.cell 3)
        have k4 := (show A3.cell? ⟨B6 + 1, 4, none⟩ = some (.slice none 0 0) from S7.out.cell 4)
        have hone : Hid (∀ u ∈ memberL lost5, u.oneCell' = true) := Lib.hid (by intro u hu; simp only [memberL, List.mem_cons, List.not_mem_nil, or_false] at hu; rcases hu with rfl | rfl | rfl | rfl | rfl <;> rfl)
        have HPz : Hid (w.heap.size ≤ (A3.alloc (.cells #[.int .i64 2, .string lost5, .string ⟨#[]⟩, .int .i64 0, .slice none 0 0] 38)).heap.size) := Lib.hid (by have := HI3.out.below.size; rw [alloc_size]; omega)
        clear S6 S7 S8 hbz3
        go_wp2_with (refine wpList_append_own _ rfl _ _ 27 rfl w.heap.size 38 i0 (.agg #[.int .i64 0, .string ⟨#[]⟩, .string ⟨#[]⟩, .int .i64 0, .slice none 0 0]) 5 72 Tryz.underlying27 hi hz0 hz1 hz2 rfl (by decide) _ 1 (memM 1) rfl (own_below HI3.out.own (below_alloc1 _ _)) ⟨A3.heap.size, 0, none⟩ 1 1 (memberL lost5) rfl rfl (Row.new A3 38 (memberL lost5)).cells hone.out (by decide) (by decide) HPz.out ?_; intro v9 w9 h1 h2 h3; have HF := Lib.hid (MemI.grown HI3.out.below HI3.out.own HI3.out.map h1 rfl h2); clear h1 h2 h3)
        exact ⟨⟨2, rfl, by decide, HF.out⟩, by simp [RowKit.intOf]⟩
    · go_wp2
      go_ret
      exact ⟨_, rfl, HI.out.own, HI.out.below⟩
end
end Go.Proofs.YtgoogbakhhbnhaaGreatDoor.Ar
