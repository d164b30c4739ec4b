/-
  Mend: a rescue under way: find.
-/
import Derived.Test.YtgoogbakhhbnhaaGreatDoorNf
import Derived.Test.YtgoogbakhhbnhaaGreatDoorShelf
set_option linter.unusedVariables false
set_option linter.unusedSimpArgs false
set_option maxRecDepth 100000
namespace Go.Proofs.YtgoogbakhhbnhaaGreatDoor.Ar
open Go.RowKit Go.Sort Go.Lib Go.Proofs.YtgoogbakhhbnhaaGreatDoor.Rs
def lostS : ByteArray := { data := #[108, 111, 115, 116] }
def lost5 : ByteArray := { data := #[108, 111, 115, 116, 47, 53] }
theorem WkI.place {base P R m mo mm mt nl : Nat} {xl : List Value} {w w9 : World} {v9 vl vp : Value} {Mm : List (Int × Value)} (h : WkI base w P R m mo mm mt Mm nl 0 xl []) (h1 : Row w P 76 [.pointer (some ⟨R, 0, none⟩), .map (some mm), .map (some mt), vl, vp]) (h2 : w.ownsRow base 35 3 vl nl xl) (h3 : w.ownsRow base 118 2 vp 0 []) {xs : List Value} (h4 : w9.ownsRow base 118 2 v9 1 xs) (hg : w.grownBy w9 vp.ownBlock) :
    WkI base (w9.setCell ⟨P, 4, none⟩ v9) P R m mo mm mt Mm nl 1 xl xs := by
  have hne := own_ne_row h1 h3 (by decide)
  have hP : Row w9 P 76 [.pointer (some ⟨R, 0, none⟩), .map (some mm), .map (some mt), vl, vp] := (hg.block P h1.lt (fun e => hne e.symm)).trans h1
  have hk := (keepT_of_grown (B := P) h3 hg).trans (keepT_set (T := 118) (B := P) (w := w9) 4 v9)
  obtain ⟨vo, hsr⟩ := h.scan.row
  exact ⟨⟨⟨vo, hk.row hsr (row_ne hsr h1 (by decide)) (by decide)⟩, hk.mapi h.scan.map (cells_ne_map h1 h.scan.map).symm, hk.mapi h.scan.own (cells_ne_map h1 h.scan.own).symm⟩, ⟨vl, v9, hP.set 4 _, hk.own h2 (by decide) (own_ne_row h1 h2 (by decide)), ownsRow_setCell_other h4 (a := ⟨P, 4, none⟩) (fun e => own_ne_row hP h4 (by decide) e) _⟩, hk.mapi h.many (cells_ne_map h1 h.many).symm, h.lowP⟩
section
variable {base P R m mo mm mt : Nat} {w : World}
set_option maxHeartbeats 8000000 in
theorem call_find_ (hb : base ≤ w.heap.size) (h : WkI base w P R m mo mm mt [] 0 0 [] []) (ht : MapI w mt []) (hne : mm ≠ mt ∧ m ≠ mm ∧ mo ≠ mm ∧ m ≠ mt ∧ mo ≠ mt) :
    Calls Tryz.prog 21 #[.pointer (some ⟨P, 0, none⟩)] w fun e w' => (∃ v, e = .returned v) ∧ WkI base w' P R m mo mm mt [(5, .int .i64 1)] 1 2 [.int .i64 114, .int .i64 5, .string ⟨#[]⟩] [.string lostS, .int .i64 0, .string lost5, .int .i64 5] ∧ Below base w w' := by
  have HO := Lib.hid (call_out true h)
  have H := Lib.hid h
  have HT := Lib.hid ht
  obtain ⟨i0, hi, hz0, hz1, hz2⟩ := info_parts info118
  clear h ht
  go_enter Tryz.func21, Tryz.ntmps21
  go_wp2_with (go_at_call 44; refine HO.out.mono ?_; rintro e w1 ⟨h1, hb1⟩; rw [if_pos rfl] at h1; obtain ⟨g, c, rfl, cur, hg⟩ := h1; have H1 := Lib.hid (H.out.under hb1); have HT1 := Lib.hid (HT.out.below hb1 HT.out.lt); have HB1 := Lib.hid (hb1.mono hb); have HG := Lib.hid hg; clear H HT hb1 hg)
  have c2 := H1.out.c2
  have hlk := lookS HT1.out Tryz.underlying73 Tryz.underlying9 (zero3 _) lostS
  go_loopw [3] (fun tv wz => tv = .string lostS ∧ wz = w1) (fun _ _ => 0)
  case atStart => exact ⟨rfl, rfl⟩
  case round =>
    obtain ⟨rfl, rfl⟩ := hrel
    obtain ⟨vl, vp, h1, h2, h3⟩ := H1.out.ex
    obtain ⟨la, lk, lc, rfl⟩ := own_isS h3
    have HNb := Lib.hid (below_alloc1 wr (.cells #[.string lostS, .int .i64 0] 118))
    have HNr := Lib.hid (Row.new wr 118 [.string lostS, .int .i64 0])
    have hA := Lib.hid (h1.alloc (.cells #[.string lostS, .int .i64 0] 118))
    have HWa := Lib.hid (H1.out.under HNb.out)
    have HOa := Lib.hid (own_below h3 HNb.out)
    have HLa := Lib.hid (own_below h2 HNb.out)
    have HTa := Lib.hid (HT1.out.below HNb.out HT1.out.lt)
    have HGa := Lib.hid (HG.out.below HNb.out HG.out.lt)
    have hone : Hid (∀ u ∈ [Value.string lostS, .int .i64 0], u.oneCell' = true) := Lib.hid (by intro u hu; simp only [List.mem_cons, List.not_mem_nil, or_false] at hu; rcases hu with rfl | rfl <;> rfl)
    have hbz : Hid (base ≤ (wr.alloc (.cells #[.string lostS, .int .i64 0] 118)).heap.size) := Lib.hid (by rw [alloc_size]; have := HB1.out.size; omega)
    have p5 := (show World.cell? (wr.alloc (.cells #[.string lostS, .int .i64 0] 118)) ⟨P, 4, none⟩ = some (.slice la lk lc) from hA.out.cell 4)
    have p6 := (show World.cell? wr ⟨P, 4, none⟩ = some (.slice la lk lc) from h1.cell 4)
    clear h1 h2 h3
    unfold lostS at *
    go_wp2_with (refine wpList_append_own _ rfl _ _ 74 rfl base 118 i0 (.agg #[.string ⟨#[]⟩, .int .i64 0]) 2 24 Tryz.underlying74 hi hz0 hz1 hz2 rfl (by decide) _ 0 [] rfl HOa.out ⟨wr.heap.size, 0, none⟩ 1 1 [.string { data := #[108, 111, 115, 116] }, .int .i64 0] rfl rfl HNr.out.cells hone.out (by decide) (by decide) hbz.out ?_; intro v9 w9 h1 h2 h3; obtain ⟨a9, n9, c9, rfl⟩ := own_isS h1; have hne9 := own_ne_row hA.out HOa.out (by decide); have HW9 := Lib.hid (HWa.out.place hA.out HLa.out HOa.out h1 h2); have HP9 := Lib.hid (show Row w9 P 76 [.pointer (some ⟨R, 0, none⟩), .map (some mm), .map (some mt), vl, .slice la lk lc] from (h2.block P hA.out.lt (fun e => hne9 e.symm)).trans hA.out); have hk9 := (keepT_of_grown (B := P) HOa.out h2).trans (keepT_set (T := 118) (B := P) (w := w9) 4 (.slice a9 n9 c9)); have HT9 := Lib.hid (hk9.mapi HTa.out (cells_ne_map hA.out HTa.out).symm); have HG9 := Lib.hid (hk9.row HGa.out (row_ne HGa.out hA.out (by decide)) (by decide)); have HB9 := Lib.hid (((HB1.out.trans (HNb.out.mono (by have := HB1.out.size; omega))).trans (below_grown HOa.out h2 (Nat.le_refl _) hbz.out)).setCell (p := ⟨P, 4, none⟩) HWa.out.lowP.1 (.slice a9 n9 c9)); have z0 := (show w9.cell? ⟨P, 4, none⟩ = some (.slice la lk lc) from HP9.out.cell 4); have z1 := HP9.out.free 4; clear h1 h2 h3 hne9 p5 p6)
    clear HWa HLa HOa HTa HGa HNb HNr hA hone hbz HP9 z0 z1 hlk c2 H1 HT1 HB1 HG
    generalize (w9.setCell ⟨P, 4, none⟩ (.slice a9 n9 c9)) = w10 at *
    go_loopw [2] (fun ov wz => (ov = .slice (some ⟨g, 0, none⟩) 1 c ∧ wz = w10) ∨ (ov = .slice none 0 0 ∧ WkI base wz P R m mo mm mt [(5, .int .i64 1)] 1 2 [.int .i64 114, .int .i64 5, .string ⟨#[]⟩] [.string { data := #[108, 111, 115, 116] }, .int .i64 0, .string lost5, .int .i64 5] ∧ Below base w wz)) (fun ov _ => match ov with | .slice _ n _ => n | _ => 0)
    case atStart => exact .inl ⟨rfl, rfl⟩
    case round =>
      rcases hrel with ⟨rfl, rfl⟩ | ⟨rfl, hw, hb9⟩
      · have HIt : Hid (∀ W, Calls Tryz.prog 46 #[.int .i64 5] W fun e w' => e = .returned (.string { data := #[53] }) ∧ w' = W) := Lib.hid (fun W => by
          have h := Tryz.strconv_Itoa_small 5 (by decide) W
          rw [show (⟨(Lib.decDigits 5).toArray⟩ : ByteArray) = { data := #[53] } from by simp [Lib.decDigits]] at h
          exact h)
        have hcat : ({ data := #[108, 111, 115, 116] } ++ { data := #[47] } ++ { data := #[53] } : ByteArray) = lost5 := by decide
        go_wp2_with (first
          | (go_at_call 45; refine (call_next g c HW9.out (HG9.out.cell 0)).mono ?_; rintro e x1 ⟨rfl, hb1⟩; have hbx := below_after hb1 (below_alloc1 x1 (.cells #[.int .i64 114, .int .i64 5, .string { data := #[] }] 35)); have X1 := Lib.hid (HW9.out.under hbx); have X1r := Lib.hid (Row.new x1 35 [.int .i64 114, .int .i64 5, .string { data := #[] }]); have XT1 := Lib.hid (HT9.out.below hbx HT9.out.lt); have XB1 := Lib.hid (HB9.out.trans (hbx.mono (Nat.le_trans hb HB9.out.size))); clear hb1 hbx HW9 HG9 HT9 HB9)
          | (go_at_call 17; refine (call_lose x1.heap.size 1 (Nat.le_trans hb XB1.out.size) X1.out X1r.out).mono ?_; rintro e x2 ⟨⟨v2, rfl⟩, hw2, hk2, hb2⟩; have X2 := Lib.hid hw2; obtain ⟨ul, up, hu, _, _⟩ := X1.out.ex; have XT2 := Lib.hid (hk2.mapi XT1.out (cells_ne_map hu XT1.out).symm); have XB2 := Lib.hid (XB1.out.trans hb2); clear hw2 hk2 hb2 hu X1 X1r XT1 XB1)
          | (go_at_call 46; refine (HIt.out _).mono ?_; rintro e x3 ⟨rfl, rfl⟩)
          | (go_at_call 43; refine (call_put lost5 (Nat.le_trans hb XB2.out.size) X2.out XT2.out hne).mono ?_; rintro e x4 ⟨⟨v4, rfl⟩, hw4, hb4⟩; have X4 := Lib.hid hw4; have XB4 := Lib.hid (XB2.out.trans hb4); clear hw4 hb4 X2 XT2 XB2)
          | (go_at_call 20; have hg := X4.out; clear hg; refine (call_down 5 lost5 (.inr rfl) X4.out).mono ?_; rintro e x5 ⟨⟨v5, rfl⟩, hb5⟩; have X5 := Lib.hid (X4.out.under hb5); have XB5 := Lib.hid (XB4.out.trans (hb5.mono (Nat.le_trans hb XB4.out.size))); clear hb5 X4 XB4)
          | (go_at_call 44; have hg := X5.out; clear hg; refine (call_out false X5.out).mono ?_; rintro e x6 ⟨h6, hb6⟩; rw [if_neg (by decide)] at h6; subst h6; have X6 := Lib.hid (X5.out.under hb6); have XB6 := Lib.hid (XB5.out.trans (hb6.mono (Nat.le_trans hb XB5.out.size))); clear hb6 X5 XB5))
        exact ⟨.inr ⟨rfl, X6.out, XB6.out⟩, Nat.zero_lt_one⟩
      · have HW := Lib.hid hw
        have HBz := Lib.hid hb9
        clear hw hb9
        go_wp2
        go_end0
        exact ⟨⟨_, rfl⟩, HW.out, HBz.out⟩
end
end Go.Proofs.YtgoogbakhhbnhaaGreatDoor.Ar
