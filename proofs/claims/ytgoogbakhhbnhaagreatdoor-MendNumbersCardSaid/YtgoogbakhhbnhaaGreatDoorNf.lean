/-
  Mend: a rescue under way: put.
-/
import Derived.Test.YtgoogbakhhbnhaaGreatDoorNe
import Derived.Deep.RegionLaw
set_option linter.unusedVariables false
set_option linter.unusedSimpArgs false
set_option maxRecDepth 100000
namespace Go.Proofs.YtgoogbakhhbnhaaGreatDoor.Ar
open Go.RowKit Go.Sort Go.Lib Go.Proofs.YtgoogbakhhbnhaaGreatDoor.Rs
theorem turn_put {W : World} {r : Nat} {L : List (Int × Value)} (h : MapI W r L) (o : Obj) : TurnOk 0 W (W.putObj r o) (some r) := ⟨grownBy_putObj' W r o, fun r' e => by cases e; exact ⟨Nat.zero_le _, _, h, rfl⟩⟩
theorem WkI.putMany {base : Nat} {W : World} {P R m mo mm mt nl np : Nat} {Mm : List (Int × Value)} {xl xp : List Value} (h : WkI base W P R m mo mm mt Mm nl np xl xp) (hne : m ≠ mm ∧ mo ≠ mm) (L : List (Int × Value)) :
    WkI base (W.putObj mm (.map (ents L 0).toArray L.length)) P R m mo mm mt L nl np xl xp := by
  have t := turn_put h.many (.map (ents L 0).toArray L.length)
  obtain ⟨vl, vp, h1, h2, h3⟩ := h.ex
  obtain ⟨vo, hr⟩ := h.scan.row
  exact ⟨⟨⟨vo, t.row hr⟩, (World.putObj_heap_other hne.1).trans h.scan.map, (World.putObj_heap_other hne.2).trans h.scan.own⟩, ⟨vl, vp, t.row h1, own_turn h2 t, own_turn h3 t⟩, World.putObj_heap_same h.many.lt, h.lowP⟩
theorem WkI.putTops {base : Nat} {W : World} {P R m mo mm mt nl np : Nat} {Mm : List (Int × Value)} {xl xp : List Value} (h : WkI base W P R m mo mm mt Mm nl np xl xp) (hm : MapI W mt []) (hne : m ≠ mt ∧ mo ≠ mt ∧ mm ≠ mt) (o : Obj) :
    WkI base (W.putObj mt o) P R m mo mm mt Mm nl np xl xp := by
  have t := turn_put hm o
  obtain ⟨vl, vp, h1, h2, h3⟩ := h.ex
  obtain ⟨vo, hr⟩ := h.scan.row
  exact ⟨⟨⟨vo, t.row hr⟩, (World.putObj_heap_other hne.1).trans h.scan.map, (World.putObj_heap_other hne.2.1).trans h.scan.own⟩, ⟨vl, vp, t.row h1, own_turn h2 t, own_turn h3 t⟩, (World.putObj_heap_other hne.2.2).trans h.many, h.lowP⟩
section
variable {base P R m mo mm mt nl : Nat} {xl xp : List Value} {w : World}
set_option maxHeartbeats 8000000 in
theorem call_put (s : ByteArray) (hb : base ≤ w.heap.size) (h : WkI base w P R m mo mm mt [] nl 1 xl xp) (ht : MapI w mt []) (hne : mm ≠ mt ∧ m ≠ mm ∧ mo ≠ mm ∧ m ≠ mt ∧ mo ≠ mt) :
    Calls Tryz.prog 43 #[.pointer (some ⟨P, 0, none⟩), .agg #[.string s, .int .i64 5]] w fun e w' => (∃ v, e = .returned v) ∧ WkI base w' P R m mo mm mt [(5, .int .i64 1)] nl 2 xl (xp ++ [.string s, .int .i64 5]) ∧ Below base w w' := by
  obtain ⟨vl, vp, h1, h2, h3⟩ := h.ex
  obtain ⟨i0, hi, hz0, hz1, hz2⟩ := info_parts info118
  obtain ⟨la, lk, lc, rfl⟩ := own_isS h3
  have hbA := below_alloc1 w (.cells #[.string s, .int .i64 5] 118)
  have hbB := below_alloc2 w (.cells #[.string s, .int .i64 5] 118) (.cells #[.string s, .int .i64 5] 118)
  have HA := Lib.hid (h1.below hbA h1.lt)
  have HB := Lib.hid (h1.below hbB h1.lt)
  have p4 := (show World.cell? (w.alloc (.cells #[.string s, .int .i64 5] 118)) ⟨P, 4, none⟩ = some (.slice la lk lc) from HA.out.cell 4)
  have q4 := (show World.cell? ((w.alloc (.cells #[.string s, .int .i64 5] 118)).alloc (.cells #[.string s, .int .i64 5] 118)) ⟨P, 4, none⟩ = some (.slice la lk lc) from HB.out.cell 4)
  have hbx : Row (w.alloc (.cells #[.string s, .int .i64 5] 118)) w.heap.size 118 [.string s, .int .i64 5] := Row.new w 118 [.string s, .int .i64 5]
  have HBx := Lib.hid (hbx.below (below_alloc1 _ (.cells #[.string s, .int .i64 5] 118)) hbx.lt)
  have b0 := (show World.cell? (w.alloc (.cells #[.string s, .int .i64 5] 118)) ⟨w.heap.size, 0, none⟩ = some (.string s) from hbx.cell 0)
  have b1 := (show World.cell? (w.alloc (.cells #[.string s, .int .i64 5] 118)) ⟨w.heap.size, 1, none⟩ = some (.int .i64 5) from hbx.cell 1)
  have HO := Lib.hid (own_below h3 hbB)
  have HN := Lib.hid (row_new1 w (.cells #[.string s, .int .i64 5] 118) 118 [.string s, .int .i64 5])
  have hcl : Hid (∀ j u, [Value.string s, .int .i64 5][j]? = some u → World.cell? ((w.alloc (.cells #[.string s, .int .i64 5] 118)).alloc (.cells #[.string s, .int .i64 5] 118)).drew ((⟨w.heap.size + 1, 0, none⟩ : Addr).add j) = some u) := Lib.hid HN.out.cells
  have hone : Hid (∀ u ∈ [Value.string s, .int .i64 5], u.oneCell' = true) := Lib.hid (by intro u hu; simp only [List.mem_cons, List.not_mem_nil, or_false] at hu; rcases hu with rfl | rfl <;> rfl)
  have hsz : Hid (base ≤ ((w.alloc (.cells #[.string s, .int .i64 5] 118)).alloc (.cells #[.string s, .int .i64 5] 118)).drew.heap.size) := Lib.hid (by show _ ≤ ((w.alloc _).alloc _).heap.size; rw [alloc_size, alloc_size]; omega)
  have HOd : Hid (World.ownsRow ((w.alloc (.cells #[.string s, .int .i64 5] 118)).alloc (.cells #[.string s, .int .i64 5] 118)).drew base 118 2 (.slice la lk lc) 1 xp) := Lib.hid (own_below HO.out (below_drew _))
  have HBd : Hid (Row ((w.alloc (.cells #[.string s, .int .i64 5] 118)).alloc (.cells #[.string s, .int .i64 5] 118)).drew P 76 [.pointer (some ⟨R, 0, none⟩), .map (some mm), .map (some mt), vl, .slice la lk lc]) := Lib.hid HB.out.drew
  have HBxd : Hid (Row ((w.alloc (.cells #[.string s, .int .i64 5] 118)).alloc (.cells #[.string s, .int .i64 5] 118)).drew w.heap.size 118 [.string s, .int .i64 5]) := Lib.hid HBx.out.drew
  have HbB : Hid (Below w.heap.size w ((w.alloc (.cells #[.string s, .int .i64 5] 118)).alloc (.cells #[.string s, .int .i64 5] 118)).drew) := Lib.hid hbB.drew
  have hold : Hid (∀ g', (Value.slice la lk lc).ownBlock = some g' → g' < w.heap.size) := Lib.hid (fun g' e => (h3.lt g' e).2)
  have H := Lib.hid h
  have HT := Lib.hid ht
  have HOl := Lib.hid h2
  clear h h1 h2 h3 ht hbA hbB hbx
  go_enter Tryz.func43, Tryz.ntmps43
  go_wp2
  go_region_law (refine step_append_lies _ (by rfl) _ _ 74 (by rfl) base 118 i0 (.agg #[.string ⟨#[]⟩, .int .i64 0]) 2 24 Tryz.underlying74 hi hz0 hz1 hz2 rfl (by decide) _ 1 xp (by rfl) HOd.out ⟨w.heap.size + 1, 0, none⟩ 1 1 [.string s, .int .i64 5] (by rfl) rfl hcl.out hone.out (by decide) (by decide) (by decide) hsz.out _ rfl ?_; intro g4 c4 v4 h1' h2' h3' h4'; have HV4 := Lib.hid h1'; have HR4 := Lib.hid h2'; have hne4 := own_ne_row HBd.out HOd.out (by decide); have HP4 := Lib.hid (show Row v4 P 76 [.pointer (some ⟨R, 0, none⟩), .map (some mm), .map (some mt), vl, .slice la lk lc] from (h2'.block P HBd.out.lt (fun e => hne4 e.symm)).trans HBd.out); have z0 := (show v4.cell? ⟨P, 4, none⟩ = some (.slice la lk lc) from HP4.out.cell 4); have z1 := HP4.out.free 4; clear h1' h2' h3' h4' hne4)
  all_goals
    have hk := (keepT_of_grown (B := P) HOd.out HR4.out).trans (keepT_set (T := 118) (B := P) (w := v4) 4 (.slice (some ⟨g4, 0, none⟩) 2 c4))
    have hd := H.out.under HbB.out
    obtain ⟨vo, hsr⟩ := hd.scan.row
    have hW := Lib.hid (show WkI base (v4.setCell ⟨P, 4, none⟩ (.slice (some ⟨g4, 0, none⟩) 2 c4)) P R m mo mm mt [] nl 2 xl (xp ++ [.string s, .int .i64 5]) from
      ⟨⟨⟨vo, hk.row hsr (row_ne hsr HBd.out (by decide)) (by decide)⟩, hk.mapi hd.scan.map (cells_ne_map HBd.out hd.scan.map).symm, hk.mapi hd.scan.own (cells_ne_map HBd.out hd.scan.own).symm⟩, ⟨vl, _, HP4.out.set 4 _, hk.own (own_below HOl.out HbB.out) (by decide) (own_ne_row HBd.out (own_below HOl.out HbB.out) (by decide)), ownsRow_setCell_other HV4.out (a := ⟨P, 4, none⟩) (fun e => own_ne_row HP4.out HV4.out (by decide) e) _⟩, hk.mapi hd.many (cells_ne_map HBd.out hd.many).symm, hd.lowP⟩)
    have hbx5 := Lib.hid (show Row (v4.setCell ⟨P, 4, none⟩ (.slice (some ⟨g4, 0, none⟩) 2 c4)) w.heap.size 118 [.string s, .int .i64 5] from
      (Below.heap_setCell v4 ⟨P, 4, none⟩ _ _ (row_ne HBd.out HBxd.out (by decide)).symm).trans ((HR4.out.block _ HBxd.out.lt (fun e => by have := hold.out _ e.symm; omega)).trans HBxd.out))
    have hmt5 := Lib.hid (hk.mapi (HT.out.below HbB.out HT.out.lt) (cells_ne_map HBd.out (HT.out.below HbB.out HT.out.lt)).symm)
    have hbl5 := Lib.hid ((HbB.out.mono hb).trans ((below_grown HOd.out HR4.out (Nat.le_refl _) hsz.out).setCell (p := ⟨P, 4, none⟩) H.out.lowP.1 (.slice (some ⟨g4, 0, none⟩) 2 c4)))
    clear hk hd hsr p4 q4 b0 b1 z0 z1 HA HB HBx HO HN hcl hone hsz HOd HBd HBxd HbB hold H HT HOl HV4 HR4 HP4
    generalize (v4.setCell ⟨P, 4, none⟩ (.slice (some ⟨g4, 0, none⟩) 2 c4)) = W5 at *
    have c1 := hW.out.c1
    have b1 := (show W5.cell? ⟨w.heap.size, 1, none⟩ = some (.int .i64 5) from hbx5.out.cell 1)
    have hdr := hW.out.under (below_drew W5)
    have hlk := hdr.many.look Tryz.underlying60 Tryz.underlying3 (zero3 _) 5
    have hput := hdr.many.put Tryz.underlying60 Tryz.underlying3 (k := 5) rfl (.int .i64 1)
    simp only [atI, Option.getD] at hlk
    clear hdr
    go_wp2
    go_region
    have hd5 := hW.out.under (below_drew W5)
    have hW6 := Lib.hid (show WkI base (W5.drew.putObj mm (.map (ents [((5 : Int), .int .i64 1)] 0).toArray 1)) P R m mo mm mt [(5, .int .i64 1)] nl 2 xl (xp ++ [.string s, .int .i64 5]) from hd5.putMany ⟨hne.2.1, hne.2.2.1⟩ [((5 : Int), .int .i64 1)])
    have t6 := turn_put hd5.many (.map (ents [((5 : Int), .int .i64 1)] 0).toArray 1)
    have hbx6 := Lib.hid (t6.row (hbx5.out.below (below_drew W5) hbx5.out.lt))
    have hmt6 := Lib.hid (show MapI _ mt [] from (World.putObj_heap_other (o := .map (ents [((5 : Int), .int .i64 1)] 0).toArray 1) hne.1.symm).trans (hmt5.out.below (below_drew W5) hmt5.out.lt))
    have hbl6 := Lib.hid (below_put (o := .map (ents [((5 : Int), .int .i64 1)] 0).toArray 1) hbl5.out.drew hW.out.lowP.2.1)
    clear hd5 t6 hbx5 hmt5 hbl5 hW c1 b1 hlk hput
    generalize W5.drew.putObj mm (.map (ents [((5 : Int), .int .i64 1)] 0).toArray 1) = W6 at *
    have c2 := hW6.out.c2
    have b0 := (show W6.cell? ⟨w.heap.size, 0, none⟩ = some (.string s) from hbx6.out.cell 0)
    have hmd := hmt6.out.below (below_drew W6) hmt6.out.lt
    have hlk := lookS hmd Tryz.underlying73 Tryz.underlying9 (zero3 _) s
    have hput := putS hmd Tryz.underlying73 Tryz.underlying9 s (.int .i64 1)
    have hdW := hW6.out.under (below_drew W6)
    have hW7 := Lib.hid (hdW.putTops hmd ⟨hne.2.2.2.1, hne.2.2.2.2, hne.1⟩ (.map #[⟨.string s, .int .i64 1, 0⟩] 1))
    have hbl7 := Lib.hid (below_put (o := .map #[⟨.string s, .int .i64 1, 0⟩] 1) hbl6.out.drew hW6.out.lowP.2.2)
    clear hmd hmt6 hbx6 hbl6 hW6 hdW
    go_wp2
    go_region
    go_end0
    exact ⟨⟨_, rfl⟩, hW7.out, hbl7.out⟩
end
end Go.Proofs.YtgoogbakhhbnhaaGreatDoor.Ar
