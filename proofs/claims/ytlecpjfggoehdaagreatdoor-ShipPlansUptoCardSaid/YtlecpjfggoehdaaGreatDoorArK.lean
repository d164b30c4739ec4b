
/- Archive: the order of names. -/
import Derived.Test.YtlecpjfggoehdaaGreatDoorArJ
import Derived.BigQuiet
import Derived.Deep.QuietTactic
set_option linter.unusedVariables false
set_option linter.unusedSimpArgs false
set_option maxRecDepth 100000
namespace Go.Proofs.YtlecpjfggoehdaaGreatDoor.Ar
open Go.RowKit Go.Sort Go.Lib Go.Proofs.YtlecpjfggoehdaaGreatDoor.Rs

def RStr (w : World) (b o : Nat) (s : List UInt8) : Prop := w.cell? ⟨b, o, none⟩ = some (.string (bs s))
theorem RStr.stays : Stays RStr := fun _ _ hk _ _ _ h => hk _ _ _ h
theorem NmV.sl {w : World} {v : Value} {o : Option (List (List UInt8))} (h : NmV w v o) : Sl RStr 1 w v (o.getD []) := by
  cases o with
  | none => exact ⟨none, 0, 0, 0, h, fun h => by simp at h, fun j x hj => by simp at hj⟩
  | some l =>
    obtain ⟨B, c, rfl, hc, hs⟩ := h
    exact ⟨_, B, 0, c, rfl, fun _ => rfl, fun j x hj => by show w.cell? _ = _; rw [Nat.zero_add, Nat.mul_one]; exact hs j x hj⟩

/-- whether names stand ahead of others -/
def aheadB : List (List UInt8) → List (List UInt8) → Bool
  | [], b => !b.isEmpty
  | _ :: _, [] => false
  | x :: xs, y :: ys => if x = y then aheadB xs ys else Op.bytesLess x y
theorem aheadB_app (c : List (List UInt8)) (xs ys : List (List UInt8)) : aheadB (c ++ xs) (c ++ ys) = aheadB xs ys := by
  induction c with
  | nil => rfl
  | cons a c ih => simp [aheadB, ih]
theorem aheadB_at {la lb : List (List UInt8)} {k : Nat} {x y : List UInt8} (h : la.take k = lb.take k) (hx : la[k]? = some x) (hy : lb[k]? = some y) (hne : ¬ x = y) : aheadB la lb = Op.bytesLess x y := by
  obtain ⟨h1, h2⟩ := List.getElem?_eq_some_iff.1 hx
  obtain ⟨h3, h4⟩ := List.getElem?_eq_some_iff.1 hy
  rw [← List.take_append_drop k la, ← List.take_append_drop k lb, h, aheadB_app, List.drop_eq_getElem_cons h1, List.drop_eq_getElem_cons h3, h2, h4, aheadB, if_neg hne]
theorem aheadB_end {la lb : List (List UInt8)} {k : Nat} (h : la.take k = lb.take k) (he : k = la.length ∨ k = lb.length) (h1 : k ≤ la.length) (h2 : k ≤ lb.length) : aheadB la lb = decide (la.length < lb.length) := by
  rw [← List.take_append_drop k la, ← List.take_append_drop k lb, h, aheadB_app]
  simp only [List.length_append, List.length_take, List.length_drop]
  by_cases hk : k = la.length
  · subst hk
    rw [List.drop_length, aheadB]
    cases hd : lb.drop la.length with
    | nil => have := congrArg List.length hd; simp at this; simp; try omega
    | cons a l => have := congrArg List.length hd; simp at this; simp; try omega
  · have hk2 : k = lb.length := by omega
    cases hd : la.drop k with
    | nil => have := congrArg List.length hd; simp at this; omega
    | cons a l => subst hk2; rw [List.drop_length, aheadB]; simp; try omega

set_option maxHeartbeats 1000000 in
theorem call_ahead (va vb : Value) (la lb : List (List UInt8)) (w : World) (ha : Sl RStr 1 w va la) (hb : Sl RStr 1 w vb lb) (na : la.length ≤ 1048577) (nb : lb.length ≤ 1048577) :
    Calls Tryz.prog 43 #[va, vb] w fun e w' => e = .returned (.bool (aheadB la lb)) ∧ Below w.heap.size w w' := by
  obtain ⟨aa, ba, oa, ca, rfl, haa, hca⟩ := ha
  obtain ⟨ab, bb, ob, cb, rfl, hab, hcb⟩ := hb
  obtain ⟨n, hn⟩ : ∃ n, la.length = n := ⟨_, rfl⟩
  obtain ⟨m, hm⟩ : ∃ n, lb.length = n := ⟨_, rfl⟩
  rw [hn] at na haa ⊢
  rw [hm] at nb hab ⊢
  go_enter Tryz.func43, Tryz.ntmps43
  go_wp2
  go_loopw [11] (fun i wr => ∃ (k : Nat), i = .int .i64 k ∧ k ≤ n ∧ k ≤ m ∧ la.take k = lb.take k ∧ Below w.heap.size w wr)
    (fun i _ => n - (RowKit.intOf i).toNat)
  case atStart => exact ⟨0, rfl, Nat.zero_le _, Nat.zero_le _, rfl, Below.refl _ _⟩
  case round =>
    obtain ⟨k, rfl, hkn, hkm, heq, hb⟩ := hrel
    have HB := Lib.hid hb
    have HE := Lib.hid heq
    have HN := Lib.hid hn
    have HM := Lib.hid hm
    clear heq
    by_cases hlt : k < n ∧ k < m
    · obtain ⟨h1, h2⟩ := hlt
      obtain ⟨x, hx⟩ : ∃ x, la[k]? = some x := ⟨_, List.getElem?_eq_getElem (by omega)⟩
      obtain ⟨y, hy⟩ : ∃ x, lb[k]? = some x := ⟨_, List.getElem?_eq_getElem (by omega)⟩
      have c1 := RStr.stays _ _ (keeps_below hb) _ _ _ (hca k x hx)
      have c2 := RStr.stays _ _ (keeps_below hb) _ _ _ (hcb k y hy)
      simp only [RStr, Nat.mul_one] at c1 c2
      have hmin : (k : Int) < min (n : Int) (m : Int) := by omega
      have k0 : (0 : Int) ≤ k := Int.natCast_nonneg _
      have k1 : (k : Int) < n := by omega
      have k2 : (k : Int) < m := by omega
      have ha' := haa (by omega)
      have hb' := hab (by omega)
      subst ha' hb'
      have HX := Lib.hid hx
      have HY := Lib.hid hy
      have ex := bs_toList x
      have ey := bs_toList y
      clear hca hcb hx hy hn hm haa hab
      clear hb
      go_wp2_with fail
      go_quiet (fail)
      have HBd : Hid (Below w.heap.size w (wr.drewN nq)) := Lib.hid ⟨HB.out.os, HB.out.tape, HB.out.output, HB.out.size, HB.out.block⟩
      replace c1 : (wr.drewN nq).cell? _ = _ := c1
      replace c2 : (wr.drewN nq).cell? _ = _ := c2
      generalize wr.drewN nq = wd at *
      by_cases hxy : x = y
      · have q : (!(x == y)) = false := by simpa using hxy
        have HXY := Lib.hid hxy
        rw [q]
        clear hxy q
        go_wp2
        go_roundw
        case rel => exact ⟨k + 1, by go_num, by omega, by omega, by rw [List.take_add_one, List.take_add_one, HX.out, HY.out, HE.out, HXY.out], HBd.out⟩
        case measure => simp [RowKit.intOf]; omega
      · have q : (!(x == y)) = true := by simpa using hxy
        have HXY := Lib.hid hxy
        rw [q]
        clear hxy q
        go_wp2_with fail
        go_quiet (fail)
        go_wp2
        go_ret
        exact ⟨by rw [aheadB_at HE.out HX.out HY.out HXY.out]; rfl, ⟨HBd.out.os, HBd.out.tape, HBd.out.output, HBd.out.size, HBd.out.block⟩⟩
    · have hmin : ¬ (k : Int) < min (n : Int) (m : Int) := by omega
      have hEnd : aheadB la lb = decide (la.length < lb.length) := aheadB_end HE.out (by have := HN.out; have := HM.out; omega) (by have := HN.out; omega) (by have := HM.out; omega)
      have HEd := Lib.hid hEnd
      clear hEnd hca hcb haa hab hn hm
      go_wp2
      go_ret
      refine ⟨?_, HB.out⟩
      rw [HEd.out, HN.out, HM.out]
      simp
set_option maxHeartbeats 1000000 in
theorem call_rAhead (va vb : Value) (la lb : List (List UInt8)) (w : World) (ha : Sl RStr 1 w va la) (hb : Sl RStr 1 w vb lb) (na : la.length ≤ 1048577) (nb : lb.length ≤ 1048577) :
    Calls Tryz.prog 82 #[va, vb] w fun e w' => e = .returned (.bool (aheadB la lb)) ∧ Below w.heap.size w w' := by
  obtain ⟨aa, ba, oa, ca, rfl, haa, hca⟩ := ha
  obtain ⟨ab, bb, ob, cb, rfl, hab, hcb⟩ := hb
  obtain ⟨n, hn⟩ : ∃ n, la.length = n := ⟨_, rfl⟩
  obtain ⟨m, hm⟩ : ∃ n, lb.length = n := ⟨_, rfl⟩
  rw [hn] at na haa ⊢
  rw [hm] at nb hab ⊢
  go_enter Tryz.func82, Tryz.ntmps82
  go_wp2
  go_loopw [5] (fun i wr => ∃ (k : Nat), i = .int .i64 k ∧ k ≤ n ∧ k ≤ m ∧ la.take k = lb.take k ∧ Below w.heap.size w wr)
    (fun i _ => n - (RowKit.intOf i).toNat)
  case atStart => exact ⟨0, rfl, Nat.zero_le _, Nat.zero_le _, rfl, Below.refl _ _⟩
  case round =>
    obtain ⟨k, rfl, hkn, hkm, heq, hb⟩ := hrel
    have HB := Lib.hid hb
    have HE := Lib.hid heq
    have HN := Lib.hid hn
    have HM := Lib.hid hm
    clear heq
    by_cases hlt : k < n ∧ k < m
    · obtain ⟨h1, h2⟩ := hlt
      obtain ⟨x, hx⟩ : ∃ x, la[k]? = some x := ⟨_, List.getElem?_eq_getElem (by omega)⟩
      obtain ⟨y, hy⟩ : ∃ x, lb[k]? = some x := ⟨_, List.getElem?_eq_getElem (by omega)⟩
      have c1 := RStr.stays _ _ (keeps_below hb) _ _ _ (hca k x hx)
      have c2 := RStr.stays _ _ (keeps_below hb) _ _ _ (hcb k y hy)
      simp only [RStr, Nat.mul_one] at c1 c2
      have hmin : (k : Int) < min (n : Int) (m : Int) := by omega
      have k0 : (0 : Int) ≤ k := Int.natCast_nonneg _
      have k1 : (k : Int) < n := by omega
      have k2 : (k : Int) < m := by omega
      have ha' := haa (by omega)
      have hb' := hab (by omega)
      subst ha' hb'
      have HX := Lib.hid hx
      have HY := Lib.hid hy
      have ex := bs_toList x
      have ey := bs_toList y
      clear hca hcb hx hy hn hm haa hab
      clear hb
      go_wp2_with fail
      go_quiet (fail)
      have HBd : Hid (Below w.heap.size w (wr.drewN nq)) := Lib.hid ⟨HB.out.os, HB.out.tape, HB.out.output, HB.out.size, HB.out.block⟩
      replace c1 : (wr.drewN nq).cell? _ = _ := c1
      replace c2 : (wr.drewN nq).cell? _ = _ := c2
      generalize wr.drewN nq = wd at *
      by_cases hxy : x = y
      · have q : (!(x == y)) = false := by simpa using hxy
        have HXY := Lib.hid hxy
        rw [q]
        clear hxy q
        go_wp2
        go_roundw
        case rel => exact ⟨k + 1, by go_num, by omega, by omega, by rw [List.take_add_one, List.take_add_one, HX.out, HY.out, HE.out, HXY.out], HBd.out⟩
        case measure => simp [RowKit.intOf]; omega
      · have q : (!(x == y)) = true := by simpa using hxy
        have HXY := Lib.hid hxy
        rw [q]
        clear hxy q
        go_wp2_with fail
        go_quiet (fail)
        go_wp2
        go_ret
        exact ⟨by rw [aheadB_at HE.out HX.out HY.out HXY.out]; rfl, ⟨HBd.out.os, HBd.out.tape, HBd.out.output, HBd.out.size, HBd.out.block⟩⟩
    · have hk : (k : Int) < n → ¬ (k : Int) < m := by omega
      have hEnd : aheadB la lb = decide (la.length < lb.length) := aheadB_end HE.out (by have := HN.out; have := HM.out; omega) (by have := HN.out; omega) (by have := HM.out; omega)
      have HEd := Lib.hid hEnd
      clear hEnd hca hcb haa hab hn hm
      by_cases hkn2 : (k : Int) < n
      · have hkm2 := hk hkn2
        clear hk
        go_wp2
        go_ret
        refine ⟨?_, HB.out⟩
        rw [HEd.out, HN.out, HM.out]
        simp
      · clear hk
        go_wp2
        go_ret
        refine ⟨?_, HB.out⟩
        rw [HEd.out, HN.out, HM.out]
        simp
end Go.Proofs.YtlecpjfggoehdaaGreatDoor.Ar
