/- Ta Ship: the law's own small functions. Ship: the plain law of the reference's bytes of a file: pieces laid one by one are a page. Ship: the reference's bytes of a file, laid piece by piece. Ship: the reference's steps from a file to another, appended to a list. Ship: the reference's steps for a member that comes. Ship: the reference's steps are the plain plan. Ship: the law ShipPlans, walked. Ship: the law ShipPlans: what the program plans is what the document plans. -/
import Derived.Test.YtlecpjfggoehdaaGreatDoorSma
import Derived.Test.YtlecpjfggoehdaaGreatDoorArW
import Derived.Test.YtlecpjfggoehdaaGreatDoorSmc
import Derived.Deep.DeepCutAuto
import Derived.StillTailTactics
import Derived.BigRegion
/- Ship: the plain law: the document's plan and the program's are one on good lists. -/
set_option linter.unusedVariables false
set_option linter.unusedSimpArgs false
set_option maxRecDepth 100000
namespace Go.Proofs.YtlecpjfggoehdaaGreatDoor.Ar
open Go.RowKit Go.Sort Go.Lib Go.Proofs.YtlecpjfggoehdaaGreatDoor.Rs

/-- paths are unique -/
def LsU (l : List Mb) : Prop := ∀ (i j : Nat) (x y : Mb), i < j → l[i]? = some x → l[j]? = some y → x.path ≠ y.path
theorem good_paths {l : List Mb} (hg : goodB l = true) : LsU l := fun i j x y hij hx hy e => by
  have hall : OkUpto l l.length := fun k m hk hm => by
    have h := hg
    unfold goodB at h
    rw [Bool.and_eq_true] at h
    have := List.all_eq_true.1 h.2 k (by simpa using (List.getElem?_eq_some_iff.1 hm).1)
    rw [hm] at this
    simpa using this
  have hjl := (List.getElem?_eq_some_iff.1 hy).1
  obtain ⟨nx, hnx, _⟩ := ok_names (hall i x (by omega) hx)
  obtain ⟨ny, hny, _⟩ := ok_names (hall j y (by omega) hy)
  obtain ⟨d, rfl⟩ : ∃ d, j = i + d + 1 := ⟨j - i - 1, by omega⟩
  have h := ok_chain hall d i x y nx ny hjl hx hy hnx hny
  rw [e, hny] at hnx
  cases hnx
  rw [aheadB_irrefl] at h
  cases h
/-- the first member at a path; the empty one -/
def findF (l : List Mb) (p : List UInt8) : Mb := (l.find? fun x => decide (x.path = p)).getD emptyMb
/-- whether a member is kept by a list -/
def keptF (m : Mb) (l : List Mb) : Bool := decide ((findF l m.path).kind = m.kind) && decide ((findF l m.path).path = m.path) && decide ((findF l m.path).link = m.link)
theorem lastIdx_none {l : List Mb} {p : List UInt8} : ∀ {n : Nat}, lastIdx l p n = none → ∀ i, i < n → ∀ m, l[i]? = some m → m.path ≠ p
  | 0, _, i, hi, _, _ => by omega
  | n + 1, h, i, hi, m, hm => by
    rw [lastIdx] at h
    split at h
    · cases h
    · rename_i h1
      by_cases e : i = n
      · subst e
        rw [hm] at h1
        intro e2
        exact h1 (by rw [Option.map_some, e2])
      · exact lastIdx_none h i (by omega) m hm
theorem find_none {l : List Mb} {p : List UInt8} (h : lastIdx l p l.length = none) : findF l p = emptyMb := by
  have : l.find? (fun x => decide (x.path = p)) = none := by
    rw [List.find?_eq_none]
    intro x hx
    obtain ⟨i, hi, rfl⟩ := List.mem_iff_getElem.1 hx
    simpa using lastIdx_none h i hi _ (List.getElem?_eq_getElem hi)
  rw [findF, this]
  rfl
theorem find_some {l : List Mb} (hu : LsU l) {p : List UInt8} {i : Nat} {x : Mb} (h : lastIdx l p l.length = some i) (hx : l[i]? = some x) : findF l p = x := by
  obtain ⟨hi, m, hm, hp⟩ := lastIdx_some h
  rw [hx] at hm
  cases hm
  have : l.find? (fun y => decide (y.path = p)) = some x := by
    rw [List.find?_eq_some_iff_getElem]
    refine ⟨by simpa using hp, i, hi, ?_, fun j hj => ?_⟩
    · rw [List.getElem?_eq_getElem hi] at hx
      exact Option.some.inj hx
    · have := hu j i l[j] x hj (List.getElem?_eq_getElem (by omega)) hx
      simp
      rw [← hp]
      exact this
  rw [findF, this]
  rfl
/-- kept just where there is a twin, and then the twin is what is found -/
theorem kept_twin {l : List Mb} (hu : LsU l) (m : Mb) (hk : m.kind ≠ 0) : keptF m l = (twinF l m).isSome ∧ ∀ x, twinF l m = some x → findF l m.path = x := by
  cases h : lastIdx l m.path l.length with
  | none =>
    have h1 := find_none h
    refine ⟨?_, fun x hx => ?_⟩
    · rw [keptF, h1, twinF, h, decide_eq_false (fun e : emptyMb.kind = m.kind => hk e.symm)]
      rfl
    · rw [twinF, h] at hx
      cases hx
  | some i =>
    obtain ⟨hi, y, hy, hp⟩ := lastIdx_some h
    have h1 := find_some hu h hy
    have h2 : twinF l m = if y.kind = m.kind ∧ y.link = m.link then some y else none := by
      rw [twinF, h, Option.bind_some, hy, Option.bind_some]
    refine ⟨?_, fun x hx => ?_⟩
    · rw [keptF, h1, h2, hp]
      by_cases a : y.kind = m.kind
      · by_cases b : y.link = m.link
        · simp [a, b]
        · simp [a, b]
      · simp [a]
    · rw [h2] at hx
      split at hx
      · cases hx
        exact h1
      · cases hx
end Go.Proofs.YtlecpjfggoehdaaGreatDoor.Ar

set_option linter.unusedVariables false
set_option linter.unusedSimpArgs false
set_option maxRecDepth 100000
namespace Go.Proofs.YtlecpjfggoehdaaGreatDoor.Ar
open Go.RowKit Go.Sort Go.Lib Go.Proofs.YtlecpjfggoehdaaGreatDoor.Rs

set_option maxHeartbeats 1000000 in
theorem call_alike23 (va vb : Value) (l : List UInt8) (w : World) (ha : Sl RByte 1 w va l) (hb : Sl RByte 1 w vb l) (hl : l.length ≤ 100000000000000) :
    Calls Tryz.prog 9 #[va, vb] w fun e w' => e = .returned (.bool true) ∧ Below w.heap.size w w' := by
  obtain ⟨aa, ba, oa, ca, rfl, haa, hca⟩ := ha
  obtain ⟨ab, bb, ob, cb, rfl, hab, hcb⟩ := hb
  obtain ⟨n, hn⟩ : ∃ n, l.length = n := ⟨_, rfl⟩
  rw [hn] at hl haa hab ⊢
  have HCa := Lib.hid hca
  have HCb := Lib.hid hcb
  have HN := Lib.hid hn
  clear hca hcb hn
  go_enter Tryz.func9, Tryz.ntmps9
  go_wp2
  go_loopw [5] (fun i wr => ∃ (k : Nat), i = .int .i64 k ∧ k ≤ n ∧ Below w.heap.size w wr)
    (fun i _ => n - (RowKit.intOf i).toNat)
  case atStart => exact ⟨0, rfl, Nat.zero_le _, Below.refl _ _⟩
  case round =>
    obtain ⟨k, rfl, hkn, hb⟩ := hrel
    have HB := Lib.hid hb
    by_cases hlt : k < n
    · obtain ⟨x, hx⟩ : ∃ x, l[k]? = some x := ⟨_, List.getElem?_eq_getElem (by have := HN.out; omega)⟩
      have c1 := RByte.stays _ _ (keeps_below hb) _ _ _ (HCa.out k x hx)
      have c2 := RByte.stays _ _ (keeps_below hb) _ _ _ (HCb.out k x hx)
      simp only [RByte, byteV, Nat.mul_one] at c1 c2
      have k0 : (0 : Int) ≤ k := Int.natCast_nonneg _
      have k1 : (k : Int) < n := by omega
      have ha' := haa (by omega)
      have hb' := hab (by omega)
      subst ha' hb'
      clear hx haa hab hb
      go_wp2_with fail
      go_quiet (fail)
      have HBd := Lib.hid (Below.drewN' HB.out nq)
      clear c1 c2
      generalize wr.drewN nq = wd at *
      go_wp2
      go_roundw
      case rel => exact ⟨k + 1, by go_num, by omega, HBd.out⟩
      case measure => simp [RowKit.intOf]; omega
    · obtain rfl : k = n := by omega
      clear haa hab hb
      go_wp2
      go_ret
      exact ⟨rfl, HB.out⟩

theorem call_copyBytes (vb : Value) (b : List UInt8) (w : World) (hb : Sl RByte 1 w vb b) (hnil : NilOk vb) (hl : b.length ≤ 10000000000000) :
    Calls Tryz.prog 6 #[vb] w fun e w' => ∃ v, e = .returned v ∧ Own w.heap.size w' v b ∧ Below w.heap.size w w' := by
  have HB := Lib.hid hb
  have HNl := Lib.hid hnil
  obtain ⟨av, bv, ov, cv, rfl, hav, hcv⟩ := hb
  obtain ⟨n, hn⟩ : ∃ n, b.length = n := ⟨_, rfl⟩
  rw [hn] at HB HNl hl hav ⊢
  obtain ⟨i0, hi, hz0, hz1, hz2⟩ := info_parts info5
  have HSr : Hid (∃ ad c, Value.slice av n cv = .slice ad n c ∧ (0 < n → ∃ g off, ad = some ⟨g, off, none⟩ ∧ ∀ j u, (b.map byteV)[j]? = some u → w.cell? ⟨g, off + j, none⟩ = some u)) := Lib.hid ⟨av, cv, rfl, fun h0 => ⟨bv, ov, hav h0, fun j u hj => by
    rw [List.getElem?_map, Option.map_eq_some_iff] at hj
    obtain ⟨z, hz, rfl⟩ := hj
    have := hcv j z hz
    rw [Nat.mul_one] at this
    exact this⟩⟩
  have HN := Lib.hid hn
  clear hcv hav hnil
  go_enter Tryz.func6, Tryz.ntmps6
  go_wp2_with (at_builtin; refine wpl_many 22 5 i0 _ 1 1 Tryz.underlying22 hi hz0 hz1 hz2 rfl (by decide) (n := 0) (xs := []) (v := .slice none 0 0) (base := w.heap.size) (World.ownsRow_nil _ _ _ _) (by rfl) _ _ (by rfl) (by rfl) (.slice av n cv) (by rfl) (b.map byteV) n (by rw [List.length_map, Nat.mul_one, HN.out]) HNl.out HSr.out (one_bytes _) (Nat.le_refl _) (by omega) (by decide) ?_; intro v9 w9 h1 h2 h3; have HV9 := Lib.hid h1; have HG9 := Lib.hid h2; clear h1 h2 h3)
  obtain ⟨a9, n9, c9, rfl⟩ := own_isSl HV9.out
  go_ret
  refine ⟨_, rfl, ?_, (Below.refl _ _).grown HG9.out (Nat.le_refl _) (fun r e => by cases e)⟩
  have h := HV9.out
  rw [Nat.zero_add, List.nil_append, ← HN.out] at h
  exact h
theorem mbV_empty (w : World) : MbV w emptyMb (.slice none 0 0) := ⟨⟨none, 0, 0, 0, rfl, fun h => (by cases h), fun j x h => (by cases h)⟩, ⟨by decide, by decide⟩, ⟨by decide, by decide⟩⟩
/-- the first member at a path, the empty one if there is none -/
theorem call_find (w0 : World) (v : Value) (l : List Mb) (p : List UInt8) (w : World) (hs : Sl RMb 5 w0 v l) (hk0 : Keeps w0 w) (hl : l.length ≤ 1048576) :
    Calls Tryz.prog 30 #[v, .string (bs p)] w fun e w' => (∃ vp, e = .returned (.agg (mbCells (findF l p) vp).toArray) ∧ MbV w0 (findF l p) vp) ∧ Below w.heap.size w w' := by
  have HK0 := Lib.hid hk0
  clear hk0
  have HS := Lib.hid hs
  obtain ⟨aa, ba, oa, ca, rfl, haa, hca⟩ := hs
  obtain ⟨n, hn⟩ : ∃ n, l.length = n := ⟨_, rfl⟩
  rw [hn] at hl haa HS ⊢
  have HCa := Lib.hid hca
  have HN := Lib.hid hn
  clear hca hn
  go_enter Tryz.func30, Tryz.ntmps30
  go_wp2
  go_loopw [5] (fun i wr => ∃ (k : Nat), i = .int .i64 k ∧ k ≤ n ∧ (∀ j, j < k → ∀ m, l[j]? = some m → m.path ≠ p) ∧ Row wr w.heap.size 58 [.int .i64 0, .string ⟨#[]⟩, .string ⟨#[]⟩, .int .i64 0, .slice none 0 0] ∧ Below w.heap.size w wr)
    (fun i _ => n - (RowKit.intOf i).toNat)
  case atStart => exact ⟨0, rfl, Nat.zero_le _, fun j hj => (by omega), Row.new w 58 _, below_alloc1 _ _⟩
  case round =>
    obtain ⟨k, rfl, hkn, hno, hr, hb⟩ := hrel
    have HB := Lib.hid hb
    have HR := Lib.hid hr
    have HNo := Lib.hid hno
    clear hno
    have z0 := hr.cell 0
    have z1 := hr.cell 1
    have z2 := hr.cell 2
    have z3 := hr.cell 3
    have z4 := hr.cell 4
    have y0 := hr.free 0
    have y1 := hr.free 1
    have y2 := hr.free 2
    have y3 := hr.free 3
    have y4 := hr.free 4
    simp only [List.getElem?_cons_zero, List.getElem?_cons_succ] at z0 z1 z2 z3 z4
    by_cases hlt : k < n
    · obtain ⟨m, hm⟩ : ∃ x, l[k]? = some x := ⟨_, List.getElem?_eq_getElem (by have := HN.out; omega)⟩
      obtain ⟨vp, c0, c1, c2, c3, c4, hxv⟩ := RMb.stays _ _ (HK0.out.trans (keeps_below hb)) _ _ _ (HCa.out k m hm)
      obtain ⟨vp', _, _, _, _, d4, hxv0⟩ := HCa.out k m hm
      have hvv : vp' = vp := by
        have := (HK0.out.trans (keeps_below hb)) _ _ _ d4
        rw [this] at c4
        cases c4
        rfl
      subst hvv
      obtain ⟨ap, np, cp, rfl⟩ : ∃ a m' c, vp' = .slice a m' c := by obtain ⟨a, b, o, c, h, _⟩ := hxv.pieces; exact ⟨_, _, _, h⟩
      have HM := Lib.hid hm
      have HXv := Lib.hid hxv0
      have k0 : (0 : Int) ≤ k := Int.natCast_nonneg _
      have k1 : (k : Int) < n := by omega
      have ha' := haa (by omega)
      subst ha'
      by_cases he : m.path = p
      · have hq : ((bs m.path).toList == (bs p).toList) = true := by rw [he]; simp
        have HFm : Hid (findF l p = m) := Lib.hid (by
          have : l.find? (fun y => decide (y.path = p)) = some m := by
            rw [List.find?_eq_some_iff_getElem]
            have hkl : k < l.length := by have := HN.out; omega
            refine ⟨by simpa using he, k, hkl, ?_, fun j hj => ?_⟩
            · rw [List.getElem?_eq_getElem hkl] at hm
              exact Option.some.inj hm
            · simpa using HNo.out j hj _ (List.getElem?_eq_getElem (by omega))
          rw [findF, this]
          rfl)
        clear hm hxv hxv0 hb hr d4
        go_wp2
        refine bodyPost_agg (((((HR.out.set 0 _).set 1 _).set 2 _).set 3 _).set 4 _) 4 58 rfl _ rfl rfl Tryz.underlying58 rfl (by kernel_rfl) rfl ?_
        exact ⟨⟨.slice ap np cp, by rw [HFm.out]; subst he; rfl, by rw [HFm.out]; exact HXv.out⟩, (((((HB.out.setCell (p := ⟨w.heap.size, 0, none⟩) (Nat.le_refl _) _).setCell (p := ⟨w.heap.size, 1, none⟩) (Nat.le_refl _) _).setCell (p := ⟨w.heap.size, 2, none⟩) (Nat.le_refl _) _).setCell (p := ⟨w.heap.size, 3, none⟩) (Nat.le_refl _) _).setCell (p := ⟨w.heap.size, 4, none⟩) (Nat.le_refl _) _)⟩
      · have hq : ((bs m.path).toList == (bs p).toList) = false := by rw [bs_toList, bs_toList]; simpa using he
        have HE := Lib.hid he
        clear hm hxv hxv0 hb hr d4 z0 z1 z2 z3 z4 y0 y1 y2 y3 y4
        go_wp2
        go_roundw
        case rel => exact ⟨k + 1, by go_num, by omega, fun j hj x hx => (by
          by_cases e : j = k
          · subst e
            rw [HM.out] at hx
            cases hx
            exact HE.out
          · exact HNo.out j (by omega) x hx), HR.out, HB.out⟩
        case measure => simp [RowKit.intOf]; omega
    · obtain rfl : k = n := by omega
      clear haa hb hr
      have HFm : Hid (findF l p = emptyMb) := Lib.hid (by
        have : l.find? (fun y => decide (y.path = p)) = none := by
          rw [List.find?_eq_none]
          intro x hx
          obtain ⟨i, hi, rfl⟩ := List.mem_iff_getElem.1 hx
          simpa using HNo.out i (by have := HN.out; omega) _ (List.getElem?_eq_getElem hi)
        rw [findF, this]
        rfl)
      go_wp2
      refine bodyPost_agg (((((HR.out.set 0 _).set 1 _).set 2 _).set 3 _).set 4 _) 4 58 rfl _ rfl rfl Tryz.underlying58 rfl (by kernel_rfl) rfl ?_
      exact ⟨⟨.slice none 0 0, by rw [HFm.out]; rfl, by rw [HFm.out]; exact mbV_empty w0⟩, (((((HB.out.setCell (p := ⟨w.heap.size, 0, none⟩) (Nat.le_refl _) _).setCell (p := ⟨w.heap.size, 1, none⟩) (Nat.le_refl _) _).setCell (p := ⟨w.heap.size, 2, none⟩) (Nat.le_refl _) _).setCell (p := ⟨w.heap.size, 3, none⟩) (Nat.le_refl _) _).setCell (p := ⟨w.heap.size, 4, none⟩) (Nat.le_refl _) _)⟩
/-- whether a member is kept -/
theorem call_kept (m : Mb) (vm v : Value) (l : List Mb) (w : World) (hvm : IsSl vm) (hs : Sl RMb 5 w v l) (hl : l.length ≤ 1048576) :
    Calls Tryz.prog 28 #[.agg (mbCells m vm).toArray, v] w fun e w' => e = .returned (.bool (keptF m l)) ∧ Below w.heap.size w w' := by
  obtain ⟨am, nm, cm, rfl⟩ := hvm
  have HS := Lib.hid hs
  obtain ⟨o, ho⟩ : ∃ o, findF l m.path = o := ⟨_, rfl⟩
  have HO := Lib.hid ho
  simp only [mbCells]
  clear hs ho
  have hk : keptF m l = (decide (o.kind = m.kind) && decide (o.path = m.path) && decide (o.link = m.link)) := by rw [keptF, HO.out]
  have HKp := Lib.hid hk
  clear hk
  have hb1 : ∀ a b : List UInt8, ((bs a).toList == (bs b).toList) = decide (a = b) := fun a b => by rw [bs_toList, bs_toList]; exact Bool.eq_iff_iff.2 (by simp)
  have q2 := hb1 o.path m.path
  have q3 := hb1 o.link m.link
  clear hb1
  by_cases h1 : o.kind = m.kind <;> by_cases h2 : o.path = m.path <;> by_cases h3 : o.link = m.link
  all_goals
    have q1 : (o.kind == m.kind) = decide (o.kind = m.kind) := Bool.eq_iff_iff.2 (by simp)
    first | rw [decide_eq_true h1] at q1 | rw [decide_eq_false h1] at q1
    have H1 := Lib.hid h1
    have H2 := Lib.hid h2
    have H3 := Lib.hid h3
    first | rw [decide_eq_true h2] at q2 | rw [decide_eq_false h2] at q2
    first | rw [decide_eq_true h3] at q3 | rw [decide_eq_false h3] at q3
    clear h1 h2 h3
    go_enter Tryz.func28, Tryz.ntmps28
    go_wp2_with (go_at_call 30; refine (call_find _ v l m.path _ (HS.out.keep RMb.stays (keeps_below (below_alloc1 _ _))) (Keeps.refl _) hl).mono ?_; rintro e w2 ⟨⟨vp, rfl, hv⟩, hb⟩; have HB := Lib.hid (below_then (below_alloc1 w _) (below_alloc1 w _).size hb); have HR := Lib.hid ((Row.new w 58 [.int .i64 m.kind, .string (bs m.path), .string (bs m.link), .int .i64 m.size, .slice am nm cm]).below hb (Row.new _ _ _).lt); rw [HO.out] at hv ⊢; obtain ⟨ap, np, cp, rfl⟩ : ∃ a m' c, vp = .slice a m' c := (by obtain ⟨a, b, o', c, h, _⟩ := hv.pieces; exact ⟨_, _, _, h⟩); simp only [mbCells]; have e0 := (show _ = some (Value.int .i64 m.kind) from (HR.out.alloc (.cells #[.int .i64 o.kind, .string (bs o.path), .string (bs o.link), .int .i64 o.size, .slice ap np cp] 58)).cell 0); have e1 := (show _ = some (Value.string (bs m.path)) from (HR.out.alloc (.cells #[.int .i64 o.kind, .string (bs o.path), .string (bs o.link), .int .i64 o.size, .slice ap np cp] 58)).cell 1); have e2 := (show _ = some (Value.string (bs m.link)) from (HR.out.alloc (.cells #[.int .i64 o.kind, .string (bs o.path), .string (bs o.link), .int .i64 o.size, .slice ap np cp] 58)).cell 2); clear hv hb)
    go_wp2
    go_ret
    refine ⟨?_, HB.out.trans ((below_alloc1 w2 _).mono HB.out.size)⟩
    rw [HKp.out]
    simp [H1.out, H2.out, H3.out]
end Go.Proofs.YtlecpjfggoehdaaGreatDoor.Ar

set_option linter.unusedVariables false
set_option linter.unusedSimpArgs false
set_option maxRecDepth 100000
namespace Go.Proofs.YtlecpjfggoehdaaGreatDoor.Ar
open Go.RowKit Go.Sort Go.Lib Go.Proofs.YtlecpjfggoehdaaGreatDoor.Rs

/-- a file whose pieces are pages -/
structure FileA (m : Mb) : Prop extends FileOk m where
  al : ∀ p ∈ m.pieces, p.off % 512 = 0 ∧ p.data.length ≤ 512
theorem FileA.empty : FileA emptyMb := ⟨FileOk.empty, (fun p hp => by simp [emptyMb] at hp)⟩
/-- a page out of a list of pieces -/
def pgP (l : List Pc) (off : Int) (n : Nat) : List UInt8 := match l.find? (fun p => decide (p.off = off)) with
  | some p => p.data.take n ++ List.replicate (n - p.data.length) 0
  | none => List.replicate n 0
theorem pageF_pgP (m : Mb) (off : Int) (n : Nat) : pageF m off n = pgP m.pieces off n := rfl
theorem pgP_nil (off : Int) (n : Nat) : pgP [] off n = List.replicate n 0 := rfl
theorem pgP_ne (l : List Pc) (p : Pc) (off : Int) (n : Nat) (h : p.off ≠ off) : pgP (l ++ [p]) off n = pgP l off n := by
  unfold pgP
  rw [List.find?_append]
  cases hl : l.find? (fun p => decide (p.off = off)) with
  | some q => rfl
  | none => simp [h]
theorem pgP_none (l : List Pc) (off : Int) (n : Nat) (h : ∀ q ∈ l, q.off ≠ off) : pgP l off n = List.replicate n 0 := by
  unfold pgP
  have : l.find? (fun p => decide (p.off = off)) = none := by
    rw [List.find?_eq_none]
    intro q hq
    simpa using h q hq
  rw [this]
/-- the first k bytes of a piece laid at the beginning of n bytes -/
def partF (d : List UInt8) (k n : Nat) : List UInt8 := d.take (min k n) ++ List.replicate (n - min k n) 0
theorem partF_zero (d : List UInt8) (n : Nat) : partF d 0 n = List.replicate n 0 := by simp [partF]
theorem partF_len (d : List UInt8) (k n : Nat) (hk : k ≤ d.length) : (partF d k n).length = n := by
  simp only [partF, List.length_append, List.length_take, List.length_replicate]; omega
theorem partF_in (d : List UInt8) (k n : Nat) (x : UInt8) (hx : d[k]? = some x) (hn : k < n) : partF d (k + 1) n = (partF d k n).set k x := by
  have hk := (List.getElem?_eq_some_iff.1 hx).1
  apply List.ext_getElem?
  intro i
  rw [List.getElem?_set, partF_len _ _ _ (by omega)]
  have e1 : min (k + 1) n = k + 1 := by omega
  have e2 : min k n = k := by omega
  by_cases h : k = i
  · subst h
    rw [if_pos rfl, if_pos hn, partF, e1, List.getElem?_append_left (by rw [List.length_take]; omega), List.getElem?_take, if_pos (by omega), hx]
  · rw [if_neg h, partF, partF, e1, e2]
    by_cases hi : i < k
    · rw [List.getElem?_append_left (by rw [List.length_take]; omega), List.getElem?_append_left (by rw [List.length_take]; omega), List.getElem?_take, List.getElem?_take, if_pos (by omega), if_pos hi]
    · rw [List.getElem?_append_right (by rw [List.length_take]; omega), List.getElem?_append_right (by rw [List.length_take]; omega), List.length_take, List.length_take, List.getElem?_replicate, List.getElem?_replicate]
      by_cases h2 : i < n
      · rw [if_pos (by omega), if_pos (by omega)]
      · rw [if_neg (by omega), if_neg (by omega)]
theorem partF_out (d : List UInt8) (k n : Nat) (hn : n ≤ k) : partF d (k + 1) n = partF d k n := by
  have e1 : min (k + 1) n = n := by omega
  have e2 : min k n = n := by omega
  rw [partF, partF, e1, e2]
theorem pgP_eq (l : List Pc) (p : Pc) (n : Nat) (h : ∀ q ∈ l, q.off ≠ p.off) : pgP (l ++ [p]) p.off n = partF p.data p.data.length n := by
  unfold pgP
  have : l.find? (fun q => decide (q.off = p.off)) = none := by
    rw [List.find?_eq_none]
    intro q hq
    simpa using h q hq
  rw [List.find?_append, this]
  simp only [Option.none_or, List.find?_cons, decide_true]
  rw [partF]
  by_cases h2 : p.data.length ≤ n
  · rw [Nat.min_eq_left h2, List.take_of_length_le (by omega), List.take_of_length_le (by omega)]
  · rw [Nat.min_eq_right (by omega), show n - p.data.length = 0 by omega, Nat.sub_self]
/-- the pieces ahead of one have other places -/
theorem FileOk.ahead {m : Mb} (h : FileOk m) {i : Nat} {p : Pc} (hp : m.pieces[i]? = some p) : ∀ q ∈ m.pieces.take i, q.off ≠ p.off := fun q hq e => by
  obtain ⟨j, hj, rfl⟩ := List.mem_iff_getElem.1 hq
  rw [List.length_take] at hj
  have h1 : m.pieces[j]? = some (m.pieces.take i)[j] := by rw [List.getElem_take]; exact List.getElem?_eq_getElem (by omega)
  have := h.rise j i _ p (by omega) h1 hp
  omega
/-- a piece whose place is another reaches none of a page's bytes -/
theorem FileA.out {m : Mb} (h : FileA m) {p : Pc} (hp : p ∈ m.pieces) {a : Nat} (ha : (p.off : Int) ≠ 512 * a) {n k : Nat} (hn : n ≤ 512) (hk : k < p.data.length) : ¬ ((512 * a : Int) ≤ p.off + k ∧ p.off + k < 512 * a + n) := by
  have h1 := h.al p hp
  have h2 := h.off p hp
  omega
end Go.Proofs.YtlecpjfggoehdaaGreatDoor.Ar

set_option linter.unusedVariables false
set_option linter.unusedSimpArgs false
set_option maxRecDepth 100000
namespace Go.Proofs.YtlecpjfggoehdaaGreatDoor.Ar
open Go.RowKit Go.Sort Go.Lib Go.Proofs.YtlecpjfggoehdaaGreatDoor.Rs

set_option maxHeartbeats 4000000 in
theorem call_bytesOf (m : Mb) (vp : Value) (o a n : Nat) (w : World) (hv : Sl RPc 2 w vp m.pieces) (hf : FileA m) (ho : o = 512 * a) (ho2 : o ≤ 1000000) (hn : n ≤ 512) :
    Calls Tryz.prog 51 #[.agg (mbCells m vp).toArray, .int .i64 o, .int .i64 n] w fun e w' => ∃ B, e = .returned (.slice (some ⟨B, 0, none⟩) n n) ∧ Row w' B 5 ((pageF m o n).map byteV) ∧ w.heap.size ≤ B ∧ Below w.heap.size w w' := by
  obtain ⟨ap, bp, op, cp, rfl, hap, hcp⟩ := hv
  have HF := Lib.hid hf
  have HCp := Lib.hid hcp
  have HO := Lib.hid ho
  obtain ⟨i0, hi, hz0, hz1, hz2⟩ := info_parts info5'
  have hmk : ∀ u : World, (Instr.makeSlice 22 (.int .i64 (n : Int)) (.int .i64 (n : Int))).run Tryz.prog u =
      .ok (.slice (some ⟨u.heap.size, 0, none⟩) n n) (u.alloc (.cells (List.replicate n (.int .u8 0)).toArray 5)) := fun u => by
    have h := run_make (P := Tryz.prog) u 22 5 i0 (.int .u8 0) Tryz.underlying22 hi hz0 .i64 .i64 (n : Int) (n : Int) (by omega) (Int.le_refl _) (by rw [hz2]; omega) (by omega)
    simpa [hz1, Value.cells, madeOne] using h
  obtain ⟨np, hnp⟩ : ∃ n, m.pieces.length = n := ⟨_, rfl⟩
  have hpl : np ≤ 1048576 := by rw [← hnp]; exact hf.pcs
  have HR0 := Lib.hid (Row.new (w.alloc (.cells (mbCells m (.slice ap m.pieces.length cp)).toArray 58)) 5 (List.replicate n (.int .u8 0)))
  rw [alloc_size] at HR0
  have HR1 := Lib.hid ((Row.new w 58 (mbCells m (.slice ap m.pieces.length cp))).alloc (.cells (List.replicate n (.int .u8 0)).toArray 5))
  have HB0 := Lib.hid (below_alloc2 w (.cells (mbCells m (.slice ap m.pieces.length cp)).toArray 58) (.cells (List.replicate n (.int .u8 0)).toArray 5))
  have HN := Lib.hid hnp
  simp only [mbCells]
  simp only [mbCells] at HR0 HR1 HB0
  rw [hnp] at HR0 HR1 HB0 hap ⊢
  obtain ⟨mpath, hbp⟩ : ∃ x, bs m.path = x := ⟨_, rfl⟩
  obtain ⟨mlink, hbl⟩ : ∃ x, bs m.link = x := ⟨_, rfl⟩
  rw [hbp, hbl] at HR0 HR1 HB0 ⊢
  clear hf hcp hnp hbp hbl hi hz0 hz1 hz2 ho
  go_enter Tryz.func51, Tryz.ntmps51
  go_wp2
  clear hmk
  go_loopw [8] (fun i wr => ∃ (k : Nat), i = .int .i64 k ∧ k ≤ np ∧ Row wr w.heap.size 58 [.int .i64 m.kind, .string mpath, .string mlink, .int .i64 m.size, .slice ap np cp] ∧ Row wr (w.heap.size + 1) 5 ((pgP (m.pieces.take k) o n).map byteV) ∧ Below w.heap.size w wr)
    (fun i _ => np - (RowKit.intOf i).toNat)
  case atStart => exact ⟨0, rfl, Nat.zero_le _, HR1.out, by rw [List.take_zero, pgP_nil, List.map_replicate]; exact HR0.out, HB0.out⟩
  case round =>
    obtain ⟨k, rfl, hkn, hr1, hr0, hb⟩ := hrel
    have Q1 := Lib.hid hr1
    have Q0 := Lib.hid hr0
    have HB := Lib.hid hb
    have d4 := (show wr.cell? ⟨w.heap.size, 4, none⟩ = some (.slice ap np cp) from hr1.cell 4)
    by_cases hlt : k < np
    · obtain ⟨p, hx⟩ : ∃ x, m.pieces[k]? = some x := ⟨_, List.getElem?_eq_getElem (by have := HN.out; omega)⟩
      obtain ⟨p0, p1, _⟩ := RPc.stays _ _ (keeps_below hb) _ _ _ (HCp.out k p hx)
      have hmem := List.mem_of_getElem? hx
      have hoff := HF.out.off p hmem
      have hal := HF.out.al p hmem
      obtain ⟨po, hpo⟩ : ∃ z : Nat, p.off = z := ⟨p.off.toNat, by omega⟩
      obtain ⟨dl, hdl⟩ : ∃ z, p.data.length = z := ⟨_, rfl⟩
      obtain ⟨ds, hds⟩ : ∃ z, bs p.data = z := ⟨_, rfl⟩
      have hdz : ds.size = dl := by rw [← hds, ← hdl, bs_size]
      rw [hpo] at p0 hoff
      rw [hds] at p1
      rw [hdl] at hal
      have HX := Lib.hid hx
      have HPo := Lib.hid hpo
      have HDl := Lib.hid hdl
      have HDs := Lib.hid hds
      have HMem := Lib.hid hmem
      have k0 : (0 : Int) ≤ k := Int.natCast_nonneg _
      have k1 : (k : Int) < np := by omega
      have ha' := hap (by omega)
      subst ha'
      have HTk : Hid (m.pieces.take (k + 1) = m.pieces.take k ++ [p]) := Lib.hid (by rw [List.take_add_one, hx]; rfl)
      have RN := Lib.hid (Row.new wr 62 [.int .i64 po, .string ds])
      have QA1 := Lib.hid (Q1.out.alloc (.cells #[.int .i64 po, .string ds] 62))
      have QA0 := Lib.hid (Q0.out.alloc (.cells #[.int .i64 po, .string ds] 62))
      have HBa := Lib.hid (hb.alloc hb.size (.cells #[.int .i64 po, .string ds] 62))
      have hpo2 : po ≤ 10000000 := by omega
      have hdl2 : dl ≤ 512 := hal.2
      clear hx hr1 hr0 hb hpo hdl hds hmem hoff hal hap
      go_wp2
      clear p0 p1 d4
      obtain ⟨wo, rfl⟩ : ∃ x, x = wr := ⟨_, rfl⟩
      by_cases heq : po = o
      · subst heq
        have hah : ∀ q ∈ m.pieces.take k, q.off ≠ p.off := HF.out.toFileOk.ahead HX.out
        have e0 : pgP (m.pieces.take k) po n = List.replicate n 0 := pgP_none _ _ _ (fun q hq => by have := hah q hq; rw [HPo.out] at this; exact this)
        have e1 : pgP (m.pieces.take (k + 1)) po n = partF p.data dl n := by rw [HTk.out, ← HPo.out, pgP_eq _ _ _ hah, HDl.out]
        have E1 := Lib.hid e1
        rw [e0, ← partF_zero p.data n] at QA0
        clear e0 e1 hah
        go_loopw [10] (fun jv wr => ∃ j : Nat, jv = .int .i64 j ∧ j ≤ dl ∧ Row wr wo.heap.size 62 [.int .i64 po, .string ds] ∧ Row wr w.heap.size 58 [.int .i64 m.kind, .string mpath, .string mlink, .int .i64 m.size, .slice (some ⟨bp, op, none⟩) np cp] ∧ Row wr (w.heap.size + 1) 5 ((partF p.data j n).map byteV) ∧ Below w.heap.size w wr)
          (fun jv _ => dl - (RowKit.intOf jv).toNat)
        case atStart => exact ⟨0, rfl, Nat.zero_le _, RN.out, QA1.out, QA0.out, HBa.out⟩
        case round =>
          obtain ⟨j, rfl, hjl, q2, q1, q0, hbq⟩ := hrel
          have c0 := (show wr.cell? ⟨wo.heap.size, 0, none⟩ = some (.int .i64 po) from q2.cell 0)
          have c1 := (show wr.cell? ⟨wo.heap.size, 1, none⟩ = some (.string ds) from q2.cell 1)
          have T2 := Lib.hid q2
          have T1 := Lib.hid q1
          have T0 := Lib.hid q0
          have HBq := Lib.hid hbq
          clear q2 q1 q0 hbq
          by_cases hj : j < dl
          · obtain ⟨x, hx⟩ : ∃ x, p.data[j]? = some x := ⟨_, List.getElem?_eq_getElem (by have := HDl.out; omega)⟩
            have j0 : (0 : Int) ≤ j := Int.natCast_nonneg _
            have j1 : (j : Int) < dl := by omega
            have g1 : (po : Int) ≤ (po : Int) + j := by omega
            by_cases hjn : j < n
            · have g2 : (po : Int) + j < (po : Int) + n := by omega
              have g3 : (po : Int) + j - po = j := by omega
              have hp1 := Lib.hid (partF_in p.data j n x hx hjn)
              have HXj := Lib.hid hx
              clear hx
              obtain ⟨y, hy⟩ : ∃ y, (partF p.data j n)[j]? = some y := ⟨_, List.getElem?_eq_getElem (by rw [partF_len _ _ _ (by rw [HDl.out]; omega)]; exact hjn)⟩
              have f0 : wr.cell? ⟨w.heap.size + 1, j, none⟩ = some (byteV y) := by rw [T0.out.cell, List.getElem?_map, hy]; rfl
              have f1 := T0.out.free j
              have DX : Hid (∀ h : j < ds.size, Value.int IntKind.u8 ((ds[j]'h).toNat : Int) = byteV x) := Lib.hid (fun h => by
                have e : (ds[j]'h) = x := by
                  have h2 := HDs.out
                  subst h2
                  have h3 := HXj.out
                  obtain ⟨h4, h5⟩ := List.getElem?_eq_some_iff.1 h3
                  rw [← h5]
                  rfl
                rw [e]; rfl)
              have KEY : Hid (∀ v, v = byteV x → Row (wr.setCell ⟨w.heap.size + 1, j, none⟩ v).drew wo.heap.size 62 [.int .i64 po, .string ds] ∧ Row (wr.setCell ⟨w.heap.size + 1, j, none⟩ v).drew w.heap.size 58 [.int .i64 m.kind, .string mpath, .string mlink, .int .i64 m.size, .slice (some ⟨bp, op, none⟩) np cp] ∧
                  Row (wr.setCell ⟨w.heap.size + 1, j, none⟩ v).drew (w.heap.size + 1) 5 ((partF p.data (j + 1) n).map byteV) ∧ Below w.heap.size w (wr.setCell ⟨w.heap.size + 1, j, none⟩ v).drew) := Lib.hid (fun v hv => by
                subst hv
                refine ⟨(T2.out.other (a := ⟨w.heap.size + 1, j, none⟩) (row_apart T2.out T0.out (by decide)) _).drew, (T1.out.other (a := ⟨w.heap.size + 1, j, none⟩) (by show w.heap.size ≠ w.heap.size + 1; omega) _).drew, ?_, (HBq.out.setCell (p := ⟨w.heap.size + 1, j, none⟩) (Nat.le_succ _) _).drew⟩
                have h := (T0.out.set j (byteV x)).drew
                rw [hp1.out, List.map_set]
                exact h)
              clear hy
              go_wp2_with fail
              go_region
              all_goals
                go_wp2
                go_roundw
                case rel => exact ⟨j + 1, by go_num, by omega, KEY.out _ (DX.out _)⟩
                case measure => simp [RowKit.intOf]; omega
            · have g2 : ¬ (po : Int) + j < (po : Int) + n := by omega
              have hp1 := Lib.hid (partF_out p.data j n (by omega))
              clear hx
              go_wp2
              go_roundw
              case rel => exact ⟨j + 1, by go_num, by omega, T2.out, T1.out, by rw [hp1.out]; exact T0.out, HBq.out⟩
              case measure => simp [RowKit.intOf]; omega
          · obtain rfl : j = dl := by omega
            go_wp2
            go_roundw
            case rel => exact ⟨k + 1, by go_num, by omega, T1.out, by rw [E1.out]; exact T0.out, HBq.out⟩
            case measure => simp [RowKit.intOf]; omega
      · have hno : ∀ j, j < dl → ¬ ((o : Int) ≤ (po : Int) + j ∧ (po : Int) + j < (o : Int) + n) := fun j hj h => by
          have := HF.out.out HMem.out (a := a) (n := n) (k := j) (by rw [HPo.out]; have := HO.out; omega) hn (by rw [HDl.out]; exact hj)
          apply this
          rw [HPo.out]
          have := HO.out
          omega
        have e1 : pgP (m.pieces.take (k + 1)) o n = pgP (m.pieces.take k) o n := by rw [HTk.out, pgP_ne _ _ _ _ (by rw [HPo.out]; omega)]
        have E1 := Lib.hid e1
        have HNo := Lib.hid hno
        clear e1 hno
        go_loopw [10] (fun jv wr => ∃ j : Nat, jv = .int .i64 j ∧ j ≤ dl ∧ Row wr wo.heap.size 62 [.int .i64 po, .string ds] ∧ Row wr w.heap.size 58 [.int .i64 m.kind, .string mpath, .string mlink, .int .i64 m.size, .slice (some ⟨bp, op, none⟩) np cp] ∧ Row wr (w.heap.size + 1) 5 ((pgP (m.pieces.take k) o n).map byteV) ∧ Below w.heap.size w wr)
          (fun jv _ => dl - (RowKit.intOf jv).toNat)
        case atStart => exact ⟨0, rfl, Nat.zero_le _, RN.out, QA1.out, QA0.out, HBa.out⟩
        case round =>
          obtain ⟨j, rfl, hjl, q2, q1, q0, hbq⟩ := hrel
          have c0 := (show wr.cell? ⟨wo.heap.size, 0, none⟩ = some (.int .i64 po) from q2.cell 0)
          have c1 := (show wr.cell? ⟨wo.heap.size, 1, none⟩ = some (.string ds) from q2.cell 1)
          have T2 := Lib.hid q2
          have T1 := Lib.hid q1
          have T0 := Lib.hid q0
          have HBq := Lib.hid hbq
          clear q2 q1 q0 hbq
          by_cases hj : j < dl
          · have j1 : (j : Int) < dl := by omega
            have hn1 := HNo.out j hj
            by_cases hge : (o : Int) ≤ (po : Int) + j
            · have g2 : ¬ (po : Int) + j < (o : Int) + n := fun h => hn1 ⟨hge, h⟩
              clear hn1
              go_wp2
              go_roundw
              case rel => exact ⟨j + 1, by go_num, by omega, T2.out, T1.out, T0.out, HBq.out⟩
              case measure => simp [RowKit.intOf]; omega
            · clear hn1
              go_wp2
              go_roundw
              case rel => exact ⟨j + 1, by go_num, by omega, T2.out, T1.out, T0.out, HBq.out⟩
              case measure => simp [RowKit.intOf]; omega
          · obtain rfl : j = dl := by omega
            go_wp2
            go_roundw
            case rel => exact ⟨k + 1, by go_num, by omega, T1.out, by rw [E1.out]; exact T0.out, HBq.out⟩
            case measure => simp [RowKit.intOf]; omega
    · obtain rfl : k = np := by omega
      have hfin : pgP (m.pieces.take k) o n = pageF m o n := by rw [List.take_of_length_le (by rw [HN.out]; exact Nat.le_refl _)]; rfl
      clear hr1 hr0 hb hap
      go_wp2
      go_ret
      exact ⟨_, rfl, by rw [← hfin]; exact Q0.out, Nat.le_succ _, HB.out⟩
end Go.Proofs.YtlecpjfggoehdaaGreatDoor.Ar

set_option linter.unusedVariables false
set_option linter.unusedSimpArgs false
set_option maxRecDepth 100000
namespace Go.Proofs.YtlecpjfggoehdaaGreatDoor.Ar
open Go.RowKit Go.Sort Go.Lib Go.Proofs.YtlecpjfggoehdaaGreatDoor.Rs

section
variable {ops : Array Oper} {rest : List Oper} {o : Oper} {a : Act} {Q : Exit → Act → World → Prop} {W : World} {base : Nat} {v : Value} {l : List Sp}
/-- append(l, step) to a list of one's own, the step laid ahead of it -/
theorem wpl_step (hgd : o.guard = none) (s x : Operand) (ho : o.op = .call { callee := .builtin .append, args := #[s, x], argTypes := #[24, 24] }) (hs : a.eval s = v) (hx : a.eval x = .slice (some ⟨W.heap.size, 0, none⟩) 1 1)
    (st : Sp) {cells : List Value} (hc : cells = spCells st (.slice none 0 0)) (hl : PlS base W v l) (hb : base ≤ W.heap.size) (hn : l.length ≤ 1000000000)
    (h : ∀ v' w', PlS base w' v' (l ++ [st]) → Below base W w' → (∀ B T cur, Row W B T cur → T ≠ 38 → Row w' B T cur) → wpList Tryz.prog ops Q rest (a.put o.dst v') w') : wpList Tryz.prog ops Q (o :: rest) a (W.alloc (.cells cells.toArray 38)) := by
  subst hc
  obtain ⟨i0, hi0, hz0, hs0, hb0⟩ := info_parts info59
  have hba := below_alloc1 W (.cells (spCells st (.slice none 0 0)).toArray 38)
  have hR := Row.new W 38 (spCells st (.slice none 0 0))
  have hO : (W.alloc (.cells (spCells st (.slice none 0 0)).toArray 38)).ownsRow base 38 7 v l.length (svCells (l.map fun s => (s, .slice none 0 0))) := own_below hl hba
  refine wpl_many 24 38 i0 _ 7 88 Tryz.underlying24 hi0 hz0 hs0 hb0 rfl (by decide) hO hgd s x ho hs (.slice (some ⟨W.heap.size, 0, none⟩) 1 1) hx (spCells st (.slice none 0 0)) 1 rfl (fun n c e => by cases e) ⟨_, _, rfl, fun _ => ⟨_, 0, rfl, fun j u hj => by rw [Nat.zero_add]; exact (hR.cell j).trans hj⟩⟩
    (by intro u hu; simp only [spCells, List.mem_cons, List.not_mem_nil, or_false] at hu; rcases hu with rfl | rfl | rfl | rfl | rfl | rfl | rfl <;> rfl) (Nat.le_trans hb hba.size) (by omega) (by decide) (fun v' w' h1 h2 _ => h v' w' ?_ ?_ ?_)
  · show World.ownsRow _ _ _ _ _ _ _
    rw [List.map_append, List.length_append, List.length_singleton, show ([st].map fun s => (s, Value.slice none 0 0)) = [(st, Value.slice none 0 0)] from rfl, svCells_app]
    exact h1
  · exact (hba.mono hb).grown h2 (Nat.le_trans hb hba.size) (fun r e => (hO.lt r e).1)
  · intro B T cur hr hne
    exact (hr.alloc _).grown h2 (own_row_ne hO (hr.alloc _) (fun e => hne e.symm))
end
theorem PlS.isSl {base : Nat} {w : World} {v : Value} {l : List Sp} (h : PlS base w v l) : IsSl v := own_isSl h

theorem chW_len' (a b : Mb) : ∀ k, (chW a b k).length ≤ k := chW_len a b

attribute [local go_sem] Oper.semAt_some
set_option maxHeartbeats 8000000 in
theorem call_rchanges (wb : World) (l : List Sp) (v : Value) (a b : Mb) (va vb : Value) (W : World) (hW : Below wb.heap.size wb W) (hl : PlS wb.heap.size W v l) (ha : Sl RPc 2 wb va a.pieces) (hb : Sl RPc 2 wb vb b.pieces) (fa : FileA a) (fb : FileA b) (hN : l.length + 700 ≤ 1000000000) :
    Calls Tryz.prog 31 #[v, .agg (mbCells a va).toArray, .agg (mbCells b vb).toArray] W fun e W' => ∃ v', e = .returned v' ∧ PlS wb.heap.size W' v' (l ++ changesF a b) ∧ Below wb.heap.size wb W' := by
  obtain ⟨a0, n0, c0, rfl⟩ := hl.isSl
  have HW := Lib.hid hW
  have HA := Lib.hid ha
  have HB := Lib.hid hb
  have HFa := Lib.hid fa
  have HFb := Lib.hid fb
  have r1 := (Row.new W 58 (mbCells a va)).alloc (.cells (mbCells b vb).toArray 58)
  have r2 := row_new1 W (.cells (mbCells a va).toArray 58) 58 (mbCells b vb)
  have hb2 := below_alloc2 W (.cells (mbCells a va).toArray 58) (.cells (mbCells b vb).toArray 58)
  have hl2 : PlS wb.heap.size ((W.alloc (.cells (mbCells a va).toArray 58)).alloc (.cells (mbCells b vb).toArray 58)) (.slice a0 n0 c0) l := own_below hl hb2
  have hb3 := below_then hW hW.size hb2
  obtain ⟨aa, ba, oa, ca, rfl, -, -⟩ := ha
  obtain ⟨ab, bb, ob, cb, rfl, -, -⟩ := hb
  obtain ⟨na, hna⟩ : ∃ n, a.pieces.length = n := ⟨_, rfl⟩
  obtain ⟨nb, hnb⟩ : ∃ n, b.pieces.length = n := ⟨_, rfl⟩
  obtain ⟨az, haz⟩ : ∃ z : Nat, a.size = z := ⟨a.size.toNat, by have := fa.s0; omega⟩
  obtain ⟨bz, hbz⟩ : ∃ z : Nat, b.size = z := ⟨b.size.toNat, by have := fb.s0; omega⟩
  have haz1 : az ≤ 262144 := by have := fa.s1; omega
  have hbz1 : bz ≤ 262144 := by have := fb.s1; omega
  have hpl : b.path.length ≤ 1048576 := by have := fb.path; omega
  rw [hna] at r1 r2 hl2 hb3 HA ⊢
  rw [hnb] at r1 r2 hl2 hb3 HB ⊢
  simp only [mbCells, haz, hbz] at r1 r2 hl2 hb3 ⊢
  obtain ⟨apth, hap⟩ : ∃ x, bs a.path = x := ⟨_, rfl⟩
  obtain ⟨alnk, hal⟩ : ∃ x, bs a.link = x := ⟨_, rfl⟩
  obtain ⟨blnk, hbl⟩ : ∃ x, bs b.link = x := ⟨_, rfl⟩
  obtain ⟨bpth, hbp⟩ : ∃ x, bs b.path = x := ⟨_, rfl⟩
  obtain ⟨pl, hpl2⟩ : ∃ x, bs (47 :: b.path) = x := ⟨_, rfl⟩
  have hz := bs_size b.path
  have hs := bs_slash b.path
  have hz2 := bs_size (47 :: b.path)
  rw [hbp, hpl2] at hs
  rw [hbp] at hz
  rw [hap, hal, hbp, hbl] at r1 r2 hl2 hb3 ⊢
  have R1 := Lib.hid r1
  have R2 := Lib.hid r2
  have HL2 := Lib.hid hl2
  have HB3 := Lib.hid hb3
  have HAz := Lib.hid haz
  have HBz := Lib.hid hbz
  have HAp := Lib.hid hap
  have HAl := Lib.hid hal
  have HBp := Lib.hid hbp
  have HBl := Lib.hid hbl
  have HPl := Lib.hid hpl2
  have HNa := Lib.hid hna
  have HNb := Lib.hid hnb
  have HN := Lib.hid hN
  clear fa fb hW hl hl2 hb2 hb3 r1 r2 hna hnb haz hbz hap hal hbp hbl hpl2 hN hz2
  go_enter Tryz.func31, Tryz.ntmps31
  go_upto_region 2 with (fail)
  clear hs hz
  obtain ⟨w1, hw1⟩ : ∃ x, ((W.alloc (.cells #[.int .i64 a.kind, .string apth, .string alnk, .int .i64 az, .slice aa na ca] 58)).alloc (.cells #[.int .i64 b.kind, .string bpth, .string blnk, .int .i64 bz, .slice ab nb cb] 58)) = x := ⟨_, rfl⟩
  rw [hw1] at R1 R2 HL2 HB3 ⊢
  clear hw1
  have HCs : Hid (∀ k, 0 ≤ chS a b k ∧ chS a b k ≤ bz) := Lib.hid (fun k => by have := chS_le a b (by rw [HAz.out]; omega) (by rw [HBz.out]; omega) k; rw [HBz.out] at this; exact this)
  have HNl : Hid (∀ k, k ≤ 600 → (l ++ headW a b ++ chW a b k).length ≤ 1000000000) := Lib.hid (fun k hk => by
    have h1 := chW_len a b k
    have h2 := headW_len a b
    have := HN.out
    simp only [List.length_append]
    omega)
  obtain ⟨A, hA⟩ : ∃ A, W.heap.size = A := ⟨_, rfl⟩
  rw [hA] at R1 R2 ⊢
  clear hA
  go_cut [8] (fun sv wc => sv = .int .i64 az ∧ wc = w1)
  case first =>
    have a3 := (show _ = some (Value.int .i64 az) from R1.out.cell 3)
    go_wp2
    go_meet
    case rel => exact ⟨rfl, rfl⟩
  case rest =>
  obtain ⟨rfl, rfl⟩ := hcut
  go_step; go_step
  go_cut [0, 8] (fun lv sv wc => PlS wb.heap.size wc lv (l ++ headW a b) ∧ (∃ z : Nat, sv = .int .i64 z ∧ (z : Int) = chS a b 0) ∧ Row wc A 58 [.int .i64 a.kind, .string apth, .string alnk, .int .i64 az, .slice aa na ca] ∧ Row wc (A + 1) 58 [.int .i64 b.kind, .string bpth, .string blnk, .int .i64 bz, .slice ab nb cb] ∧ Below wb.heap.size wb wc)
  case first =>
    have a3 := (show _ = some (Value.int .i64 az) from R1.out.cell 3)
    have b3 := (show _ = some (Value.int .i64 bz) from R2.out.cell 3)
    by_cases hsz : bz < az
    · have h1 : (bz : Int) < az := by omega
      have HH : Hid (headW a b = [trSp b]) := Lib.hid (by rw [headW, if_pos (by rw [HAz.out, HBz.out]; omega)])
      have H0 : Hid (chS a b 0 = bz) := Lib.hid (by rw [chS, HAz.out, HBz.out]; omega)
      have hcs : Hid ([.int .i64 12, .string pl, .string ⟨#[]⟩, .int .i64 bz, .int .i64 0, .int .i64 0, .slice none 0 0] = spCells (trSp b) (.slice none 0 0)) := Lib.hid (by simp only [trSp, sp1, spCells, HBz.out, HPl.out]; rfl)
      go_wp2_with (at_builtin; refine wpl_step rfl _ _ rfl rfl rfl (trSp b) hcs.out HL2.out HB3.out.size (by have := HN.out; omega) ?_; intro v2 w2 h2 hb2 hk2; have H2 := Lib.hid h2; have HB2 := Lib.hid (HB3.out.trans hb2); have Q1 := Lib.hid (hk2 _ _ _ R1.out (by decide)); have Q2 := Lib.hid (hk2 _ _ _ R2.out (by decide)); replace b3 := (show _ = some (Value.int .i64 bz) from Q2.out.cell 3); clear a3 h2 hb2 hk2)
      go_meet
      case rel => exact ⟨by rw [HH.out]; exact H2.out, ⟨bz, rfl, H0.out.symm⟩, Q1.out, Q2.out, HB2.out⟩
    · have h1 : ¬ (bz : Int) < az := by omega
      have HH : Hid (headW a b = []) := Lib.hid (by rw [headW, if_neg (by rw [HAz.out, HBz.out]; omega)])
      have H0 : Hid (chS a b 0 = az) := Lib.hid (by rw [chS, HAz.out, HBz.out]; omega)
      go_wp2
      go_meet
      case rel => exact ⟨by rw [HH.out, List.append_nil]; exact HL2.out, ⟨az, rfl, H0.out.symm⟩, R1.out, R2.out, HB3.out⟩
  case rest =>
    obtain ⟨hpl0, ⟨z0, rfl, hz0⟩, r1, r2, hb0⟩ := hcut
    have HPL0 := Lib.hid hpl0
    have HZ0 := Lib.hid hz0
    have S1 := Lib.hid r1
    have S2 := Lib.hid r2
    have HBc := Lib.hid hb0
    clear hpl0 hz0 r1 r2 hb0 R1 R2 HL2 HB3
    obtain ⟨Pn, hPn⟩ : ∃ n, (bz + 511) / 512 = n := ⟨_, rfl⟩
    have HPn := Lib.hid hPn
    have hP1 : bz ≤ Pn * 512 := by omega
    have hP2 : Pn ≤ 600 := by omega
    clear hPn
    go_step; go_step
    go_wp2
    go_loopw [0, 8, 9] (fun lv sv ov wr => ∃ (k o z : Nat), o = 512 * k ∧ k ≤ Pn ∧ ov = .int .i64 o ∧ (z : Int) = chS a b k ∧ sv = .int .i64 z ∧ PlS wb.heap.size wr lv (l ++ headW a b ++ chW a b k) ∧ Row wr A 58 [.int .i64 a.kind, .string apth, .string alnk, .int .i64 az, .slice aa na ca] ∧ Row wr (A + 1) 58 [.int .i64 b.kind, .string bpth, .string blnk, .int .i64 bz, .slice ab nb cb] ∧ Below wb.heap.size wb wr)
      (fun _ _ o _ => Pn * 512 - (RowKit.intOf o).toNat)
    case atStart => exact ⟨0, 0, z0, rfl, Nat.zero_le _, rfl, HZ0.out, rfl, by simpa [chW] using HPL0.out, S1.out, S2.out, HBc.out⟩
    case round =>
      obtain ⟨k, o, z, ho, hk, rfl, hz, rfl, hpl1, r1, r2, hb1⟩ := hrel
      have HO := Lib.hid ho
      have HZ := Lib.hid hz
      have HPL := Lib.hid hpl1
      have Q1 := Lib.hid r1
      have Q2 := Lib.hid r2
      have HB1 := Lib.hid hb1
      have b3 : wr.cell? ⟨A + 1, 3, none⟩ = some (.int .i64 bz) := r2.cell 3
      have hzb := HCs.out k
      rw [← hz] at hzb
      have hz2 : z ≤ 262144 := by omega
      clear ho hz hpl1 hzb r1 r2 hb1
      by_cases hlt : k < Pn
      · have hob : o < bz := by have := HO.out; have := HPn.out; omega
        have k1 : (o : Int) < bz := by omega
        have k0 : (0 : Int) ≤ o := Int.natCast_nonneg _
        have a0 : wr.cell? ⟨A, 0, none⟩ = some (.int .i64 a.kind) := Q1.out.cell 0
        have a1 : wr.cell? ⟨A, 1, none⟩ = some (.string apth) := Q1.out.cell 1
        have a2 : wr.cell? ⟨A, 2, none⟩ = some (.string alnk) := Q1.out.cell 2
        have a3 : wr.cell? ⟨A, 3, none⟩ = some (.int .i64 az) := Q1.out.cell 3
        have a4 : wr.cell? ⟨A, 4, none⟩ = some (.slice aa na ca) := Q1.out.cell 4
        obtain ⟨pn, hpn⟩ : ∃ n, pgN b k = n := ⟨_, rfl⟩
        have hpn1 : pn = min 512 (bz - o) := by rw [← hpn, pgN, HBz.out, HO.out, Int.toNat_natCast]
        have hpn2 : pn ≤ 512 := by omega
        obtain ⟨pgb, hpgb⟩ : ∃ x, bs (pageF b o pn) = x := ⟨_, rfl⟩
        obtain ⟨pga, hpga⟩ : ∃ x, bs (pageF a o pn) = x := ⟨_, rfl⟩
        have HPgB : Hid (∀ w, Below wb.heap.size wb w → Calls Tryz.prog 51 #[.agg #[.int .i64 b.kind, .string bpth, .string blnk, .int .i64 bz, .slice ab nb cb], .int .i64 o, .int .i64 pn] w fun e w' => ∃ B, e = .returned (.slice (some ⟨B, 0, none⟩) pn pn) ∧ (convert 22 9 (.slice (some ⟨B, 0, none⟩) pn pn)).run Tryz.prog w' = .ok (.string pgb) w' ∧ Below w.heap.size w w') := Lib.hid (fun w hw => by
          have h := call_bytesOf b (.slice ab nb cb) o k pn w (HB.out.keep RPc.stays (keeps_below hw)) HFb.out HO.out (by omega) hpn2
          simp only [mbCells, HBz.out, HBp.out, HBl.out] at h
          exact h.mono fun e w' ⟨B, h1, h2, _, h4⟩ => ⟨B, h1, by rw [← hpgb]; exact conv_row h2 (pageF_len _ _ _), h4⟩)
        have HPgA : Hid (∀ w, Below wb.heap.size wb w → Calls Tryz.prog 51 #[.agg #[.int .i64 a.kind, .string apth, .string alnk, .int .i64 az, .slice aa na ca], .int .i64 o, .int .i64 pn] w fun e w' => ∃ B, e = .returned (.slice (some ⟨B, 0, none⟩) pn pn) ∧ (convert 22 9 (.slice (some ⟨B, 0, none⟩) pn pn)).run Tryz.prog w' = .ok (.string pga) w' ∧ Below w.heap.size w w') := Lib.hid (fun w hw => by
          have h := call_bytesOf a (.slice aa na ca) o k pn w (HA.out.keep RPc.stays (keeps_below hw)) HFa.out HO.out (by omega) hpn2
          simp only [mbCells, HAz.out, HAp.out, HAl.out] at h
          exact h.mono fun e w' ⟨B, h1, h2, _, h4⟩ => ⟨B, h1, by rw [← hpga]; exact conv_row h2 (pageF_len _ _ _), h4⟩)
        have hoc : (o : Int) = 512 * (k : Int) := by have := HO.out; omega
        have hdf : diffF a b k = !decide (pageF b o pn = pageF a o pn) := by rw [diffF, hpn, hoc]
        have hcw : [.int .i64 11, .string pl, .string pgb, .int .i64 o, .int .i64 0, .int .i64 0, .slice none 0 0] = spCells (wrSp b k) (.slice none 0 0) := by simp only [wrSp, spCells, HPl.out, hpn, ← hoc, hpgb]
        have HWr := Lib.hid hcw
        have HW1 : chW a b (k + 1) = chW a b k ++ (if diffF a b k = true then [wrSp b k] else []) := rfl
        have HS1 : chS a b (k + 1) = if diffF a b k = true then max (chS a b k) (512 * k + pgN b k) else chS a b k := rfl
        have GP := Lib.hid (And.intro hpn (And.intro hpgb (And.intro hpga (And.intro hoc (And.intro hdf (And.intro HW1 (And.intro HS1 hpn1)))))))
        clear hpn hpgb hpga hoc hdf hcw HW1 HS1 hpn1
        obtain ⟨wo, rfl⟩ : ∃ x, x = wr := ⟨_, rfl⟩
        go_upto_region 9 with (fail)
        go_cut [10] (fun nv wc => nv = .int .i64 512 ∧ wc = wo)
        case first =>
          go_wp2
          go_meet
          case rel => exact ⟨rfl, rfl⟩
        case rest =>
        obtain ⟨rfl, rfl⟩ := hcut
        go_step; go_step
        go_cut [10] (fun nv wc' => nv = .int .i64 pn ∧ wc' = wc)
        case first =>
          have hpn1 := GP.out.2.2.2.2.2.2.2
          by_cases hm : bz - o < 512
          · have m1 : (bz : Int) - o < 512 := by omega
            have m2 : (pn : Int) = (bz : Int) - o := by omega
            have M2 := Lib.hid m2
            clear m2 hpn1
            go_wp2
            go_meet
            case rel => exact ⟨by rw [M2.out], rfl⟩
          · have m1 : ¬ (bz : Int) - o < 512 := by omega
            have m2 : pn = 512 := by omega
            have M2 := Lib.hid m2
            clear m2 hpn1
            go_wp2
            go_meet
            case rel => exact ⟨by rw [M2.out]; rfl, rfl⟩
        case rest =>
          obtain ⟨rfl, rfl⟩ := hcut
          obtain ⟨hpn, hpgb, hpga, hoc, hdf, HW1, HS1, -⟩ := GP.out
          clear GP
          by_cases heq : pageF b o pn = pageF a o pn
          · have hq : (pga.toList == pgb.toList) = true := by rw [← hpgb, ← hpga, heq]; simp
            have hq2 : (pga.toList != pgb.toList) = false := by simp [bne, hq]
            rw [hdf, heq, decide_eq_true rfl, if_neg (by simp)] at HW1 HS1
            rw [List.append_nil] at HW1
            have GW1 := Lib.hid HW1
            have GS1 := Lib.hid HS1
            clear hpn hpgb hpga hoc hdf heq HW1 HS1 HWr
            go_step; go_step
            go_wp2_with (first
              | (go_at_call 51; refine (HPgB.out w3 HB3.out).mono ?_; rintro e w4 ⟨B4, rfl, hcv4, hb4⟩; have HB4 := Lib.hid (below_then HB3.out HB3.out.size hb4); have PL4 := Lib.hid (show PlS wb.heap.size w4 u0 (l ++ headW a b ++ chW a b k) from own_below PL3.out hb4); have Q14 := Lib.hid (Q13.out.below hb4 Q13.out.lt); have Q24 := Lib.hid (Q23.out.below hb4 Q23.out.lt); clear hb4 b0 b1 b2 b3 b4)
              | (go_at_call 51; refine (HPgA.out wc HB1.out).mono ?_; rintro e w3 ⟨B3, rfl, hcv3, hb3⟩; have HB3 := Lib.hid (below_then HB1.out HB1.out.size hb3); have PL3 := Lib.hid (show PlS wb.heap.size w3 u0 (l ++ headW a b ++ chW a b k) from own_below HPL.out hb3); have Q13 := Lib.hid (Q1.out.below hb3 Q1.out.lt); have Q23 := Lib.hid (Q2.out.below hb3 Q2.out.lt); have b0 := (show w3.cell? ⟨A + 1, 0, none⟩ = some (.int .i64 b.kind) from Q23.out.cell 0); have b1 := (show w3.cell? ⟨A + 1, 1, none⟩ = some (.string bpth) from Q23.out.cell 1); have b2 := (show w3.cell? ⟨A + 1, 2, none⟩ = some (.string blnk) from Q23.out.cell 2); have b3 := (show w3.cell? ⟨A + 1, 3, none⟩ = some (.int .i64 bz) from Q23.out.cell 3); have b4 := (show w3.cell? ⟨A + 1, 4, none⟩ = some (.slice ab nb cb) from Q23.out.cell 4); clear hb3 a0 a1 a2 a3 a4))
            go_roundw
            case rel => exact ⟨k + 1, o + 512, z, by have := HO.out; omega, by omega, by go_num, by rw [GS1.out]; exact HZ.out, rfl, by rw [GW1.out]; exact PL4.out, Q14.out, Q24.out, HB4.out⟩
            case measure => simp [RowKit.intOf]; omega
          · have hq : (pga.toList == pgb.toList) = false := by rw [← hpgb, ← hpga, bs_toList, bs_toList]; simpa using fun e => heq e.symm
            have hq2 : (pga.toList != pgb.toList) = true := by simp [bne, hq]
            rw [hdf, decide_eq_false heq, if_pos (by simp)] at HW1 HS1
            have hz3 : chS a b (k + 1) = ((max z (o + pn) : Nat) : Int) := by rw [HS1, ← HZ.out, hpn, ← hoc]; omega
            have GW1 := Lib.hid HW1
            have GS1 := Lib.hid hz3
            clear hpn hpgb hpga hoc hdf heq HW1 HS1 hz3
            by_cases hgt : z < o + pn
            · have g1 : (z : Int) < (o : Int) + pn := by omega
              have hmax : max z (o + pn) = o + pn := by omega
              rw [hmax] at GS1
              clear hmax
              go_step; go_step
              go_wp2_with (first
                | (go_at_call 51; refine (HPgB.out w3 HB3.out).mono ?_; rintro e w4 ⟨B4, rfl, hcv4, hb4⟩; have HB4 := Lib.hid (below_then HB3.out HB3.out.size hb4); have PL4 := Lib.hid (show PlS wb.heap.size w4 u0 (l ++ headW a b ++ chW a b k) from own_below PL3.out hb4); have Q14 := Lib.hid (Q13.out.below hb4 Q13.out.lt); have Q24 := Lib.hid (Q23.out.below hb4 Q23.out.lt); clear hb4 b0 b1 b2 b3 b4)
                | (go_at_call 51; refine (HPgA.out wc HB1.out).mono ?_; rintro e w3 ⟨B3, rfl, hcv3, hb3⟩; have HB3 := Lib.hid (below_then HB1.out HB1.out.size hb3); have PL3 := Lib.hid (show PlS wb.heap.size w3 u0 (l ++ headW a b ++ chW a b k) from own_below HPL.out hb3); have Q13 := Lib.hid (Q1.out.below hb3 Q1.out.lt); have Q23 := Lib.hid (Q2.out.below hb3 Q2.out.lt); have b0 := (show w3.cell? ⟨A + 1, 0, none⟩ = some (.int .i64 b.kind) from Q23.out.cell 0); have b1 := (show w3.cell? ⟨A + 1, 1, none⟩ = some (.string bpth) from Q23.out.cell 1); have b2 := (show w3.cell? ⟨A + 1, 2, none⟩ = some (.string blnk) from Q23.out.cell 2); have b3 := (show w3.cell? ⟨A + 1, 3, none⟩ = some (.int .i64 bz) from Q23.out.cell 3); have b4 := (show w3.cell? ⟨A + 1, 4, none⟩ = some (.slice ab nb cb) from Q23.out.cell 4); clear hb3 a0 a1 a2 a3 a4)
                | (at_builtin; refine wpl_step rfl _ _ rfl rfl rfl (wrSp b k) HWr.out PL4.out HB4.out.size (HNl.out k (by omega)) ?_; intro v5 w5 h5 hb5 hk5; have H5 := Lib.hid h5; have HB5 := Lib.hid (HB4.out.trans hb5); have Q15 := Lib.hid (hk5 _ _ _ Q14.out (by decide)); have Q25 := Lib.hid (hk5 _ _ _ Q24.out (by decide)); clear h5 hb5 hk5))
              go_roundw
              case rel => exact ⟨k + 1, o + 512, o + pn, by have := HO.out; omega, by omega, by go_num, GS1.out.symm, by first | rfl | go_num, by rw [GW1.out, ← List.append_assoc]; exact H5.out, Q15.out, Q25.out, HB5.out⟩
              case measure => simp [RowKit.intOf]; omega
            · have g1 : ¬ (z : Int) < (o : Int) + pn := by omega
              have hmax : max z (o + pn) = z := by omega
              rw [hmax] at GS1
              clear hmax
              go_step; go_step
              go_wp2_with (first
                | (go_at_call 51; refine (HPgB.out w3 HB3.out).mono ?_; rintro e w4 ⟨B4, rfl, hcv4, hb4⟩; have HB4 := Lib.hid (below_then HB3.out HB3.out.size hb4); have PL4 := Lib.hid (show PlS wb.heap.size w4 u0 (l ++ headW a b ++ chW a b k) from own_below PL3.out hb4); have Q14 := Lib.hid (Q13.out.below hb4 Q13.out.lt); have Q24 := Lib.hid (Q23.out.below hb4 Q23.out.lt); clear hb4 b0 b1 b2 b3 b4)
                | (go_at_call 51; refine (HPgA.out wc HB1.out).mono ?_; rintro e w3 ⟨B3, rfl, hcv3, hb3⟩; have HB3 := Lib.hid (below_then HB1.out HB1.out.size hb3); have PL3 := Lib.hid (show PlS wb.heap.size w3 u0 (l ++ headW a b ++ chW a b k) from own_below HPL.out hb3); have Q13 := Lib.hid (Q1.out.below hb3 Q1.out.lt); have Q23 := Lib.hid (Q2.out.below hb3 Q2.out.lt); have b0 := (show w3.cell? ⟨A + 1, 0, none⟩ = some (.int .i64 b.kind) from Q23.out.cell 0); have b1 := (show w3.cell? ⟨A + 1, 1, none⟩ = some (.string bpth) from Q23.out.cell 1); have b2 := (show w3.cell? ⟨A + 1, 2, none⟩ = some (.string blnk) from Q23.out.cell 2); have b3 := (show w3.cell? ⟨A + 1, 3, none⟩ = some (.int .i64 bz) from Q23.out.cell 3); have b4 := (show w3.cell? ⟨A + 1, 4, none⟩ = some (.slice ab nb cb) from Q23.out.cell 4); clear hb3 a0 a1 a2 a3 a4)
                | (at_builtin; refine wpl_step rfl _ _ rfl rfl rfl (wrSp b k) HWr.out PL4.out HB4.out.size (HNl.out k (by omega)) ?_; intro v5 w5 h5 hb5 hk5; have H5 := Lib.hid h5; have HB5 := Lib.hid (HB4.out.trans hb5); have Q15 := Lib.hid (hk5 _ _ _ Q14.out (by decide)); have Q25 := Lib.hid (hk5 _ _ _ Q24.out (by decide)); clear h5 hb5 hk5))
              go_roundw
              case rel => exact ⟨k + 1, o + 512, z, by have := HO.out; omega, by omega, by go_num, GS1.out.symm, rfl, by rw [GW1.out, ← List.append_assoc]; exact H5.out, Q15.out, Q25.out, HB5.out⟩
              case measure => simp [RowKit.intOf]; omega
      · obtain rfl : k = Pn := by omega
        have hob : bz ≤ o := by have := HO.out; omega
        have k1 : ¬ (o : Int) < bz := by omega
        have hpg : pagesN b = k := by rw [pagesN, HBz.out, Int.toNat_natCast]; exact HPn.out
        by_cases he : z = bz
        · have hq : ((z : Int) == bz) = true := by simp [he]
          have hq2 : ((z : Int) != bz) = false := by simp [he]
          have HE : Hid (changesF a b = headW a b ++ chW a b k) := Lib.hid (by rw [changesF, hpg, if_pos (by rw [← HZ.out, HBz.out, he]), List.append_nil])
          clear hpg he
          go_wp2
          go_ret
          exact ⟨_, rfl, by rw [HE.out, ← List.append_assoc]; exact HPL.out, HB1.out⟩
        · have hq : ((z : Int) == bz) = false := by simp; omega
          have hq2 : ((z : Int) != bz) = true := by simp; omega
          have HE : Hid (changesF a b = headW a b ++ chW a b k ++ [trSp b]) := Lib.hid (by rw [changesF, hpg, if_neg (by rw [← HZ.out, HBz.out]; omega)])
          have hcs : Hid ([.int .i64 12, .string pl, .string ⟨#[]⟩, .int .i64 bz, .int .i64 0, .int .i64 0, .slice none 0 0] = spCells (trSp b) (.slice none 0 0)) := Lib.hid (by simp only [trSp, sp1, spCells, HBz.out, HPl.out]; rfl)
          clear hpg he
          go_wp2_with (at_builtin; refine wpl_step rfl _ _ rfl rfl rfl (trSp b) hcs.out HPL.out HB1.out.size (HNl.out k hP2) ?_; intro v5 w5 h5 hb5 hk5; have H5 := Lib.hid h5; have HB5 := Lib.hid (HB1.out.trans hb5); clear b3 h5 hb5 hk5)
          go_ret
          exact ⟨_, rfl, by rw [HE.out, ← List.append_assoc, ← List.append_assoc]; exact H5.out, HB5.out⟩
end Go.Proofs.YtlecpjfggoehdaaGreatDoor.Ar

set_option linter.unusedVariables false
set_option linter.unusedSimpArgs false
set_option maxRecDepth 100000
namespace Go.Proofs.YtlecpjfggoehdaaGreatDoor.Ar
open Go.RowKit Go.Sort Go.Lib Go.Proofs.YtlecpjfggoehdaaGreatDoor.Rs

section
variable {ops : Array Oper} {rest : List Oper} {o : Oper} {a : Act} {Q : Exit → Act → World → Prop} {W : World} {base B : Nat} {v : Value} {l : List Sp}
theorem wpl_stepB (hgd : o.guard = none) (s x : Operand) (ho : o.op = .call { callee := .builtin .append, args := #[s, x], argTypes := #[24, 24] }) (hs : a.eval s = v) (hx : a.eval x = .slice (some ⟨B, 0, none⟩) 1 1) (hB : B = W.heap.size)
    (st : Sp) {cells : List Value} (hc : cells = spCells st (.slice none 0 0)) (hl : PlS base W v l) (hb : base ≤ W.heap.size) (hn : l.length ≤ 1000000000)
    (h : ∀ v' w', PlS base w' v' (l ++ [st]) → Below base W w' → (∀ B T cur, Row W B T cur → T ≠ 38 → Row w' B T cur) → wpList Tryz.prog ops Q rest (a.put o.dst v') w') : wpList Tryz.prog ops Q (o :: rest) a (W.alloc (.cells cells.toArray 38)) := by
  subst hB
  exact wpl_step hgd s x ho hs hx st hc hl hb hn h
end
theorem nil_pcs (w : World) : Sl RPc 2 w (.slice none 0 0) emptyMb.pieces := ⟨none, 0, 0, 0, rfl, fun h => by simp [emptyMb] at h, fun j x hj => by simp [emptyMb] at hj⟩
set_option maxHeartbeats 4000000 in
theorem call_comes (wb : World) (l : List Sp) (v : Value) (m : Mb) (vm : Value) (W : World) (hW : Below wb.heap.size wb W) (hl : PlS wb.heap.size W v l) (hm : Sl RPc 2 wb vm m.pieces) (fm : FileA m) (hk : m.kind = 1 ∨ m.kind = 2 ∨ m.kind = 3) (hN : l.length + 701 ≤ 1000000000) :
    Calls Tryz.prog 29 #[v, .agg (mbCells m vm).toArray] W fun e W' => ∃ v', e = .returned v' ∧ PlS wb.heap.size W' v' (l ++ ([comesSp m] ++ if m.kind = 1 then changesF emptyMb m else [])) ∧ Below wb.heap.size wb W' := by
  have HM := Lib.hid hm
  have HFm := Lib.hid fm
  have r1 := Row.new W 58 (mbCells m vm)
  have hb2 := below_alloc1 W (.cells (mbCells m vm).toArray 58)
  have hl2 : PlS wb.heap.size (W.alloc (.cells (mbCells m vm).toArray 58)) v l := own_below hl hb2
  have hb3 := below_then hW hW.size hb2
  obtain ⟨aa, ba, oa, ca, rfl, -, -⟩ := hm
  have hpl : m.path.length ≤ 1048576 := fm.path
  have hlk : m.link.length ≤ 1048576 := fm.link
  obtain ⟨na, hna⟩ : ∃ n, m.pieces.length = n := ⟨_, rfl⟩
  rw [hna] at r1 hl2 hb3 HM ⊢
  simp only [mbCells] at r1 hl2 hb3 ⊢
  obtain ⟨pth, hpth⟩ : ∃ x, bs m.path = x := ⟨_, rfl⟩
  obtain ⟨lnk, hlnk⟩ : ∃ x, bs m.link = x := ⟨_, rfl⟩
  obtain ⟨ppl, hppl⟩ : ∃ x, bs (47 :: m.path) = x := ⟨_, rfl⟩
  obtain ⟨lpl, hlpl⟩ : ∃ x, bs (47 :: m.link) = x := ⟨_, rfl⟩
  have hz := bs_size m.path
  have hs := bs_slash m.path
  have hz' := bs_size m.link
  have hs' := bs_slash m.link
  rw [hpth, hppl] at hs
  rw [hpth] at hz
  rw [hlnk, hlpl] at hs'
  rw [hlnk] at hz'
  rw [hpth, hlnk] at r1 hl2 hb3 ⊢
  have R1 := Lib.hid r1
  have HL2 := Lib.hid hl2
  have HB3 := Lib.hid hb3
  have HP := Lib.hid hpth
  have HL := Lib.hid hlnk
  have HPP := Lib.hid hppl
  have HLL := Lib.hid hlpl
  have HN := Lib.hid hN
  have a0 := (show _ = some (Value.int .i64 m.kind) from r1.cell 0)
  have a1 := (show _ = some (Value.string pth) from r1.cell 1)
  have a2 := (show _ = some (Value.string lnk) from r1.cell 2)
  obtain ⟨mk, hmk⟩ : ∃ x, m.kind = x := ⟨_, rfl⟩
  rw [hmk] at hk
  rcases hk with h | h | h
  · subst h
    have HK := Lib.hid hmk
    have hcs : Hid ([.int .i64 4, .string ppl, .string ⟨#[]⟩, .int .i64 0, .int .i64 0, .int .i64 0, .slice none 0 0] = spCells (comesSp m) (.slice none 0 0)) := Lib.hid (by rw [comesSp, if_neg (by rw [hmk]; decide), if_pos hmk]; simp only [sp1, spCells, hppl]; rfl)
    rw [hmk] at a0 R1 HL2 HB3 ⊢
    clear fm hW hl hl2 hb2 hb3 r1 hna hpth hlnk hppl hlpl hN hmk
    have HCh : Hid (∀ v' w', PlS wb.heap.size w' v' (l ++ [comesSp m]) → Below wb.heap.size wb w' → Calls Tryz.prog 31 #[v', .agg #[.int .i64 0, .string ⟨#[]⟩, .string ⟨#[]⟩, .int .i64 0, .slice none 0 0], .agg #[.int .i64 1, .string pth, .string lnk, .int .i64 m.size, .slice aa na ca]] w' fun e W' => ∃ v'', e = .returned v'' ∧ PlS wb.heap.size W' v'' (l ++ [comesSp m] ++ changesF emptyMb m) ∧ Below wb.heap.size wb W') := Lib.hid (fun v' w' h1 h2 => by
      have h := call_rchanges wb (l ++ [comesSp m]) v' emptyMb m (.slice none 0 0) (.slice aa na ca) w' h2 h1 (nil_pcs wb) HM.out FileA.empty HFm.out (by have := HN.out; simp only [List.length_append, List.length_singleton]; omega)
      simp only [mbCells, HK.out, HP.out, HL.out] at h
      exact h)
    go_enter Tryz.func29, Tryz.ntmps29
    go_wp2_with (first
      | (go_at_call 31; refine (HCh.out _ _ H5.out HB5.out).mono ?_; rintro e w6 ⟨v6, rfl, h6, hb6⟩; have H6 := Lib.hid h6; have HB6 := Lib.hid hb6; clear h6 hb6)
      | (at_builtin; refine wpl_stepB rfl _ _ rfl rfl rfl (alloc_size _ _).symm (comesSp m) hcs.out HL2.out HB3.out.size (by have := HN.out; omega) ?_; intro v5 w5 h5 hb5 hk5; have H5 := Lib.hid h5; have HB5 := Lib.hid (HB3.out.trans hb5); have Q5 := Lib.hid (hk5 _ _ _ R1.out (by decide)); have d0 := (show w5.cell? ⟨W.heap.size, 0, none⟩ = some (.int .i64 1) from Q5.out.cell 0); have d1 := (show w5.cell? ⟨W.heap.size, 1, none⟩ = some (.string pth) from Q5.out.cell 1); have d2 := (show w5.cell? ⟨W.heap.size, 2, none⟩ = some (.string lnk) from Q5.out.cell 2); have d3 := (show w5.cell? ⟨W.heap.size, 3, none⟩ = some (.int .i64 m.size) from Q5.out.cell 3); have d4 := (show w5.cell? ⟨W.heap.size, 4, none⟩ = some (.slice aa na ca) from Q5.out.cell 4); clear h5 hb5 hk5))
    go_ret
    exact ⟨_, rfl, by have h := H6.out; rw [List.append_assoc] at h; exact h, HB6.out⟩
  · subst h
    have hcs : Hid ([.int .i64 5, .string ppl, .string ⟨#[]⟩, .int .i64 0, .int .i64 0, .int .i64 0, .slice none 0 0] = spCells (comesSp m) (.slice none 0 0)) := Lib.hid (by rw [comesSp, if_pos hmk]; simp only [sp1, spCells, hppl]; rfl)
    rw [hmk] at a0 R1 HL2 HB3 ⊢
    clear fm hW hl hl2 hb2 hb3 r1 hna hpth hlnk hppl hlpl hN hmk
    go_enter Tryz.func29, Tryz.ntmps29
    go_wp2_with (at_builtin; refine wpl_stepB rfl _ _ rfl rfl rfl (alloc_size _ _).symm (comesSp m) hcs.out HL2.out HB3.out.size (by have := HN.out; omega) ?_; intro v5 w5 h5 hb5 hk5; have H5 := Lib.hid h5; have HB5 := Lib.hid (HB3.out.trans hb5); clear h5 hb5 hk5)
    go_ret
    exact ⟨_, rfl, H5.out, HB5.out⟩
  · subst h
    have hcs : Hid ([.int .i64 9, .string lpl, .string ppl, .int .i64 0, .int .i64 0, .int .i64 0, .slice none 0 0] = spCells (comesSp m) (.slice none 0 0)) := Lib.hid (by rw [comesSp, if_neg (by rw [hmk]; decide), if_neg (by rw [hmk]; decide)]; simp only [spCells, hppl, hlpl])
    rw [hmk] at a0 R1 HL2 HB3 ⊢
    clear fm hW hl hl2 hb2 hb3 r1 hna hpth hlnk hppl hlpl hN hmk
    go_enter Tryz.func29, Tryz.ntmps29
    go_wp2_with (at_builtin; refine wpl_stepB rfl _ _ rfl rfl rfl (alloc_size _ _).symm (comesSp m) hcs.out HL2.out HB3.out.size (by have := HN.out; omega) ?_; intro v5 w5 h5 hb5 hk5; have H5 := Lib.hid h5; have HB5 := Lib.hid (HB3.out.trans hb5); clear h5 hb5 hk5)
    go_ret
    exact ⟨_, rfl, H5.out, HB5.out⟩
end Go.Proofs.YtlecpjfggoehdaaGreatDoor.Ar

set_option linter.unusedVariables false
set_option linter.unusedSimpArgs false
set_option maxRecDepth 100000
namespace Go.Proofs.YtlecpjfggoehdaaGreatDoor.Ar
open Go.RowKit Go.Sort Go.Lib Go.Proofs.YtlecpjfggoehdaaGreatDoor.Rs

structure LsA (l : List Mb) : Prop extends LsOk l where
  al : ∀ m ∈ l, FileA m
theorem twinF_mem {l : List Mb} {m x : Mb} (h : twinF l m = some x) : x ∈ l := by
  unfold twinF at h
  obtain ⟨i, _, h⟩ := Option.bind_eq_some_iff.1 h
  obtain ⟨y, hy, h⟩ := Option.bind_eq_some_iff.1 h
  split at h
  · cases h; exact List.mem_of_getElem? hy
  · cases h
theorem changesF_len (a b : Mb) (hb : b.size ≤ 262144) : (changesF a b).length ≤ 600 := by
  have h1 := chW_len a b (pagesN b)
  have h2 := headW_len a b
  have h3 : pagesN b ≤ 513 := by unfold pagesN; omega
  unfold changesF
  simp only [List.length_append]
  split <;> simp only [List.length_nil, List.length_singleton] <;> omega
theorem goesF_len (tl : List Mb) (m : Mb) : (goesF tl m).length ≤ 1 := by unfold goesF; split <;> simp
theorem comesF_len (fr : List Mb) (m : Mb) (hm : m.size ≤ 262144) : (comesF fr m).length ≤ 601 := by
  unfold comesF
  have := changesF_len ((twinF fr m).getD emptyMb) m hm
  rw [List.length_append]
  split <;> split <;> simp only [List.length_nil, List.length_singleton] <;> omega
theorem flatM_len {α β : Type} (f : α → List β) (c : Nat) : ∀ l : List α, (∀ x ∈ l, (f x).length ≤ c) → (l.flatMap f).length ≤ l.length * c
  | [], _ => by simp
  | x :: l, h => by
    have h1 := flatM_len f c l (fun y hy => h y (List.mem_cons_of_mem _ hy))
    have h2 := h x List.mem_cons_self
    rw [List.flatMap_cons, List.length_append, List.length_cons, Nat.succ_mul]
    omega
theorem goes_step (fr tl : List Mb) (j : Nat) (m : Mb) (h : fr[j]? = some m) : (fr.drop j).reverse.flatMap (goesF tl) = (fr.drop (j + 1)).reverse.flatMap (goesF tl) ++ goesF tl m := by
  obtain ⟨hlt, e⟩ := List.getElem?_eq_some_iff.1 h
  rw [List.drop_eq_getElem_cons hlt, e, List.reverse_cons, List.flatMap_append]
  simp
theorem comes_step (fr tl : List Mb) (j : Nat) (m : Mb) (h : tl[j]? = some m) : (tl.take (j + 1)).flatMap (comesF fr) = (tl.take j).flatMap (comesF fr) ++ comesF fr m := by
  rw [List.take_add_one, h, List.flatMap_append]
  simp

set_option maxHeartbeats 8000000 in
theorem call_rsteps (va vb : Value) (fr tl : List Mb) (w : World) (ha : Sl RMb 5 w va fr) (hb : Sl RMb 5 w vb tl) (oka : LsA fr) (okb : LsA tl) (ua : LsU fr) (ub : LsU tl) (la : fr.length ≤ 8192) (lb : tl.length ≤ 8192) :
    Calls Tryz.prog 14 #[va, vb] w fun e w' => ∃ v', e = .returned v' ∧ PlS w.heap.size w' v' (planF fr tl) ∧ Below w.heap.size w w' := by
  have HA := Lib.hid ha
  have HB := Lib.hid hb
  have HOa := Lib.hid oka
  have HOb := Lib.hid okb
  obtain ⟨aa, ba, oa, ca, rfl, haa, hca⟩ := ha
  obtain ⟨ab, bb, ob, cb, rfl, hab, hcb⟩ := hb
  have HCa := Lib.hid hca
  have HCb := Lib.hid hcb
  have HKa : Hid (∀ m : Mb, m.kind ≠ 0 → keptF m fr = (twinF fr m).isSome ∧ ∀ x, twinF fr m = some x → findF fr m.path = x) := Lib.hid (fun m hm => kept_twin ua m hm)
  have HKb : Hid (∀ m : Mb, m.kind ≠ 0 → keptF m tl = (twinF tl m).isSome ∧ ∀ x, twinF tl m = some x → findF tl m.path = x) := Lib.hid (fun m hm => kept_twin ub m hm)
  have HG : Hid (∀ k, ((fr.drop k).reverse.flatMap (goesF tl)).length ≤ 8192) := Lib.hid (fun k => by
    have h := flatM_len (goesF tl) 1 ((fr.drop k).reverse) (fun x _ => goesF_len tl x)
    simp only [List.length_reverse, List.length_drop] at h
    omega)
  have HC : Hid (∀ k, ((tl.take k).flatMap (comesF fr)).length ≤ 6000000) := Lib.hid (fun k => by
    have h := flatM_len (comesF fr) 601 (tl.take k) (fun x hx => comesF_len fr x (okb.file x (List.mem_of_mem_take hx)).s1)
    simp only [List.length_take] at h
    omega)
  obtain ⟨na, hna⟩ : ∃ n, fr.length = n := ⟨_, rfl⟩
  obtain ⟨nb, hnb⟩ : ∃ n, tl.length = n := ⟨_, rfl⟩
  rw [hna] at HA haa la ⊢
  rw [hnb] at HB hab lb ⊢
  have HNa := Lib.hid hna
  have HNb := Lib.hid hnb
  clear hca hcb oka okb ua ub hna hnb
  go_enter Tryz.func14, Tryz.ntmps14
  go_wp2
  go_loopw [5, 6] (fun lv iv wr => ∃ (k : Nat) (z : Int), iv = .int .i64 z ∧ z + 1 = k ∧ k ≤ na ∧ PlS w.heap.size wr lv ((fr.drop k).reverse.flatMap (goesF tl)) ∧ Below w.heap.size w wr)
    (fun _ iv _ => (RowKit.intOf iv + 1).toNat)
  case atStart => exact ⟨na, (na : Int) - 1, rfl, by omega, Nat.le_refl _, by rw [List.drop_eq_nil_of_le (by rw [HNa.out]; exact Nat.le_refl _)]; exact PlS.nil _ _, Below.refl _ _⟩
  case round =>
    obtain ⟨k, z, rfl, hz, hkn, hpl, hbr⟩ := hrel
    have HPL := Lib.hid hpl
    have HBr := Lib.hid hbr
    by_cases hk0 : k = 0
    · subst hk0
      have z0 : ¬ (0 : Int) ≤ z := by omega
      have hpl2 : PlS w.heap.size wr u5 (fr.reverse.flatMap (goesF tl)) := by rw [List.drop_zero] at hpl; exact hpl
      obtain ⟨P1, hP1⟩ : ∃ P1, fr.reverse.flatMap (goesF tl) = P1 := ⟨_, rfl⟩
      have hPl : P1.length ≤ 8192 := by rw [← hP1]; have := HG.out 0; rw [List.drop_zero] at this; exact this
      rw [hP1] at hpl2
      have HP2 := Lib.hid hpl2
      have HP1 := Lib.hid hP1
      clear hpl hbr hpl2 hP1 haa hz hkn
      go_wp2
      obtain ⟨wo, rfl⟩ : ∃ x, x = wr := ⟨_, rfl⟩
      go_loopw [5, 9] (fun lv iv wr => ∃ (k : Nat), iv = .int .i64 k ∧ k ≤ nb ∧ PlS w.heap.size wr lv (P1 ++ (tl.take k).flatMap (comesF fr)) ∧ Below w.heap.size w wr)
        (fun _ iv _ => nb - (RowKit.intOf iv).toNat)
      case atStart => exact ⟨0, rfl, Nat.zero_le _, by rw [List.take_zero, List.flatMap_nil, List.append_nil]; exact HP2.out, HBr.out⟩
      case round =>
        obtain ⟨k, rfl, hkn, hpl, hbr⟩ := hrel
        have HPL := Lib.hid hpl
        have HBq := Lib.hid hbr
        have HLn : Hid (∀ k x, (P1 ++ (tl.take k).flatMap (comesF fr)).length + 1000 ≤ x → x ≤ 1000000000 → True) := Lib.hid (fun _ _ _ _ => trivial)
        by_cases hlt : k < nb
        · obtain ⟨m, hx⟩ : ∃ x, tl[k]? = some x := ⟨_, List.getElem?_eq_getElem (by have := HNb.out; omega)⟩
          obtain ⟨vp, c0, c1, c2, c3, c4, hmv⟩ := RMb.stays _ _ (keeps_below hbr) _ _ _ (HCb.out k m hx)
          obtain ⟨vp', _, _, _, _, d4, hmv0⟩ := HCb.out k m hx
          have hvv : vp' = vp := by
            have := (keeps_below hbr) _ _ _ d4
            rw [this] at c4
            cases c4
            rfl
          subst hvv
          obtain ⟨ap, bp, op, cp, rfl, -, -⟩ := hmv.pieces
          obtain ⟨np, hnp⟩ : ∃ n, m.pieces.length = n := ⟨_, rfl⟩
          have hmem := List.mem_of_getElem? hx
          have hkind := HOb.out.kind m hmem
          have hfa := HOb.out.al m hmem
          have hfl := hmv0.pieces
          obtain ⟨pth, hp⟩ : ∃ x, bs m.path = x := ⟨_, rfl⟩
          obtain ⟨lnk, hl⟩ : ∃ x, bs m.link = x := ⟨_, rfl⟩
          obtain ⟨kb, hkb⟩ : ∃ x, (twinF fr m).isSome = x := ⟨_, rfl⟩
          obtain ⟨LL, hLL⟩ : ∃ x, P1 ++ (tl.take k).flatMap (comesF fr) = x := ⟨_, rfl⟩
          have hLlen : LL.length ≤ 6100000 := by rw [← hLL, List.length_append]; have := HC.out k; omega
          have HK : Hid (∀ w', Below w.heap.size w w' → Calls Tryz.prog 28 #[.agg #[.int .i64 m.kind, .string pth, .string lnk, .int .i64 m.size, .slice ap np cp], .slice aa na ca] w' fun e w'' => e = .returned (.bool kb) ∧ Below w'.heap.size w' w'') := Lib.hid (fun w' hw => by
            have h := call_kept m (.slice ap np cp) (.slice aa na ca) fr w' ⟨_, _, _, rfl⟩ (HA.out.keep RMb.stays (keeps_below hw)) (by have := HNa.out; omega)
            rw [(HKa.out m (by omega)).1, hkb] at h
            simp only [mbCells, hp, hl] at h
            exact h)
          rw [hnp] at hfl
          have HCm : Hid (∀ v' w', PlS w.heap.size w' v' LL → Below w.heap.size w w' → Calls Tryz.prog 29 #[v', .agg #[.int .i64 m.kind, .string pth, .string lnk, .int .i64 m.size, .slice ap np cp]] w' fun e W' => ∃ v'', e = .returned v'' ∧ PlS w.heap.size W' v'' (LL ++ ([comesSp m] ++ if m.kind = 1 then changesF emptyMb m else [])) ∧ Below w.heap.size w W') := Lib.hid (fun v' w' h1 h2 => by
            have h := call_comes w LL v' m (.slice ap np cp) w' h2 h1 hfl hfa hkind (by omega)
            simp only [mbCells, hp, hl] at h
            exact h)
          have HFl := Lib.hid hfl
          have HFa := Lib.hid hfa
          have hst := comes_step fr tl k m hx
          have hst2 : P1 ++ (tl.take (k + 1)).flatMap (comesF fr) = LL ++ comesF fr m := by rw [hst, ← List.append_assoc, hLL]
          have HSt := Lib.hid hst2
          rw [hLL] at HPL
          rw [hnp] at c4
          rw [hp] at c1
          rw [hl] at c2
          have HKb2 := Lib.hid hkb
          have HPt := Lib.hid hp
          have HLk := Lib.hid hl
          have j0 : (0 : Int) ≤ k := Int.natCast_nonneg _
          have j1 : (k : Int) < nb := by omega
          have hb' := hab (by omega)
          subst hb'
          clear hpl hbr hx hmv hmv0 d4 hnp hp hl hkb hab hst hst2 hLL hfl hfa hmem
          cases htw : twinF fr m with
          | none =>
            have hkk := HKb2.out
            rw [htw] at hkk
            cases hkk
            have HCo : Hid (comesF fr m = [comesSp m] ++ if m.kind = 1 then changesF emptyMb m else []) := Lib.hid (by rw [comesF, htw]; rfl)
            clear htw hkind
            go_wp2_with (first
              | (go_at_call 29; refine (HCm.out _ _ PL2.out HB2.out).mono ?_; rintro e w3 ⟨v3, rfl, h3, hb3⟩; have H3 := Lib.hid h3; have HB3 := Lib.hid hb3; clear h3 hb3)
              | (go_at_call 28; refine (HK.out wr HBq.out).mono ?_; rintro e w2 ⟨rfl, hb2⟩; have HB2 := Lib.hid (below_then HBq.out HBq.out.size hb2); have PL2 := Lib.hid (show PlS w.heap.size w2 u5 LL from own_below HPL.out hb2); replace c0 := keeps_below hb2 _ _ _ c0; replace c1 := keeps_below hb2 _ _ _ c1; replace c2 := keeps_below hb2 _ _ _ c2; replace c3 := keeps_below hb2 _ _ _ c3; replace c4 := keeps_below hb2 _ _ _ c4; clear hb2))
            go_roundw
            case rel => exact ⟨k + 1, by go_num, by omega, by rw [HSt.out, HCo.out]; exact H3.out, HB3.out⟩
            case measure => simp [RowKit.intOf]; omega
          | some x =>
            have hkk := HKb2.out
            rw [htw] at hkk
            cases hkk
            by_cases hk1 : m.kind = 1
            · have q1 : (m.kind == 1) = true := by rw [hk1]; rfl
              have HCo : Hid (comesF fr m = changesF x m) := Lib.hid (by rw [comesF, htw, if_pos hk1]; rfl)
              have hfx : findF fr m.path = x := (HKa.out m (by omega)).2 x htw
              have HFx := Lib.hid hfx
              have HAx := Lib.hid (HOa.out.al x (twinF_mem htw))
              clear htw hk1 hkind hfx
              go_wp2_with (first
                | (go_at_call 30; rw [← HPt.out]; refine (call_find w (.slice aa na ca) fr m.path w2 HA.out (keeps_below HB2.out) (by have := HNa.out; omega)).mono ?_; rintro e w3 ⟨⟨v3, rfl, h3⟩, hb3⟩; rw [HFx.out] at h3 ⊢; rw [HPt.out]; obtain ⟨a3, n3, k3, rfl⟩ : ∃ a n c, v3 = .slice a n c := (by obtain ⟨a, _, _, c, h, _⟩ := h3.pieces; exact ⟨_, _, _, h⟩); simp only [mbCells]; have H3 := Lib.hid h3; have HB3 := Lib.hid (below_then HB2.out HB2.out.size hb3); have PL3 := Lib.hid (show PlS w.heap.size w3 u5 LL from own_below PL2.out hb3); replace c0 := keeps_below hb3 _ _ _ c0; replace c1 := keeps_below hb3 _ _ _ c1; replace c2 := keeps_below hb3 _ _ _ c2; replace c3 := keeps_below hb3 _ _ _ c3; replace c4 := keeps_below hb3 _ _ _ c4; clear hb3 h3)
                | (go_at_call 28; refine (HK.out wr HBq.out).mono ?_; rintro e w2 ⟨rfl, hb2⟩; have HB2 := Lib.hid (below_then HBq.out HBq.out.size hb2); have PL2 := Lib.hid (show PlS w.heap.size w2 u5 LL from own_below HPL.out hb2); replace c0 := keeps_below hb2 _ _ _ c0; replace c1 := keeps_below hb2 _ _ _ c1; replace c2 := keeps_below hb2 _ _ _ c2; replace c3 := keeps_below hb2 _ _ _ c3; replace c4 := keeps_below hb2 _ _ _ c4; clear hb2))
              have HBz := Lib.hid (below_alloc1 w3 (.cells #[.int .i64 x.kind, .string (bs x.path), .string (bs x.link), .int .i64 x.size, .slice a3 n3 k3] 58))
              have HRz := Lib.hid (Row.new w3 58 [.int .i64 x.kind, .string (bs x.path), .string (bs x.link), .int .i64 x.size, .slice a3 n3 k3])
              obtain ⟨w4, hw4⟩ : ∃ y, (w3.alloc (.cells #[.int .i64 x.kind, .string (bs x.path), .string (bs x.link), .int .i64 x.size, .slice a3 n3 k3] 58)) = y := ⟨_, rfl⟩
              rw [hw4] at HBz HRz ⊢
              clear hw4
              have HB4 := Lib.hid (below_then HB3.out HB3.out.size HBz.out)
              have PL4 := Lib.hid (show PlS w.heap.size w4 u5 LL from own_below PL3.out HBz.out)
              replace c0 := keeps_below HBz.out _ _ _ c0
              replace c1 := keeps_below HBz.out _ _ _ c1
              replace c2 := keeps_below HBz.out _ _ _ c2
              replace c3 := keeps_below HBz.out _ _ _ c3
              replace c4 := keeps_below HBz.out _ _ _ c4
              obtain ⟨W3, hW3⟩ : ∃ y, w3.heap.size = y := ⟨_, rfl⟩
              rw [hW3] at HRz ⊢
              clear hW3
              have d0 := (show w4.cell? ⟨W3, 0, none⟩ = some (.int .i64 x.kind) from HRz.out.cell 0)
              have d1 := (show w4.cell? ⟨W3, 1, none⟩ = some (.string (bs x.path)) from HRz.out.cell 1)
              have d2 := (show w4.cell? ⟨W3, 2, none⟩ = some (.string (bs x.link)) from HRz.out.cell 2)
              have d3 := (show w4.cell? ⟨W3, 3, none⟩ = some (.int .i64 x.size) from HRz.out.cell 3)
              have d4 := (show w4.cell? ⟨W3, 4, none⟩ = some (.slice a3 n3 k3) from HRz.out.cell 4)
              have HDo : Hid (∀ y, PlS w.heap.size y u5 LL → Below w.heap.size w y → Calls Tryz.prog 31 #[u5, .agg #[.int .i64 x.kind, .string (bs x.path), .string (bs x.link), .int .i64 x.size, .slice a3 n3 k3], .agg #[.int .i64 m.kind, .string pth, .string lnk, .int .i64 m.size, .slice ap np cp]] y fun e y' => ∃ v', e = .returned v' ∧ PlS w.heap.size y' v' (LL ++ changesF x m) ∧ Below w.heap.size w y') := Lib.hid (fun y h1 h2 => by
                have h := call_rchanges w LL u5 x m (.slice a3 n3 k3) (.slice ap np cp) y h2 h1 H3.out.pieces HFl.out HAx.out HFa.out (by omega)
                simp only [mbCells, HPt.out, HLk.out] at h
                exact h)
              clear H3 HB3 PL3 HB2 PL2
              go_wp2_with fail
              go_still_tail 6, (by kernel_rfl)
              change wpList _ _ _ _ _ w4.drew
              have HB5 := Lib.hid ((HB4.out).drew)
              have PL5 : Hid (PlS w.heap.size w4.drew u5 LL) := PL4
              generalize w4.drew = w5 at *
              go_wp2_with (go_at_call 31; refine (HDo.out w5 PL5.out HB5.out).mono ?_; rintro e w6 ⟨v6, rfl, h6, hb6⟩; have H6 := Lib.hid h6; have HB6 := Lib.hid hb6; clear h6 hb6)
              go_roundw
              case rel => exact ⟨k + 1, by go_num, by omega, by rw [HSt.out, HCo.out]; exact H6.out, HB6.out⟩
              case measure => simp [RowKit.intOf]; omega
            · have q1 : (m.kind == 1) = false := by simpa using hk1
              have HCo : Hid (comesF fr m = []) := Lib.hid (by rw [comesF, htw, if_neg hk1]; rfl)
              clear htw hk1 hkind
              go_wp2_with (go_at_call 28; refine (HK.out wr HBq.out).mono ?_; rintro e w2 ⟨rfl, hb2⟩; have HB2 := Lib.hid (below_then HBq.out HBq.out.size hb2); have PL2 := Lib.hid (show PlS w.heap.size w2 u5 LL from own_below HPL.out hb2); replace c0 := keeps_below hb2 _ _ _ c0; clear hb2)
              go_roundw
              case rel => exact ⟨k + 1, by go_num, by omega, by rw [HSt.out, HCo.out, List.append_nil]; exact PL2.out, HB2.out⟩
              case measure => simp [RowKit.intOf]; omega
        · obtain rfl : k = nb := by omega
          have hfin : P1 ++ (tl.take k).flatMap (comesF fr) = planF fr tl := by rw [List.take_of_length_le (by rw [HNb.out]; exact Nat.le_refl _), ← HP1.out]; rfl
          have HFin := Lib.hid hfin
          clear hab hpl hbr hfin
          go_wp2
          go_ret
          exact ⟨_, rfl, by rw [← HFin.out]; exact HPL.out, HBq.out⟩
    · obtain ⟨j, rfl⟩ : ∃ j, k = j + 1 := ⟨k - 1, by omega⟩
      obtain rfl : z = (j : Int) := by omega
      obtain ⟨m, hx⟩ : ∃ x, fr[j]? = some x := ⟨_, List.getElem?_eq_getElem (by have := HNa.out; omega)⟩
      obtain ⟨vp, c0, c1, c2, c3, c4, hmv⟩ := RMb.stays _ _ (keeps_below hbr) _ _ _ (HCa.out j m hx)
      obtain ⟨ap, bp, op, cp, rfl, -, -⟩ := hmv.pieces
      obtain ⟨np, hnp⟩ : ∃ n, m.pieces.length = n := ⟨_, rfl⟩
      have hmem := List.mem_of_getElem? hx
      have hkind := HOa.out.kind m hmem
      have hpth := (HOa.out.file m hmem).path
      obtain ⟨pth, hp⟩ : ∃ x, bs m.path = x := ⟨_, rfl⟩
      obtain ⟨lnk, hl⟩ : ∃ x, bs m.link = x := ⟨_, rfl⟩
      obtain ⟨ppl, hpp⟩ : ∃ x, bs (47 :: m.path) = x := ⟨_, rfl⟩
      obtain ⟨kb, hkb⟩ : ∃ x, (twinF tl m).isSome = x := ⟨_, rfl⟩
      have hzz := bs_size m.path
      have hss := bs_slash m.path
      rw [hp, hpp] at hss
      rw [hp] at hzz
      have HK : Hid (∀ w', Below w.heap.size w w' → Calls Tryz.prog 28 #[.agg #[.int .i64 m.kind, .string pth, .string lnk, .int .i64 m.size, .slice ap np cp], .slice ab nb cb] w' fun e w'' => e = .returned (.bool kb) ∧ Below w'.heap.size w' w'') := Lib.hid (fun w' hw => by
        have h := call_kept m (.slice ap np cp) (.slice ab nb cb) tl w' ⟨_, _, _, rfl⟩ (HB.out.keep RMb.stays (keeps_below hw)) (by have := HNb.out; omega)
        rw [(HKb.out m (by omega)).1, hkb] at h
        simp only [mbCells, hp, hl] at h
        exact h)
      have HSt := Lib.hid (goes_step fr tl j m hx)
      rw [hnp] at c4
      rw [hp] at c1
      rw [hl] at c2
      have HKb2 := Lib.hid hkb
      have HPP := Lib.hid hpp
      have j0 : (0 : Int) ≤ j := Int.natCast_nonneg _
      have j1 : (j : Int) < na := by omega
      have ha' := haa (by omega)
      subst ha'
      clear hpl hbr hx hmv hnp hmem hp hl hpp hkb haa hz
      cases kb with
      | true =>
        have HGo : Hid (goesF tl m = []) := Lib.hid (by
          rw [goesF, if_neg]
          have := HKb2.out
          cases h : twinF tl m with
          | none => rw [h] at this; cases this
          | some x => simp)
        clear hzz hss
        go_wp2_with (go_at_call 28; refine (HK.out wr HBr.out).mono ?_; rintro e w2 ⟨rfl, hb2⟩; have HB2 := Lib.hid (below_then HBr.out HBr.out.size hb2); have PL2 := Lib.hid (show PlS w.heap.size w2 u5 _ from own_below HPL.out hb2); clear hb2)
        go_roundw
        case rel => exact ⟨j, (j : Int) - 1, rfl, by omega, by omega, by rw [HSt.out, HGo.out, List.append_nil]; exact PL2.out, HB2.out⟩
        case measure => (simp [RowKit.intOf] <;> omega)
      | false =>
        have hgo : goesF tl m = [goesSp m] := by
          rw [goesF, if_pos]
          have := HKb2.out
          cases h : twinF tl m with
          | none => rfl
          | some x => rw [h] at this; cases this
        have HGo := Lib.hid hgo
        clear hgo
        by_cases hk2 : m.kind = 2
        · have q1 : (m.kind == 2) = true := by rw [hk2]; rfl
          have hcs : Hid ([.int .i64 7, .string ppl, .string ⟨#[]⟩, .int .i64 0, .int .i64 0, .int .i64 0, .slice none 0 0] = spCells (goesSp m) (.slice none 0 0)) := Lib.hid (by rw [goesSp, if_pos hk2]; simp only [sp1, spCells, HPP.out]; rfl)
          clear hk2 hkind
          go_wp2_with (first
            | (at_builtin; refine wpl_step rfl _ _ rfl rfl rfl (goesSp m) hcs.out PL2.out HB2.out.size (by have := HG.out (j + 1); omega) ?_; intro v5 w5 h5 hb5 hk5; have H5 := Lib.hid h5; have HB5 := Lib.hid (HB2.out.trans hb5); clear h5 hb5 hk5)
            | (go_at_call 28; refine (HK.out wr HBr.out).mono ?_; rintro e w2 ⟨rfl, hb2⟩; have HB2 := Lib.hid (below_then HBr.out HBr.out.size hb2); have PL2 := Lib.hid (show PlS w.heap.size w2 u5 _ from own_below HPL.out hb2); replace c0 := keeps_below hb2 _ _ _ c0; replace c1 := keeps_below hb2 _ _ _ c1; clear hb2))
          go_roundw
          case rel => exact ⟨j, (j : Int) - 1, rfl, by omega, by omega, by rw [HSt.out, HGo.out]; exact H5.out, HB5.out⟩
          case measure => (simp [RowKit.intOf] <;> omega)
        · have q1 : (m.kind == 2) = false := by simpa using hk2
          have hcs : Hid ([.int .i64 6, .string ppl, .string ⟨#[]⟩, .int .i64 0, .int .i64 0, .int .i64 0, .slice none 0 0] = spCells (goesSp m) (.slice none 0 0)) := Lib.hid (by rw [goesSp, if_neg hk2]; simp only [sp1, spCells, HPP.out]; rfl)
          clear hk2 hkind
          go_wp2_with (first
            | (at_builtin; refine wpl_step rfl _ _ rfl rfl rfl (goesSp m) hcs.out PL2.out HB2.out.size (by have := HG.out (j + 1); omega) ?_; intro v5 w5 h5 hb5 hk5; have H5 := Lib.hid h5; have HB5 := Lib.hid (HB2.out.trans hb5); clear h5 hb5 hk5)
            | (go_at_call 28; refine (HK.out wr HBr.out).mono ?_; rintro e w2 ⟨rfl, hb2⟩; have HB2 := Lib.hid (below_then HBr.out HBr.out.size hb2); have PL2 := Lib.hid (show PlS w.heap.size w2 u5 _ from own_below HPL.out hb2); replace c0 := keeps_below hb2 _ _ _ c0; replace c1 := keeps_below hb2 _ _ _ c1; clear hb2))
          go_roundw
          case rel => exact ⟨j, (j : Int) - 1, rfl, by omega, by omega, by rw [HSt.out, HGo.out]; exact H5.out, HB5.out⟩
          case measure => (simp [RowKit.intOf] <;> omega)
end Go.Proofs.YtlecpjfggoehdaaGreatDoor.Ar

set_option linter.unusedVariables false
set_option linter.unusedSimpArgs false
set_option maxRecDepth 100000
namespace Go.Proofs.YtlecpjfggoehdaaGreatDoor.Ar
open Go.RowKit Go.Sort Go.Lib Go.Proofs.YtlecpjfggoehdaaGreatDoor.Rs

set_option maxHeartbeats 4000000 in
theorem call_sameStepsL (va vb : Value) (l : List Sp) (w : World) (ha : Sl RSp 7 w va l) (hb : Sl RSp 7 w vb l) (hlen0 : l.length ≤ 1000000000) (hl : ∀ s ∈ l, s.list.length ≤ 1048576) :
    Calls Tryz.prog 8 #[va, vb] w fun e w' => e = .returned (.bool true) ∧ Below w.heap.size w w' := by
  obtain ⟨aa, ba, oa, ca, rfl, haa, hca⟩ := ha
  obtain ⟨ab, bb, ob, cb, rfl, hab, hcb⟩ := hb
  obtain ⟨n, hn⟩ : ∃ n, l.length = n := ⟨_, rfl⟩
  have hlen := hlen0
  rw [hn] at hlen haa hab ⊢
  have HCa := Lib.hid hca
  have HCb := Lib.hid hcb
  have HN := Lib.hid hn
  have HL := Lib.hid hl
  clear hca hcb hn hl hlen0
  go_enter Tryz.func8, Tryz.ntmps8
  go_wp2
  go_loopw [5] (fun i wr => ∃ (k : Nat), i = .int .i64 k ∧ k ≤ n ∧ Below w.heap.size w wr)
    (fun i _ => n - (RowKit.intOf i).toNat)
  case atStart => exact ⟨0, rfl, Nat.zero_le _, Below.refl _ _⟩
  case round =>
    obtain ⟨k, rfl, hkn, hb⟩ := hrel
    have HB := Lib.hid hb
    by_cases hlt : k < n
    · obtain ⟨s, hx⟩ : ∃ x, l[k]? = some x := ⟨_, List.getElem?_eq_getElem (by have := HN.out; omega)⟩
      obtain ⟨va, p0, p1, p2, p3, p4, p5, p6, hva, _⟩ := RSp.stays _ _ (keeps_below hb) _ _ _ (HCa.out k s hx)
      obtain ⟨vb, q0, q1, q2, q3, q4, q5, q6, hvb, _⟩ := RSp.stays _ _ (keeps_below hb) _ _ _ (HCb.out k s hx)
      have HVa := Lib.hid hva
      have HVb := Lib.hid hvb
      have HSl := Lib.hid (HL.out s (List.mem_of_getElem? hx))
      have k0 : (0 : Int) ≤ k := Int.natCast_nonneg _
      have k1 : (k : Int) < n := by omega
      have ha' := haa (by omega)
      have hb' := hab (by omega)
      subst ha' hb'
      haveI : Nonempty (Wd (Below wr.heap.size wr)) := ⟨⟨_, Below.refl _ _⟩⟩
      have P0 : ∀ y : Wd (Below wr.heap.size wr), y.val.cell? ⟨ba, oa + k * 7, none⟩ = some (.int .i64 s.kind) := fun y => keeps_below y.ok _ _ _ p0
      have P1 : ∀ y : Wd (Below wr.heap.size wr), y.val.cell? ⟨ba, oa + k * 7 + 1, none⟩ = some (.string (bs s.a)) := fun y => keeps_below y.ok _ _ _ p1
      have P2 : ∀ y : Wd (Below wr.heap.size wr), y.val.cell? ⟨ba, oa + k * 7 + 2, none⟩ = some (.string (bs s.b)) := fun y => keeps_below y.ok _ _ _ p2
      have P3 : ∀ y : Wd (Below wr.heap.size wr), y.val.cell? ⟨ba, oa + k * 7 + 3, none⟩ = some (.int .i64 s.n) := fun y => keeps_below y.ok _ _ _ p3
      have P4 : ∀ y : Wd (Below wr.heap.size wr), y.val.cell? ⟨ba, oa + k * 7 + 4, none⟩ = some (.int .i64 s.m) := fun y => keeps_below y.ok _ _ _ p4
      have P5 : ∀ y : Wd (Below wr.heap.size wr), y.val.cell? ⟨ba, oa + k * 7 + 5, none⟩ = some (.int .i64 s.k) := fun y => keeps_below y.ok _ _ _ p5
      have P6 : ∀ y : Wd (Below wr.heap.size wr), y.val.cell? ⟨ba, oa + k * 7 + 6, none⟩ = some va := fun y => keeps_below y.ok _ _ _ p6
      have Q0 : ∀ y : Wd (Below wr.heap.size wr), y.val.cell? ⟨bb, ob + k * 7, none⟩ = some (.int .i64 s.kind) := fun y => keeps_below y.ok _ _ _ q0
      have Q1 : ∀ y : Wd (Below wr.heap.size wr), y.val.cell? ⟨bb, ob + k * 7 + 1, none⟩ = some (.string (bs s.a)) := fun y => keeps_below y.ok _ _ _ q1
      have Q2 : ∀ y : Wd (Below wr.heap.size wr), y.val.cell? ⟨bb, ob + k * 7 + 2, none⟩ = some (.string (bs s.b)) := fun y => keeps_below y.ok _ _ _ q2
      have Q3 : ∀ y : Wd (Below wr.heap.size wr), y.val.cell? ⟨bb, ob + k * 7 + 3, none⟩ = some (.int .i64 s.n) := fun y => keeps_below y.ok _ _ _ q3
      have Q4 : ∀ y : Wd (Below wr.heap.size wr), y.val.cell? ⟨bb, ob + k * 7 + 4, none⟩ = some (.int .i64 s.m) := fun y => keeps_below y.ok _ _ _ q4
      have Q5 : ∀ y : Wd (Below wr.heap.size wr), y.val.cell? ⟨bb, ob + k * 7 + 5, none⟩ = some (.int .i64 s.k) := fun y => keeps_below y.ok _ _ _ q5
      have Q6 : ∀ y : Wd (Below wr.heap.size wr), y.val.cell? ⟨bb, ob + k * 7 + 6, none⟩ = some vb := fun y => keeps_below y.ok _ _ _ q6
      clear hx haa hab hb hva hvb p0 p1 p2 p3 p4 p5 p6 q0 q1 q2 q3 q4 q5 q6
      go_wp2_with fail
      refine wp_region_class (Below wr.heap.size wr) (by kernel_rfl) (by kernel_rfl) (below_drew _) ?_
      repeat (first | go_big_quiet_skip | (go_big_quiet_want; go_big_quiet_op; first | go_big_quiet_on | go_big_quiet_call ((go_at_call 18; refine (call_sameStep s va vb _ (HVa.out.keep RInt.stays (keeps_below (Wd.ok _))) (HVb.out.keep RInt.stays (keeps_below (Wd.ok _))) HSl.out).mono ?_; rintro e w2 ⟨rfl, hb2⟩; exact ⟨rfl, ⟨_, below_after (Wd.ok _) hb2⟩, rfl⟩))))
      refine wpQuiet_nil ?_
      rintro _ ⟨y, rfl⟩
      clear P0 P1 P2 P3 P4 P5 P6 Q0 Q1 Q2 Q3 Q4 Q5 Q6
      have HY := Lib.hid y.ok
      go_wp2
      go_roundw
      case rel => exact ⟨k + 1, by go_num, by omega, below_after HB.out HY.out⟩
      case measure => simp [RowKit.intOf]; omega
    · obtain rfl : k = n := by omega
      clear haa hab hb
      go_wp2
      go_ret
      exact ⟨rfl, HB.out⟩

theorem plan_list (a b : List Mb) : ∀ s ∈ planF a b, s.list = [] := by
  have hch : ∀ (x y : Mb) k, ∀ s ∈ chW x y k, s.list = [] := fun x y k => by
    induction k with
    | zero => intro s hs; simp [chW] at hs
    | succ k ih =>
      intro s hs
      rw [chW, List.mem_append] at hs
      rcases hs with hs | hs
      · exact ih s hs
      · split at hs
        · rw [List.mem_singleton.1 hs]; rfl
        · simp at hs
  have hcf : ∀ x y : Mb, ∀ s ∈ changesF x y, s.list = [] := fun x y s hs => by
    rw [changesF, List.mem_append, List.mem_append] at hs
    rcases hs with (hs | hs) | hs
    · rw [headW] at hs
      split at hs
      · rw [List.mem_singleton.1 hs]; rfl
      · simp at hs
    · exact hch x y _ s hs
    · split at hs
      · simp at hs
      · rw [List.mem_singleton.1 hs]; rfl
  intro s hs
  rw [planF, List.mem_append, List.mem_flatMap, List.mem_flatMap] at hs
  rcases hs with ⟨m, _, hs⟩ | ⟨m, _, hs⟩
  · rw [goesF] at hs
    split at hs
    · rw [List.mem_singleton.1 hs]; rfl
    · simp at hs
  · rw [comesF, List.mem_append] at hs
    rcases hs with hs | hs
    · split at hs
      · rw [List.mem_singleton.1 hs, comesSp]
        split
        · rfl
        · split <;> rfl
      · simp at hs
    · split at hs
      · exact hcf _ _ s hs
      · simp at hs
theorem plan_len (a b : List Mb) (la : a.length ≤ 8192) (lb : b.length ≤ 8192) (hb : ∀ m ∈ b, m.size ≤ 262144) : (planF a b).length ≤ 6000000 := by
  have h1 := flatM_len (goesF b) 1 a.reverse (fun x _ => goesF_len b x)
  have h2 := flatM_len (comesF a) 601 b (fun x hx => comesF_len a x (hb x hx))
  rw [List.length_reverse] at h1
  rw [planF, List.length_append]
  omega
theorem pieces_al {size : Int} : ∀ (L : List Pc) (next : Int), piecesOk size next L = true → ∀ p ∈ L, p.off % 512 = 0 ∧ p.data.length ≤ 512
  | [], _, _ => fun p hp => (by cases hp)
  | x :: L, next, h => by
    rw [piecesOk_cons, Bool.and_eq_true, pcOk] at h
    simp only [Bool.and_eq_true, decide_eq_true_eq] at h
    obtain ⟨⟨⟨⟨⟨h1, h2⟩, h3⟩, h4⟩, _⟩, h5⟩ := h
    intro p hp
    rcases List.mem_cons.1 hp with rfl | hp
    · exact ⟨h3, by omega⟩
    · exact pieces_al L _ h5 p hp
theorem good_al {l : List Mb} (hg : goodB l = true) : ∀ m ∈ l, ∀ p ∈ m.pieces, p.off % 512 = 0 ∧ p.data.length ≤ 512 := fun m hm => by
  have hp := hg
  rw [← pGood_eq] at hp
  obtain ⟨j, hj, rfl⟩ := List.mem_iff_getElem.1 hm
  have ha := (pGood_iff.1 hp).2 j _ (List.getElem?_eq_getElem hj)
  rw [addAt, addOk] at ha
  split at ha
  · cases ha
  · rw [Bool.and_eq_true, Bool.and_eq_true] at ha
    have hk := ha.2.2
    rw [kindOkP] at hk
    generalize l[j] = m at *
    have hb : bareB m = true → m.pieces = [] := fun h => by
      rw [bareB, Bool.and_eq_true, decide_eq_true_eq] at h
      exact List.isEmpty_iff.1 h.2
    split at hk
    · rw [Bool.and_eq_true] at hk
      rw [hb hk.1]; intro p hp; cases hp
    · split at hk
      · rw [Bool.and_eq_true, piecesB, Bool.and_eq_true] at hk
        exact pieces_al _ _ hk.2.2
      · split at hk
        · rw [linkOkP, Bool.and_eq_true] at hk
          rw [hb hk.1]; intro p hp; cases hp
        · cases hk
theorem good_A {l : List Mb} (hg : goodB l = true) (hl : LsSm l) : LsA l := ⟨good_ok hg hl, fun m hm => ⟨(good_ok hg hl).file m hm, good_al hg m hm⟩⟩
theorem good_8192 {l : List Mb} (hg : goodB l = true) : l.length ≤ 8192 := by rw [goodB, Bool.and_eq_true] at hg; exact of_decide_eq_true hg.1
/-- what any bytes open as -/
theorem opB_any (b : List UInt8) (hb : b.length ≤ 1048576) : ∃ l M c, OpB2S l b M c ∧ LsSm l ∧ (∀ m ∈ M, MbR m) ∧ (c = 0 → goodB M = true ∧ LsSm M) ∧ (c = 0 ∨ c = 210) := by
  cases hp : pOpen b with
  | some M =>
    obtain ⟨hg, hm⟩ := forth hp
    have h1 := opened_mb hp hb
    have hs : LsSm M := ⟨(open_short hp hb).1, fun m hm => (h1 m hm).sm⟩
    exact ⟨M, M, 0, .inl ⟨hg, hm.symm, rfl, rfl⟩, hs, h1, fun _ => ⟨hg, hs⟩, .inl rfl⟩
  | none => exact ⟨[], [], 210, .inr ⟨⟨hp, hb⟩, rfl, rfl⟩, ⟨by simp, by simp⟩, by simp, fun h => by omega, .inr rfl⟩
theorem call_ropen2 (l : List Mb) (vb : Value) (B : List UInt8) (M : List Mb) (c : Int) (w : World) (hk : OpB2S l B M c) (hl : LsSm l) (hB : B.length ≤ 1048576) (hs : Sl RByte 1 w vb B) (hc : ∀ a n c, vb = .slice a n c → n ≤ c) :
    Calls Tryz.prog 13 #[vb] w fun e w' => ∃ v L, e = .returned (.tuple #[v, .int .i64 c]) ∧ MemS w.heap.size w' v M L ∧ Below w.heap.size w w' := by
  rcases hk with ⟨hg, rfl, rfl, rfl⟩ | ⟨⟨hpn, hbl⟩, rfl, rfl⟩
  · refine (call_ropen vb _ w hs hB hc).mono ?_
    intro e w' h
    rw [OpenPost.some_iff (back hg hl.mb)] at h
    obtain ⟨hb, v, L, rfl, hm⟩ := h
    exact ⟨v, L, rfl, hm, hb⟩
  · refine (call_ropen vb B w hs hB hc).mono ?_
    intro e w' h
    rw [OpenPost.none_iff hpn] at h
    obtain ⟨hb, rfl⟩ := h
    exact ⟨_, [], rfl, ⟨World.ownsRow_nil _ _ _ _, rfl, by simp, List.Pairwise.nil⟩, hb⟩

set_option maxHeartbeats 4000000 in
theorem call_rplan (l1 l2 : List Mb) (va vb : Value) (D1 D2 : List UInt8) (M1 M2 : List Mb) (c1 c2 : Int) (w : World) (hk1 : OpB2S l1 D1 M1 c1) (hk2 : OpB2S l2 D2 M2 c2) (hl1 : LsSm l1) (hl2 : LsSm l2) (hb1 : D1.length ≤ 1048576) (hb2 : D2.length ≤ 1048576)
    (hs1 : Sl RByte 1 w va D1) (hs2 : Sl RByte 1 w vb D2) (hc1 : ∀ a n c, va = .slice a n c → n ≤ c) (hc2 : ∀ a n c, vb = .slice a n c → n ≤ c) (hR1 : ∀ m ∈ M1, MbR m) (hR2 : ∀ m ∈ M2, MbR m)
    (hg1 : c1 = 0 → goodB M1 = true ∧ LsSm M1) (hg2 : c2 = 0 → goodB M2 = true ∧ LsSm M2) (hcc : (c1 = 0 ∨ c1 = 210) ∧ (c2 = 0 ∨ c2 = 210)) :
    Calls Tryz.prog 5 #[va, vb] w fun e w' => ∃ v, e = .returned (.tuple #[v, .int .i64 (planC c1 c2)]) ∧ PlS w.heap.size w' v (planL c1 c2 M1 M2) ∧ Below w.heap.size w w' := by
  have HO1 : Hid (∀ y, Below w.heap.size w y → Calls Tryz.prog 13 #[va] y fun e w' => ∃ v L, e = .returned (.tuple #[v, .int .i64 c1]) ∧ MemS y.heap.size w' v M1 L ∧ Below y.heap.size y w') := Lib.hid (fun y hy => call_ropen2 l1 va D1 M1 c1 y hk1 hl1 hb1 (hs1.keep RByte.stays (keeps_below hy)) hc1)
  have HO2 : Hid (∀ y, Below w.heap.size w y → Calls Tryz.prog 13 #[vb] y fun e w' => ∃ v L, e = .returned (.tuple #[v, .int .i64 c2]) ∧ MemS y.heap.size w' v M2 L ∧ Below y.heap.size y w') := Lib.hid (fun y hy => call_ropen2 l2 vb D2 M2 c2 y hk2 hl2 hb2 (hs2.keep RByte.stays (keeps_below hy)) hc2)
  have HR1 := Lib.hid hR1
  have HR2 := Lib.hid hR2
  have HG1 := Lib.hid hg1
  have HG2 := Lib.hid hg2
  obtain ⟨h1, h2⟩ := hcc
  clear hk1 hk2 hl1 hl2 hb1 hb2 hs1 hs2 hc1 hc2 hR1 hR2 hg1 hg2
  rcases h1 with rfl | rfl
  · rcases h2 with rfl | rfl
    · obtain ⟨ga, sa⟩ := HG1.out rfl
      obtain ⟨gb, sb⟩ := HG2.out rfl
      have HGa := Lib.hid ga
      have HGb := Lib.hid gb
      have HSa := Lib.hid sa
      have HSb := Lib.hid sb
      clear ga sa gb sb
      go_enter Tryz.func5, Tryz.ntmps5
      go_wp2_with (first
        | (go_at_call 14; refine (call_rsteps v1 v2 M1 M2 w2 ((HM1.out.mb HR1.out).keep RMb.stays (keeps_below HB12.out)) (HM2.out.mb HR2.out) (good_A HGa.out HSa.out) (good_A HGb.out HSb.out) (good_paths HGa.out) (good_paths HGb.out) (good_8192 HGa.out) (good_8192 HGb.out)).mono ?_; rintro e w3 ⟨v3, rfl, h3, hb3⟩; have H3 := Lib.hid h3; have HB3 := Lib.hid (below_then HB2.out HB2.out.size hb3); clear h3 hb3)
        | (go_at_call 13; refine (HO2.out w1 HB1.out).mono ?_; rintro e w2 ⟨v2, L2, rfl, hm2, hb2⟩; have HM2 := Lib.hid hm2; have HB12 := Lib.hid hb2; have HB2 := Lib.hid (below_then HB1.out HB1.out.size hb2); clear hm2 hb2)
        | (go_at_call 13; refine (HO1.out w (Below.refl _ _)).mono ?_; rintro e w1 ⟨v1, L1, rfl, hm1, hb1⟩; have HM1 := Lib.hid hm1; have HB1 := Lib.hid hb1; clear hm1 hb1))
      go_ret2
      exact ⟨_, rfl, own_low H3.out HB2.out.size, HB3.out⟩
    · go_enter Tryz.func5, Tryz.ntmps5
      go_wp2_with (first
        | (go_at_call 13; refine (HO2.out w1 HB1.out).mono ?_; rintro e w2 ⟨v2, L2, rfl, hm2, hb2⟩; have HM2 := Lib.hid hm2; have HB2 := Lib.hid (below_then HB1.out HB1.out.size hb2); clear hm2 hb2)
        | (go_at_call 13; refine (HO1.out w (Below.refl _ _)).mono ?_; rintro e w1 ⟨v1, L1, rfl, hm1, hb1⟩; have HM1 := Lib.hid hm1; have HB1 := Lib.hid hb1; clear hm1 hb1))
      go_ret2
      exact ⟨_, rfl, PlS.nil _ _, HB2.out⟩
  · go_enter Tryz.func5, Tryz.ntmps5
    go_wp2_with (go_at_call 13; refine (HO1.out w (Below.refl _ _)).mono ?_; rintro e w1 ⟨v1, L1, rfl, hm1, hb1⟩; have HM1 := Lib.hid hm1; have HB1 := Lib.hid hb1; clear hm1 hb1)
    go_ret2
    exact ⟨_, rfl, PlS.nil _ _, HB1.out⟩
end Go.Proofs.YtlecpjfggoehdaaGreatDoor.Ar

set_option linter.unusedVariables false
set_option linter.unusedSimpArgs false
set_option maxRecDepth 100000
namespace Go.Proofs.YtlecpjfggoehdaaGreatDoor.Ar
open Go.RowKit Go.Sort Go.Lib Go.Proofs.YtlecpjfggoehdaaGreatDoor.Rs

theorem planL_ok {c1 c2 : Int} {M1 M2 : List Mb} (h1 : c1 = 0 → goodB M1 = true ∧ LsSm M1) (h2 : c2 = 0 → goodB M2 = true ∧ LsSm M2) : (planL c1 c2 M1 M2).length ≤ 1000000000 ∧ ∀ s ∈ planL c1 c2 M1 M2, s.list = [] := by
  unfold planL
  by_cases e1 : c1 ≠ 0
  · rw [if_pos e1]; exact ⟨by simp, by simp⟩
  · rw [if_neg e1]
    by_cases e2 : c2 ≠ 0
    · rw [if_pos e2]; exact ⟨by simp, by simp⟩
    · rw [if_neg e2]
      obtain ⟨g1, s1⟩ := h1 (by omega)
      obtain ⟨g2, s2⟩ := h2 (by omega)
      have := plan_len M1 M2 (good_8192 g1) (good_8192 g2) (fun m hm => ((good_ok g2 s2).file m hm).s1)
      exact ⟨by omega, plan_list _ _⟩
theorem PlS.slN {base : Nat} {w : World} {v : Value} {l : List Sp} (h : PlS base w v l) (hl : ∀ s ∈ l, s.list = []) : Sl RSp 7 w v l := (PlS.cps h hl).sl rfl

set_option maxHeartbeats 8000000 in
theorem call_shipPlans (va vb : Value) (b1 b2 : List UInt8) (w : World) (ha : ArgB w va b1) (hb : ArgB w vb b2) (hl : b1.length + b2.length ≤ 1048576) (hp : Stp w) (hm : MaxL w) (hr : RulesTab w) :
    Calls Tryz.prog 3 #[va, vb] w fun e w' => e = .returned (.bool true) ∧ Below w.heap.size w w' := by
  obtain ⟨l1, M1, c1, k1, s1, r1, g1, e1⟩ := opB_any b1 (by omega)
  obtain ⟨l2, M2, c2, k2, s2, r2, g2, e2⟩ := opB_any b2 (by omega)
  have hlen1 : b1.length ≤ 1048576 := by omega
  have hlen2 : b2.length ≤ 1048576 := by omega
  have HF1 : Hid (∀ y, Below w.heap.size w y → Calls Tryz.prog 4 #[] y fun e w' => e = .returned (.bool true) ∧ Below y.heap.size y w') := Lib.hid (fun y hy => call_ship1 y (hp.below hy) (hm.below hy) (hr.keep (keeps_below hy)))
  have HCp1 : Hid (∀ y, Below w.heap.size w y → Calls Tryz.prog 6 #[va] y fun e w' => ∃ v, e = .returned v ∧ Own y.heap.size w' v b1 ∧ Below y.heap.size y w') := Lib.hid (fun y hy => call_copyBytes va b1 y (ha.keep (keeps_below hy)).sl ha.nil (by omega))
  have HCp2 : Hid (∀ y, Below w.heap.size w y → Calls Tryz.prog 6 #[vb] y fun e w' => ∃ v, e = .returned v ∧ Own y.heap.size w' v b2 ∧ Below y.heap.size y w') := Lib.hid (fun y hy => call_copyBytes vb b2 y (hb.keep (keeps_below hy)).sl hb.nil (by omega))
  obtain ⟨pc, hpc⟩ : ∃ x, planC c1 c2 = x := ⟨_, rfl⟩
  obtain ⟨L, hL⟩ : ∃ x, planL c1 c2 M1 M2 = x := ⟨_, rfl⟩
  have HLo := planL_ok g1 g2
  rw [hL] at HLo
  have HL0 := Lib.hid HLo.1
  have HL1 := Lib.hid HLo.2
  have HRp : Hid (∀ y v v' B B', y.ownsRow B 5 1 v b1.length (b1.map byteV) → y.ownsRow B' 5 1 v' b2.length (b2.map byteV) → Below w.heap.size w y → Calls Tryz.prog 5 #[v, v'] y fun e w' => ∃ u, e = .returned (.tuple #[u, .int .i64 pc]) ∧ PlS y.heap.size w' u L ∧ Below y.heap.size y w') := Lib.hid (fun y v v' B B' h1 h2 hy => by
    have h := call_rplan l1 l2 v v' b1 b2 M1 M2 c1 c2 y k1 k2 s1 s2 hlen1 hlen2 (own_bytes h1) (own_bytes h2) (own_cap h1) (own_cap h2) r1 r2 g1 g2 ⟨e1, e2⟩
    rw [hpc, hL] at h
    exact h)
  have HPp : Hid (∀ y v v' B B', y.ownsRow B 5 1 v b1.length (b1.map byteV) → y.ownsRow B' 5 1 v' b2.length (b2.map byteV) → Below w.heap.size w y → Calls Tryz.prog 7 #[v, v'] y fun e w' => ∃ u, e = .returned (.tuple #[u, .int .i64 pc]) ∧ PlS y.heap.size w' u L ∧ Below y.heap.size y w') := Lib.hid (fun y v v' B B' h1 h2 hy => by
    have h := call_plan l1 l2 v v' b1 b2 M1 M2 c1 c2 y k1 k2 s1 s2 (own_bytes h1) (own_bytes h2) (own_cap h1) (own_cap h2) (hp.below hy) (hm.below hy) (hr.keep (keeps_below hy)) r1 r2
    rw [hpc, hL] at h
    exact h)
  have HA := Lib.hid ha
  have HB := Lib.hid hb
  have HLl := Lib.hid (And.intro hlen1 hlen2)
  obtain ⟨aa, ba, oa, ca, rfl, -, -⟩ := ha.sl
  obtain ⟨ab, bb, ob, cb, rfl, -, -⟩ := hb.sl
  obtain ⟨n1, hn1⟩ : ∃ n, b1.length = n := ⟨_, rfl⟩
  obtain ⟨n2, hn2⟩ : ∃ n, b2.length = n := ⟨_, rfl⟩
  rw [hn1, hn2] at hl
  rw [hn1] at HA HCp1 ⊢
  rw [hn2] at HB HCp2 ⊢
  have z0 : ¬ (1048576 : Int) < (n1 : Int) + n2 := by omega
  have hq : (pc == pc) = true := by simp
  clear k1 s1 r1 g1 e1 k2 s2 r2 g2 e2 hlen1 hlen2 hp hm hr ha hb hpc hL HLo hn1 hn2
  go_enter Tryz.func3, Tryz.ntmps3
  go_wp2_with (first
    | (go_at_call 9; refine (call_alike23 v6 (.slice ab n2 cb) b2 w9 (own_bytes HO69.out) (HB.out.keep (keeps_below HB9.out)).sl (by have := HLl.out; omega)).mono ?_; rintro e w10 ⟨rfl, hb10⟩; have HB10 := Lib.hid (below_after HB9.out hb10); clear hb10)
    | (go_at_call 9; refine (call_alike23 v5 (.slice aa n1 ca) b1 w8 (own_bytes HO58.out) (HA.out.keep (keeps_below HB8.out)).sl (by have := HLl.out; omega)).mono ?_; rintro e w9 ⟨rfl, hb9⟩; have HB9 := Lib.hid (below_after HB8.out hb9); have HO69 := Lib.hid (own_below HO68.out hb9); clear hb9)
    | (go_at_call 8; refine (call_sameStepsL v7 v4 L w7 (HP7.out.slN HL1.out) ((show PlS w3.heap.size w7 v4 L from own_below HP46.out HBd7.out).slN HL1.out) HL0.out (fun s hs => by rw [HL1.out s hs]; simp)).mono ?_; rintro e w8 ⟨rfl, hb8⟩; have HB8 := Lib.hid (below_after HB7.out hb8); have HO58 := Lib.hid (own_below HO57.out hb8); have HO68 := Lib.hid (own_below HO67.out hb8); clear hb8)
    | (go_at_call 7; refine (HPp.out w6 v5 v6 _ _ HO56.out HO6.out HB6.out).mono ?_; rintro e w7 ⟨v7, rfl, hp7, hb7⟩; have HP7 := Lib.hid hp7; have HBd7 := Lib.hid hb7; have HB7 := Lib.hid (below_after HB6.out hb7); have HO57 := Lib.hid (own_below HO56.out hb7); have HO67 := Lib.hid (own_below HO6.out hb7); clear hp7 hb7)
    | (go_at_call 6; refine (HCp2.out w5 HB5.out).mono ?_; rintro e w6 ⟨v6, rfl, ho6, hb6⟩; have HO6 := Lib.hid ho6; have HB6 := Lib.hid (below_after HB5.out hb6); have HO56 := Lib.hid (own_below HO5.out hb6); have HP46 := Lib.hid (show PlS w3.heap.size w6 v4 L from own_below HP45.out hb6); clear ho6 hb6)
    | (go_at_call 6; refine (HCp1.out w4 HB4.out).mono ?_; rintro e w5 ⟨v5, rfl, ho5, hb5⟩; have HO5 := Lib.hid ho5; have HB5 := Lib.hid (below_after HB4.out hb5); have HP45 := Lib.hid (show PlS w3.heap.size w5 v4 L from own_below HP4.out hb5); clear ho5 hb5)
    | (go_at_call 5; refine (HRp.out w3 v2 v3 _ _ HO23.out HO3.out HB3.out).mono ?_; rintro e w4 ⟨v4, rfl, hp4, hb4⟩; have HP4 := Lib.hid hp4; have HB4 := Lib.hid (below_after HB3.out hb4); clear hp4 hb4)
    | (go_at_call 6; refine (HCp2.out w2 HB2.out).mono ?_; rintro e w3 ⟨v3, rfl, ho3, hb3⟩; have HO3 := Lib.hid ho3; have HB3 := Lib.hid (below_after HB2.out hb3); have HO23 := Lib.hid (own_below HO2.out hb3); clear ho3 hb3)
    | (go_at_call 6; refine (HCp1.out w1 HB1.out).mono ?_; rintro e w2 ⟨v2, rfl, ho2, hb2⟩; have HO2 := Lib.hid ho2; have HB2 := Lib.hid (below_after HB1.out hb2); clear ho2 hb2)
    | (go_at_call 4; refine (HF1.out w (Below.refl _ _)).mono ?_; rintro e w1 ⟨rfl, hb1⟩; have HB1 := Lib.hid hb1; clear hb1))
  go_ret
  exact ⟨rfl, HB10.out⟩
end Go.Proofs.YtlecpjfggoehdaaGreatDoor.Ar
