/- Archive, the law's own: alike, same, marked, where they say yes. -/
import Derived.Test.YtlecpjfggoehdaaDoorArP
import Derived.IntWalk
import Derived.Deep.DeepCutAuto
set_option linter.unusedVariables false
set_option linter.unusedSimpArgs false
set_option maxRecDepth 100000
namespace Go.Proofs.YtlecpjfggoehdaaDoor.Ar
open Go.RowKit Go.Sort Go.Lib Go.Proofs.YtlecpjfggoehdaaDoor.Rs

theorem below_after {w w1 w2 : World} (h : Below w.heap.size w w1) (k : Below w1.heap.size w1 w2) : Below w.heap.size w w2 := below_then h h.size k
theorem Below.drewN' {N : Nat} {w w' : World} (h : Below N w w') (n : Nat) : Below N w (w'.drewN n) := ⟨h.os, h.tape, h.output, h.size, h.block⟩
set_option maxHeartbeats 1000000 in
theorem call_alike (va vb : Value) (l : List UInt8) (w : World) (ha : Sl RByte 1 w va l) (hb : Sl RByte 1 w vb l) (hl : l.length ≤ 100000000000000) :
    Calls Tryd.prog 17 #[va, vb] w fun e w' => e = .returned (.bool true) ∧ Below w.heap.size w w' := by
  obtain ⟨aa, ba, oa, ca, rfl, haa, hca⟩ := ha
  obtain ⟨ab, bb, ob, cb, rfl, hab, hcb⟩ := hb
  obtain ⟨n, hn⟩ : ∃ n, l.length = n := ⟨_, rfl⟩
  rw [hn] at hl haa hab ⊢
  have HCa := Lib.hid hca
  have HCb := Lib.hid hcb
  have HN := Lib.hid hn
  clear hca hcb hn
  go_enter Tryd.func17, Tryd.ntmps17
  go_wp2
  go_loopw [5] (fun i wr => ∃ (k : Nat), i = .int .i64 k ∧ k ≤ n ∧ Below w.heap.size w wr)
    (fun i _ => n - (RowKit.intOf i).toNat)
  case atStart => exact ⟨0, rfl, Nat.zero_le _, Below.refl _ _⟩
  case round =>
    obtain ⟨k, rfl, hkn, hb⟩ := hrel
    have HB := Lib.hid hb
    by_cases hlt : k < n
    · obtain ⟨x, hx⟩ : ∃ x, l[k]? = some x := ⟨_, List.getElem?_eq_getElem (by have := HN.out; omega)⟩
      have c1 := RByte.stays _ _ (keeps_below hb) _ _ _ (HCa.out k x hx)
      have c2 := RByte.stays _ _ (keeps_below hb) _ _ _ (HCb.out k x hx)
      simp only [RByte, byteV, Nat.mul_one] at c1 c2
      have k0 : (0 : Int) ≤ k := Int.natCast_nonneg _
      have k1 : (k : Int) < n := by omega
      have ha' := haa (by omega)
      have hb' := hab (by omega)
      subst ha' hb'
      clear hx haa hab hb
      go_wp2_with fail
      go_quiet (fail)
      have HBd := Lib.hid (Below.drewN' HB.out nq)
      clear c1 c2
      generalize wr.drewN nq = wd at *
      go_wp2
      go_roundw
      case rel => exact ⟨k + 1, by go_num, by omega, HBd.out⟩
      case measure => simp [RowKit.intOf]; omega
    · obtain rfl : k = n := by omega
      clear haa hab hb
      go_wp2
      go_ret
      exact ⟨rfl, HB.out⟩

def LsSm' (l : List Mb) : Prop := l.length ≤ 1048576 ∧ ∀ m ∈ l, m.pieces.length ≤ 1048576
/-- a slice of pieces -/
def RPcs (w : World) (b o : Nat) (ps : List Pc) : Prop := ∃ vp, w.cell? ⟨b, o, none⟩ = some vp ∧ Sl RPc 2 w vp ps
theorem RPcs.stays : Stays RPcs := fun _ _ hk _ _ _ h => by
  obtain ⟨vp, h0, h1⟩ := h
  exact ⟨vp, hk _ _ _ h0, h1.keep RPc.stays hk⟩
def markP : Pc := ⟨-7, [109, 97, 114, 107]⟩

set_option maxHeartbeats 2000000 in
theorem call_marked (va vm : Value) (L : List Mb) (m : Mb) (M : List (List Pc)) (w : World) (ha : Sl RMb 5 w va (L ++ [m])) (hm : Sl RPcs 1 w vm (M.map (· ++ [markP]))) (hp : m.path = [109, 97, 114, 107]) (hL : L.length ≤ 1048576) (hM : M.length ≤ 1048576) (hMl : ∀ p ∈ M, p.length ≤ 1048576) :
    Calls Tryd.prog 19 #[va, vm] w fun e w' => e = .returned (.bool true) ∧ Below w.heap.size w w' := by
  obtain ⟨aa, ba, oa, ca, rfl, haa, hca⟩ := ha
  obtain ⟨ab, bb, ob, cb, rfl, hab, hcb⟩ := hm
  obtain ⟨n, hn⟩ : ∃ n, L.length = n := ⟨_, rfl⟩
  obtain ⟨mm, hmm⟩ : ∃ n, M.length = n := ⟨_, rfl⟩
  have e1 : (L ++ [m]).length = n + 1 := by simp [hn]
  have e2 : (M.map (· ++ [markP])).length = mm := by simp [hmm]
  rw [e1] at haa ⊢
  rw [e2] at hab ⊢
  rw [hn] at hL
  rw [hmm] at hM
  have ha' := haa (by omega)
  subst ha'
  obtain ⟨vp, d0, d1, d2, d3, d4, _⟩ := hca n m (by rw [List.getElem?_append_right (by omega)]; simp [hn])
  rw [hp] at d1
  have HCb := Lib.hid hcb
  have HMm := Lib.hid hmm
  have HMl := Lib.hid hMl
  have HD1 := Lib.hid d1
  clear hca hcb hmm hMl d0 d2 d3 d4 d1 haa hp hn e1 e2
  have ebs := bs_toList [109, 97, 114, 107]
  go_enter Tryd.func19, Tryd.ntmps19
  go_wp2
  go_loopw [5] (fun i wr => ∃ (k : Nat), i = .int .i64 k ∧ k ≤ mm ∧ wr = w)
    (fun i _ => mm - (RowKit.intOf i).toNat)
  case atStart => exact ⟨0, rfl, Nat.zero_le _, rfl⟩
  case round =>
    obtain ⟨k, rfl, hkn, rfl⟩ := hrel
    by_cases hlt : k < mm
    · obtain ⟨p, hx⟩ : ∃ x, M[k]? = some x := ⟨_, List.getElem?_eq_getElem (by have := HMm.out; omega)⟩
      obtain ⟨vp, c0, av, bv, ov, cv, rfl, hav, hcv⟩ := HCb.out k (p ++ [markP]) (by rw [List.getElem?_map, hx]; rfl)
      rw [Nat.mul_one] at c0
      obtain ⟨np, hnp⟩ : ∃ n, p.length = n := ⟨_, rfl⟩
      have hpl := HMl.out p (List.mem_of_getElem? hx)
      have e3 : (p ++ [markP]).length = np + 1 := by simp [hnp]
      rw [e3] at c0 hav
      obtain ⟨f0, f1, _⟩ := hcv np markP (by rw [List.getElem?_append_right (by omega)]; simp [hnp])
      have hav' := hav (by omega)
      subst hav'
      have hb' := hab (by omega)
      subst hb'
      rw [hnp] at hpl
      have k1 : (k : Int) < mm := by omega
      simp only [markP] at f0 f1
      clear hx hav hcv e3 hnp hab
      go_wp2
      go_roundw
      case rel => exact ⟨k + 1, by go_num, by omega, trivial⟩
      case measure => simp [RowKit.intOf]; omega
    · obtain rfl : k = mm := by omega
      have d1 := HD1.out
      clear hab
      go_wp2
      go_ret
      exact ⟨rfl, Below.refl _ _⟩

/-- what 'same' knows of two members' boxes -/
abbrev SmS (w0 : World) (B1 B2 : Nat) (m : Mb) (va vb : Value) (w' : World) : Prop :=
  w'.cell? ⟨B1, 4, none⟩ = some va ∧ w'.cell? ⟨B2, 4, none⟩ = some vb ∧ Hid (Row w' B1 51 (mbCells m va) ∧ Row w' B2 51 (mbCells m vb) ∧ Below w0.heap.size w0 w')

set_option maxHeartbeats 4000000 in
theorem call_same (va vb : Value) (l : List Mb) (w : World) (ha : Sl RMb 5 w va l) (hb : Sl RMb 5 w vb l) (hl : LsSm' l) :
    Calls Tryd.prog 18 #[va, vb] w fun e w' => e = .returned (.bool true) ∧ Below w.heap.size w w' := by
  obtain ⟨aa, ba, oa, ca, rfl, haa, hca⟩ := ha
  obtain ⟨ab, bb, ob, cb, rfl, hab, hcb⟩ := hb
  obtain ⟨n, hn⟩ : ∃ n, l.length = n := ⟨_, rfl⟩
  have hlen := hl.1
  rw [hn] at hlen haa hab ⊢
  have HCa := Lib.hid hca
  have HCb := Lib.hid hcb
  have HN := Lib.hid hn
  have HL := Lib.hid hl
  clear hca hcb hn hl
  go_enter Tryd.func18, Tryd.ntmps18
  go_wp2
  go_loopw [5] (fun i wr => ∃ (k : Nat), i = .int .i64 k ∧ k ≤ n ∧ Below w.heap.size w wr)
    (fun i _ => n - (RowKit.intOf i).toNat)
  case atStart => exact ⟨0, rfl, Nat.zero_le _, Below.refl _ _⟩
  case round =>
    obtain ⟨k, rfl, hkn, hb⟩ := hrel
    have HB := Lib.hid hb
    by_cases hlt : k < n
    · obtain ⟨m, hx⟩ : ∃ x, l[k]? = some x := ⟨_, List.getElem?_eq_getElem (by have := HN.out; omega)⟩
      obtain ⟨pa, p0, p1, p2, p3, p4, hva⟩ := RMb.stays _ _ (keeps_below hb) _ _ _ (HCa.out k m hx)
      obtain ⟨pb, q0, q1, q2, q3, q4, hvb⟩ := RMb.stays _ _ (keeps_below hb) _ _ _ (HCb.out k m hx)
      obtain ⟨aP, bP, oP, cP, rfl, haP, hcP⟩ := hva.pieces
      obtain ⟨aQ, bQ, oQ, cQ, rfl, haQ, hcQ⟩ := hvb.pieces
      obtain ⟨np, hnp⟩ : ∃ n, m.pieces.length = n := ⟨_, rfl⟩
      have hpl := HL.out.2 m (List.mem_of_getElem? hx)
      rw [hnp] at p4 q4 haP haQ hpl
      have k0 : (0 : Int) ≤ k := Int.natCast_nonneg _
      have k1 : (k : Int) < n := by omega
      have ha' := haa (by omega)
      have hb' := hab (by omega)
      subst ha' hb'
      have HcP := Lib.hid hcP
      have HcQ := Lib.hid hcQ
      have HNp := Lib.hid hnp
      clear hx haa hab hb hva hvb hcP hcQ hnp
      go_upto_region 6 with (fail)
      go_cut [6, 7] (fun v6 v7 wc => ∃ B1 B2, v6 = .pointer (some ⟨B1, 0, none⟩) ∧ v7 = .pointer (some ⟨B2, 0, none⟩) ∧ Row wc B1 51 (mbCells m (.slice aP np cP)) ∧ Row wc B2 51 (mbCells m (.slice aQ np cQ)) ∧ Below wr.heap.size wr wc)
      case first =>
        go_region_held3 (fun w' => w'.cell? ⟨ba, oa + k * 5, none⟩ = some (.int .i64 m.kind) ∧ w'.cell? ⟨ba, oa + k * 5 + 1, none⟩ = some (.string (bs m.path)) ∧ w'.cell? ⟨ba, oa + k * 5 + 2, none⟩ = some (.string (bs m.link)) ∧ w'.cell? ⟨ba, oa + k * 5 + 3, none⟩ = some (.int .i64 m.size) ∧ w'.cell? ⟨ba, oa + k * 5 + 4, none⟩ = some (.slice aP np cP) ∧
            w'.cell? ⟨bb, ob + k * 5, none⟩ = some (.int .i64 m.kind) ∧ w'.cell? ⟨bb, ob + k * 5 + 1, none⟩ = some (.string (bs m.path)) ∧ w'.cell? ⟨bb, ob + k * 5 + 2, none⟩ = some (.string (bs m.link)) ∧ w'.cell? ⟨bb, ob + k * 5 + 3, none⟩ = some (.int .i64 m.size) ∧ w'.cell? ⟨bb, ob + k * 5 + 4, none⟩ = some (.slice aQ np cQ))
          (go_keep) (first | fail)
        · go_wp2
          go_meet
          case rel => exact ⟨wr.heap.size, wr.heap.size + 1, rfl, rfl, ((Row.new wr 51 (mbCells m (.slice aP np cP))).alloc _).drew, (row_new1 wr _ 51 (mbCells m (.slice aQ np cQ))).drew, (below_alloc2 wr _ _).drew⟩
        · go_wp2
          go_meet
          case rel => exact ⟨wr.heap.size + 1, wr.heap.size, rfl, rfl, (row_new1 wr _ 51 (mbCells m (.slice aP np cP))).drew, ((Row.new wr 51 (mbCells m (.slice aQ np cQ))).alloc _).drew, (below_alloc2 wr _ _).drew⟩
      case rest =>
        obtain ⟨B1, B2, rfl, rfl, r1, r2, hbc⟩ := hcut
        have R1 := Lib.hid r1
        have R2 := Lib.hid r2
        have HBc := Lib.hid (below_after HB.out hbc)
        have HcP2 : Hid (∀ j x, m.pieces[j]? = some x → RPc wc bP (oP + j * 2) x) := Lib.hid (fun j x hj => RPc.stays _ _ (keeps_below hbc) _ _ _ (HcP.out j x hj))
        have HcQ2 : Hid (∀ j x, m.pieces[j]? = some x → RPc wc bQ (oQ + j * 2) x) := Lib.hid (fun j x hj => RPc.stays _ _ (keeps_below hbc) _ _ _ (HcQ.out j x hj))
        have a0 := (show _ = some (Value.int .i64 m.kind) from r1.cell 0)
        have a1 := (show _ = some (Value.string (bs m.path)) from r1.cell 1)
        have a2 := (show _ = some (Value.string (bs m.link)) from r1.cell 2)
        have a3 := (show _ = some (Value.int .i64 m.size) from r1.cell 3)
        have a4 := (show _ = some (Value.slice aP np cP) from r1.cell 4)
        have b0 := (show _ = some (Value.int .i64 m.kind) from r2.cell 0)
        have b1 := (show _ = some (Value.string (bs m.path)) from r2.cell 1)
        have b2 := (show _ = some (Value.string (bs m.link)) from r2.cell 2)
        have b3 := (show _ = some (Value.int .i64 m.size) from r2.cell 3)
        have b4 := (show _ = some (Value.slice aQ np cQ) from r2.cell 4)
        clear p0 p1 p2 p3 p4 q0 q1 q2 q3 q4 r1 r2 hbc HcP HcQ HB
        go_step; go_step
        go_wp2
        clear a0 a1 a2 a3 a4 b0 b1 b2 b3 b4
        go_loopw [8] (fun i wr => ∃ (j : Nat), i = .int .i64 j ∧ j ≤ np ∧ Below wc.heap.size wc wr)
          (fun i _ => np - (RowKit.intOf i).toNat)
        case atStart => exact ⟨0, rfl, Nat.zero_le _, Below.refl _ _⟩
        case round =>
          obtain ⟨j, rfl, hjn, hb⟩ := hrel
          have HBj := Lib.hid hb
          have a4 := (show _ = some (Value.slice aP np cP) from (R1.out.below hb R1.out.lt).cell 4)
          have b4 := (show _ = some (Value.slice aQ np cQ) from (R2.out.below hb R2.out.lt).cell 4)
          by_cases hjl : j < np
          · obtain ⟨pc, hpc⟩ : ∃ x, m.pieces[j]? = some x := ⟨_, List.getElem?_eq_getElem (by have := HNp.out; omega)⟩
            obtain ⟨c0, c1, _⟩ := RPc.stays _ _ (keeps_below hb) _ _ _ (HcP2.out j pc hpc)
            obtain ⟨d0, d1, _⟩ := RPc.stays _ _ (keeps_below hb) _ _ _ (HcQ2.out j pc hpc)
            have haP' := haP (by omega)
            have haQ' := haQ (by omega)
            subst haP' haQ'
            have j0 : (0 : Int) ≤ j := Int.natCast_nonneg _
            have j1 : (j : Int) < np := by omega
            clear hpc haP haQ hb
            go_wp2_with fail
            go_quiet (fail)
            have HBd := Lib.hid (Below.drewN' HBj.out nq)
            clear a4 b4 c0 c1 d0 d1
            generalize wr.drewN nq = wd at *
            go_wp2
            go_roundw
            case rel => exact ⟨j + 1, by go_num, by omega, HBd.out⟩
            case measure => simp [RowKit.intOf]; omega
          · obtain rfl : j = np := by omega
            clear haP haQ hb
            go_wp2
            go_roundw
            case rel => exact ⟨k + 1, by go_num, by omega, below_after HBc.out HBj.out⟩
            case measure => simp [RowKit.intOf]; omega
    · obtain rfl : k = n := by omega
      clear haa hab hb
      go_wp2
      go_ret
      exact ⟨rfl, HB.out⟩
end Go.Proofs.YtlecpjfggoehdaaDoor.Ar
