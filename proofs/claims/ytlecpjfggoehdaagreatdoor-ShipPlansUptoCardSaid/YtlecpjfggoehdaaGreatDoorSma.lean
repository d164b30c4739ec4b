/- Sa Sb Sc Sd Se Sf Sg Sh Sk -/
import Derived.Test.YtlecpjfggoehdaaGreatDoorArTw
import Derived.Test.YtlecpjfggoehdaaGreatDoorArX
import Derived.Test.YtlecpjfggoehdaaGreatDoorArTx
import Derived.Deep.AppendLies
import Derived.Deep.RegionLaw
import Derived.Test.YtlecpjfggoehdaaGreatDoorArOp
import Derived.Test.YtlecpjfggoehdaaGreatDoorBkm
import Derived.Lib.BufferWrite
import Derived.Deep.WholeRow
/- Ship, Room: what a step costs, in the program and in the reference. -/
set_option linter.unusedVariables false
set_option linter.unusedSimpArgs false
set_option maxRecDepth 100000
namespace Go.Proofs.YtlecpjfggoehdaaGreatDoor.Ar
open Go.RowKit Go.Sort Go.Lib Go.Proofs.YtlecpjfggoehdaaGreatDoor.Rs

/-- a step -/
structure Sp where
  kind : Int
  a : List UInt8
  b : List UInt8
  n : Int
  m : Int
  k : Int
  list : List Int
def spCells (s : Sp) (vl : Value) : List Value := [.int .i64 s.kind, .string (bs s.a), .string (bs s.b), .int .i64 s.n, .int .i64 s.m, .int .i64 s.k, vl]
/-- what a step costs -/
def writeF (n : Int) (len : Nat) : Int := if len = 0 ∨ 4096 < len ∨ n < 0 ∨ 262144 - (len : Int) < n then 0 else (n + len - 1) / 512 - n / 512 + 3
def costF (s : Sp) : Int :=
  if s.kind = 4 ∨ s.kind = 5 ∨ s.kind = 6 ∨ s.kind = 7 ∨ s.kind = 9 then 1
  else if s.kind = 12 then 2
  else if s.kind = 11 then writeF s.n s.b.length else 0

theorem costF_one {s : Sp} (h : s.kind = 4 ∨ s.kind = 5 ∨ s.kind = 6 ∨ s.kind = 7 ∨ s.kind = 9) : costF s = 1 := if_pos h
theorem costF_twelve {s : Sp} (h : s.kind = 12) : costF s = 2 := by rw [costF, if_neg (by omega), if_pos h]
theorem costF_eleven {s : Sp} (h : s.kind = 11) : costF s = writeF s.n s.b.length := by rw [costF, if_neg (by omega), if_neg (by omega), if_pos h]
theorem costF_else {s : Sp} (h1 : ¬ s.kind = 4) (h2 : ¬ s.kind = 5) (h3 : ¬ s.kind = 6) (h4 : ¬ s.kind = 7) (h5 : ¬ s.kind = 9) (h6 : ¬ s.kind = 12) (h7 : ¬ s.kind = 11) : costF s = 0 := by
  rw [costF, if_neg (by omega), if_neg h6, if_neg h7]

set_option maxHeartbeats 2000000 in
theorem call_cost (s : Sp) (al : Option Addr) (nl cl : Nat) (w : World) (hb : s.b.length ≤ 1048576) :
    Calls Tryz.prog 24 #[.agg #[.int .i64 s.kind, .string (bs s.a), .string (bs s.b), .int .i64 s.n, .int .i64 s.m, .int .i64 s.k, .slice al nl cl]] w fun e w' => e = .returned (.int .i64 (costF s)) ∧ Below w.heap.size w w' := by
  obtain ⟨kind, a, b, n, m, k, list⟩ := s
  obtain ⟨C, hC⟩ : ∃ C, costF ⟨kind, a, b, n, m, k, list⟩ = C := ⟨_, rfl⟩
  obtain ⟨lb, hlb⟩ : ∃ n, b.length = n := ⟨_, rfl⟩
  obtain ⟨sa, hsa⟩ : ∃ x, bs a = x := ⟨_, rfl⟩
  obtain ⟨sb, hsb⟩ : ∃ x, bs b = x := ⟨_, rfl⟩
  have hz : sb.size = lb := by rw [← hsb, ← hlb]; simp [bs, ByteArray.size]
  simp only at hb ⊢
  rw [hC, hsa, hsb]
  have HC := Lib.hid hC
  have HLB := Lib.hid hlb
  rw [hlb] at hb
  clear hC hsa hsb hlb
  go_enter Tryz.func24, Tryz.ntmps24
  by_cases h4 : kind = 4
  · subst h4
    have hC : C = 1 := HC.out.symm.trans (costF_one (by simp))
    subst hC
    go_wp2
    go_ret
    exact ⟨rfl, below_alloc1 w _⟩
  by_cases h5 : kind = 5
  · subst h5
    have hC : C = 1 := HC.out.symm.trans (costF_one (by simp))
    subst hC
    go_wp2
    go_ret
    exact ⟨rfl, below_alloc1 w _⟩
  by_cases h6 : kind = 6
  · subst h6
    have hC : C = 1 := HC.out.symm.trans (costF_one (by simp))
    subst hC
    go_wp2
    go_ret
    exact ⟨rfl, below_alloc1 w _⟩
  by_cases h7 : kind = 7
  · subst h7
    have hC : C = 1 := HC.out.symm.trans (costF_one (by simp))
    subst hC
    go_wp2
    go_ret
    exact ⟨rfl, below_alloc1 w _⟩
  by_cases h9 : kind = 9
  · subst h9
    have hC : C = 1 := HC.out.symm.trans (costF_one (by simp))
    subst hC
    go_wp2
    go_ret
    exact ⟨rfl, below_alloc1 w _⟩
  by_cases h12 : kind = 12
  · subst h12
    have hC : C = 2 := HC.out.symm.trans (costF_twelve rfl)
    subst hC
    go_wp2
    go_ret
    exact ⟨rfl, below_alloc1 w _⟩
  by_cases h11 : kind = 11
  · subst h11
    have hw : C = writeF n lb := (HC.out.symm.trans (costF_eleven rfl)).trans (by rw [HLB.out])
    by_cases c1 : lb = 0
    · have hC : C = 0 := by rw [hw, writeF, if_pos (by omega)]
      have HW := Lib.hid hw
      clear hw
      subst hC
      subst c1
      go_wp2
      go_ret
      exact ⟨rfl, below_alloc1 w _⟩
    by_cases c2 : 4096 < lb
    · have hC : C = 0 := by rw [hw, writeF, if_pos (by omega)]
      clear hw
      subst hC
      have k1 : ¬ (lb : Int) = 0 := by omega
      have k2 : ¬ (lb : Int) < 1 := by omega
      have k3 : (4096 : Int) < lb := by omega
      go_wp2
      go_ret
      exact ⟨rfl, below_alloc1 w _⟩
    by_cases c3 : n < 0
    · have hC : C = 0 := by rw [hw, writeF, if_pos (by omega)]
      clear hw
      subst hC
      have k1 : ¬ (lb : Int) = 0 := by omega
      have k2 : ¬ (lb : Int) < 1 := by omega
      have k3 : ¬ (4096 : Int) < lb := by omega
      go_wp2
      go_ret
      exact ⟨rfl, below_alloc1 w _⟩
    by_cases c4 : 262144 - (lb : Int) < n
    · have hC : C = 0 := by rw [hw, writeF, if_pos (by omega)]
      clear hw
      subst hC
      have k1 : ¬ (lb : Int) = 0 := by omega
      have k2 : ¬ (lb : Int) < 1 := by omega
      have k3 : ¬ (4096 : Int) < lb := by omega
      go_wp2
      go_ret
      exact ⟨rfl, below_alloc1 w _⟩
    have k1 : ¬ (lb : Int) = 0 := by omega
    have k2 : ¬ (lb : Int) < 1 := by omega
    have k3 : ¬ (4096 : Int) < lb := by omega
    obtain ⟨N, rfl⟩ : ∃ N : Nat, n = N := ⟨n.toNat, by omega⟩
    have hC : C = (N + lb - 1) / 512 - N / 512 + 3 := by rw [hw, writeF, if_neg (by omega)]
    have HCC := Lib.hid hC
    clear hw hC
    go_wp2
    go_ret
    exact ⟨by rw [HCC.out]; rfl, below_alloc1 w _⟩
  have hC : C = 0 := HC.out.symm.trans (costF_else h4 h5 h6 h7 h9 h12 h11)
  subst hC
  go_wp2
  go_ret
  exact ⟨rfl, below_alloc1 w _⟩

end Go.Proofs.YtlecpjfggoehdaaGreatDoor.Ar

/- Ship, Room: the rooms of a list, in the program and in the reference. -/
set_option linter.unusedVariables false
set_option linter.unusedSimpArgs false
set_option maxRecDepth 100000
namespace Go.Proofs.YtlecpjfggoehdaaGreatDoor.Ar
open Go.RowKit Go.Sort Go.Lib Go.Proofs.YtlecpjfggoehdaaGreatDoor.Rs

def RInt (w : World) (b o : Nat) (x : Int) : Prop := w.cell? ⟨b, o, none⟩ = some (.int .i64 x)
theorem RInt.stays : Stays RInt := fun _ _ hk _ _ _ h => hk _ _ _ h
def RSp (w : World) (b o : Nat) (s : Sp) : Prop := ∃ vl, w.cell? ⟨b, o, none⟩ = some (.int .i64 s.kind) ∧ w.cell? ⟨b, o + 1, none⟩ = some (.string (bs s.a)) ∧ w.cell? ⟨b, o + 2, none⟩ = some (.string (bs s.b)) ∧
  w.cell? ⟨b, o + 3, none⟩ = some (.int .i64 s.n) ∧ w.cell? ⟨b, o + 4, none⟩ = some (.int .i64 s.m) ∧ w.cell? ⟨b, o + 5, none⟩ = some (.int .i64 s.k) ∧ w.cell? ⟨b, o + 6, none⟩ = some vl ∧ Sl RInt 1 w vl s.list ∧ NilOk vl
theorem RSp.stays : Stays RSp := fun _ _ hk _ _ _ h => by
  obtain ⟨vl, h0, h1, h2, h3, h4, h5, h6, h7, h8⟩ := h
  exact ⟨vl, hk _ _ _ h0, hk _ _ _ h1, hk _ _ _ h2, hk _ _ _ h3, hk _ _ _ h4, hk _ _ _ h5, hk _ _ _ h6, h7.keep RInt.stays hk, h8⟩
structure SpSm (s : Sp) : Prop where
  a : s.a.length ≤ 1048576
  b : s.b.length ≤ 1048576
  l : s.list.length ≤ 1048576
structure SpsSm (l : List Sp) : Prop where
  len : l.length ≤ 1048576
  sp : ∀ s ∈ l, SpSm s
def roomF (l : List Sp) : Int := (l.map costF).sum
theorem costF_le (s : Sp) : 0 ≤ costF s ∧ costF s ≤ 600 := by
  unfold costF writeF
  repeat' split
  all_goals omega
theorem roomF_take {l : List Sp} {k : Nat} {s : Sp} (h : l[k]? = some s) : roomF (l.take (k + 1)) = roomF (l.take k) + costF s := by
  rw [List.take_add_one, h]
  simp [roomF]
theorem roomF_le (l : List Sp) : 0 ≤ roomF l ∧ roomF l ≤ 600 * l.length := by
  induction l with
  | nil => simp [roomF]
  | cons s l ih =>
    have := costF_le s
    simp only [roomF, List.map_cons, List.sum_cons, List.length_cons] at *
    omega

set_option maxHeartbeats 2000000 in
theorem call_shipRoom (v : Value) (l : List Sp) (w : World) (hs : Sl RSp 7 w v l) (hl : SpsSm l) :
    Calls Tryz.prog 12 #[v] w fun e w' => e = .returned (.int .i64 (roomF l)) ∧ Below w.heap.size w w' := by
  obtain ⟨aa, ba, oa, ca, rfl, haa, hca⟩ := hs
  obtain ⟨n, hn⟩ : ∃ n, l.length = n := ⟨_, rfl⟩
  have hlen := hl.len
  rw [hn] at hlen haa ⊢
  have HCa := Lib.hid hca
  have HN := Lib.hid hn
  have HL := Lib.hid hl
  clear hca hn hl
  go_enter Tryz.func12, Tryz.ntmps12
  go_wp2
  go_loopw [3, 8] (fun q i wr => ∃ (k : Nat) (z : Int), i = .int .i64 k ∧ k ≤ n ∧ q = .int .i64 z ∧ z = roomF (l.take k) ∧ Below w.heap.size w wr)
    (fun _ i _ => n - (RowKit.intOf i).toNat)
  case atStart => exact ⟨0, 0, rfl, Nat.zero_le _, rfl, rfl, Below.refl _ _⟩
  case round =>
    obtain ⟨k, z, rfl, hkn, rfl, hz, hb⟩ := hrel
    have HB := Lib.hid hb
    have hz1 := roomF_le (l.take k)
    rw [← hz, List.length_take] at hz1
    have hz2 : 0 ≤ z := hz1.1
    have hz3 : z ≤ 700000000 := by omega
    have HZ := Lib.hid hz
    clear hz hz1
    by_cases hlt : k < n
    · obtain ⟨s, hx⟩ : ∃ x, l[k]? = some x := ⟨_, List.getElem?_eq_getElem (by have := HN.out; omega)⟩
      obtain ⟨vl, p0, p1, p2, p3, p4, p5, p6, hva, hnl⟩ := RSp.stays _ _ (keeps_below hb) _ _ _ (HCa.out k s hx)
      obtain ⟨aP, bP, oP, cP, rfl, haP, hcP⟩ := hva
      have HSb := Lib.hid ((HL.out.sp s (List.mem_of_getElem? hx)).b)
      have hc := costF_le s
      have HT := Lib.hid (roomF_take hx)
      obtain ⟨c, hcc⟩ : ∃ c, costF s = c := ⟨_, rfl⟩
      rw [hcc] at hc
      have HC := Lib.hid hcc
      have c0 := hc.1
      have c1 := hc.2
      have k0 : (0 : Int) ≤ k := Int.natCast_nonneg _
      have k1 : (k : Int) < n := by omega
      have ha' := haa (by omega)
      subst ha'
      clear hx haa hb haP hcP hnl hc hcc
      go_wp2_with (go_at_call 24; refine (call_cost s _ _ _ _ HSb.out).mono ?_; rintro e w2 ⟨rfl, hb2⟩; rw [HC.out]; have HB2 := Lib.hid (below_after HB.out ((below_alloc1 wr _).trans (hb2.mono (by rw [alloc_size]; omega)))); clear hb2)
      go_roundw
      case rel => exact ⟨k + 1, z + c, by go_num, by omega, rfl, by rw [HT.out, HC.out, HZ.out], HB2.out⟩
      case measure => simp [RowKit.intOf]; omega
    · obtain rfl : k = n := by omega
      clear hb
      have hz : z = roomF l := by rw [HZ.out, ← HN.out, List.take_length]
      have HZl := Lib.hid hz
      clear haa
      go_wp2
      go_ret
      exact ⟨by rw [← HZl.out]; rfl, HB.out⟩

end Go.Proofs.YtlecpjfggoehdaaGreatDoor.Ar

/- Ship, the law's own: two lists of steps that are one. -/
set_option linter.unusedVariables false
set_option linter.unusedSimpArgs false
set_option maxRecDepth 100000
namespace Go.Proofs.YtlecpjfggoehdaaGreatDoor.Ar
open Go.RowKit Go.Sort Go.Lib Go.Proofs.YtlecpjfggoehdaaGreatDoor.Rs

set_option maxHeartbeats 2000000 in
theorem call_sameStep (s : Sp) (va vb : Value) (w : World) (ha : Sl RInt 1 w va s.list) (hb : Sl RInt 1 w vb s.list) (hl : s.list.length ≤ 1048576) :
    Calls Tryz.prog 18 #[.agg #[.int .i64 s.kind, .string (bs s.a), .string (bs s.b), .int .i64 s.n, .int .i64 s.m, .int .i64 s.k, va], .agg #[.int .i64 s.kind, .string (bs s.a), .string (bs s.b), .int .i64 s.n, .int .i64 s.m, .int .i64 s.k, vb]] w fun e w' => e = .returned (.bool true) ∧ Below w.heap.size w w' := by
  obtain ⟨aP, bP, oP, cP, rfl, haP, hcP⟩ := ha
  obtain ⟨aQ, bQ, oQ, cQ, rfl, haQ, hcQ⟩ := hb
  obtain ⟨np, hnp⟩ : ∃ n, s.list.length = n := ⟨_, rfl⟩
  rw [hnp] at hl haP haQ ⊢
  have HcP := Lib.hid hcP
  have HcQ := Lib.hid hcQ
  have HNp := Lib.hid hnp
  clear hcP hcQ hnp
  go_enter Tryz.func18, Tryz.ntmps18
  go_upto_region 0 with (fail)
  go_cut [2, 3] (fun v6 v7 wc => ∃ B1 B2, v6 = .pointer (some ⟨B1, 0, none⟩) ∧ v7 = .pointer (some ⟨B2, 0, none⟩) ∧ Row wc B1 38 (spCells s (.slice aP np cP)) ∧ Row wc B2 38 (spCells s (.slice aQ np cQ)) ∧ Below w.heap.size w wc)
  case first =>
    go_wp2
    go_meet
    case rel => exact ⟨w.heap.size, w.heap.size + 1, rfl, rfl, (Row.new w 38 (spCells s (.slice aP np cP))).alloc _, row_new1 w _ 38 (spCells s (.slice aQ np cQ)), below_alloc2 w _ _⟩
  case rest =>
    obtain ⟨B1, B2, rfl, rfl, r1, r2, hbc⟩ := hcut
    have R1 := Lib.hid r1
    have R2 := Lib.hid r2
    have HBc := Lib.hid hbc
    have HcP2 : Hid (∀ j x, s.list[j]? = some x → RInt wc bP (oP + j * 1) x) := Lib.hid (fun j x hj => RInt.stays _ _ (keeps_below hbc) _ _ _ (HcP.out j x hj))
    have HcQ2 : Hid (∀ j x, s.list[j]? = some x → RInt wc bQ (oQ + j * 1) x) := Lib.hid (fun j x hj => RInt.stays _ _ (keeps_below hbc) _ _ _ (HcQ.out j x hj))
    have a0 := (show _ = some (Value.int .i64 s.kind) from r1.cell 0)
    have a1 := (show _ = some (Value.string (bs s.a)) from r1.cell 1)
    have a2 := (show _ = some (Value.string (bs s.b)) from r1.cell 2)
    have a3 := (show _ = some (Value.int .i64 s.n) from r1.cell 3)
    have a4 := (show _ = some (Value.int .i64 s.m) from r1.cell 4)
    have a5 := (show _ = some (Value.int .i64 s.k) from r1.cell 5)
    have a6 := (show _ = some (Value.slice aP np cP) from r1.cell 6)
    have b0 := (show _ = some (Value.int .i64 s.kind) from r2.cell 0)
    have b1 := (show _ = some (Value.string (bs s.a)) from r2.cell 1)
    have b2 := (show _ = some (Value.string (bs s.b)) from r2.cell 2)
    have b3 := (show _ = some (Value.int .i64 s.n) from r2.cell 3)
    have b4 := (show _ = some (Value.int .i64 s.m) from r2.cell 4)
    have b5 := (show _ = some (Value.int .i64 s.k) from r2.cell 5)
    have b6 := (show _ = some (Value.slice aQ np cQ) from r2.cell 6)
    clear r1 r2 hbc HcP HcQ
    go_step; go_step
    go_wp2
    clear a0 a1 a2 a3 a4 a5 a6 b0 b1 b2 b3 b4 b5 b6
    go_loopw [5] (fun i wr => ∃ (j : Nat), i = .int .i64 j ∧ j ≤ np ∧ Below wc.heap.size wc wr)
      (fun i _ => np - (RowKit.intOf i).toNat)
    case atStart => exact ⟨0, rfl, Nat.zero_le _, Below.refl _ _⟩
    case round =>
      obtain ⟨j, rfl, hjn, hb⟩ := hrel
      have HBj := Lib.hid hb
      have a4 := (show _ = some (Value.slice aP np cP) from (R1.out.below hb R1.out.lt).cell 6)
      have b4 := (show _ = some (Value.slice aQ np cQ) from (R2.out.below hb R2.out.lt).cell 6)
      by_cases hjl : j < np
      · obtain ⟨x, hpc⟩ : ∃ x, s.list[j]? = some x := ⟨_, List.getElem?_eq_getElem (by have := HNp.out; omega)⟩
        have c0 : wr.cell? ⟨bP, oP + j * 1, none⟩ = some (.int .i64 x) := RInt.stays _ _ (keeps_below hb) _ _ _ (HcP2.out j x hpc)
        have d0 : wr.cell? ⟨bQ, oQ + j * 1, none⟩ = some (.int .i64 x) := RInt.stays _ _ (keeps_below hb) _ _ _ (HcQ2.out j x hpc)
        rw [Nat.mul_one] at c0 d0
        have haP' := haP (by omega)
        have haQ' := haQ (by omega)
        subst haP' haQ'
        have j0 : (0 : Int) ≤ j := Int.natCast_nonneg _
        have j1 : (j : Int) < np := by omega
        clear hpc haP haQ hb
        go_wp2_with fail
        go_quiet (fail)
        have HBd := Lib.hid (Below.drewN' HBj.out nq)
        clear a4 b4 c0 d0
        generalize wr.drewN nq = wd at *
        go_wp2
        go_roundw
        case rel => exact ⟨j + 1, by go_num, by omega, HBd.out⟩
        case measure => simp [RowKit.intOf]; omega
      · obtain rfl : j = np := by omega
        clear haP haQ hb
        go_wp2
        go_ret
        exact ⟨rfl, below_after HBc.out HBj.out⟩

set_option maxHeartbeats 4000000 in
theorem call_sameStepsN (va vb : Value) (l : List Sp) (w : World) (ha : Sl RSp 7 w va l) (hb : Sl RSp 7 w vb l) (hlen0 : l.length ≤ 1000000000) (hl : ∀ s ∈ l, SpSm s) :
    Calls Tryz.prog 8 #[va, vb] w fun e w' => e = .returned (.bool true) ∧ Below w.heap.size w w' := by
  obtain ⟨aa, ba, oa, ca, rfl, haa, hca⟩ := ha
  obtain ⟨ab, bb, ob, cb, rfl, hab, hcb⟩ := hb
  obtain ⟨n, hn⟩ : ∃ n, l.length = n := ⟨_, rfl⟩
  have hlen := hlen0
  rw [hn] at hlen haa hab ⊢
  have HCa := Lib.hid hca
  have HCb := Lib.hid hcb
  have HN := Lib.hid hn
  have HL := Lib.hid hl
  clear hca hcb hn hl hlen0
  go_enter Tryz.func8, Tryz.ntmps8
  go_wp2
  go_loopw [5] (fun i wr => ∃ (k : Nat), i = .int .i64 k ∧ k ≤ n ∧ Below w.heap.size w wr)
    (fun i _ => n - (RowKit.intOf i).toNat)
  case atStart => exact ⟨0, rfl, Nat.zero_le _, Below.refl _ _⟩
  case round =>
    obtain ⟨k, rfl, hkn, hb⟩ := hrel
    have HB := Lib.hid hb
    by_cases hlt : k < n
    · obtain ⟨s, hx⟩ : ∃ x, l[k]? = some x := ⟨_, List.getElem?_eq_getElem (by have := HN.out; omega)⟩
      obtain ⟨va, p0, p1, p2, p3, p4, p5, p6, hva, _⟩ := RSp.stays _ _ (keeps_below hb) _ _ _ (HCa.out k s hx)
      obtain ⟨vb, q0, q1, q2, q3, q4, q5, q6, hvb, _⟩ := RSp.stays _ _ (keeps_below hb) _ _ _ (HCb.out k s hx)
      have HVa := Lib.hid hva
      have HVb := Lib.hid hvb
      have HSl := Lib.hid (HL.out s (List.mem_of_getElem? hx)).l
      have k0 : (0 : Int) ≤ k := Int.natCast_nonneg _
      have k1 : (k : Int) < n := by omega
      have ha' := haa (by omega)
      have hb' := hab (by omega)
      subst ha' hb'
      haveI : Nonempty (Wd (Below wr.heap.size wr)) := ⟨⟨_, Below.refl _ _⟩⟩
      have P0 : ∀ y : Wd (Below wr.heap.size wr), y.val.cell? ⟨ba, oa + k * 7, none⟩ = some (.int .i64 s.kind) := fun y => keeps_below y.ok _ _ _ p0
      have P1 : ∀ y : Wd (Below wr.heap.size wr), y.val.cell? ⟨ba, oa + k * 7 + 1, none⟩ = some (.string (bs s.a)) := fun y => keeps_below y.ok _ _ _ p1
      have P2 : ∀ y : Wd (Below wr.heap.size wr), y.val.cell? ⟨ba, oa + k * 7 + 2, none⟩ = some (.string (bs s.b)) := fun y => keeps_below y.ok _ _ _ p2
      have P3 : ∀ y : Wd (Below wr.heap.size wr), y.val.cell? ⟨ba, oa + k * 7 + 3, none⟩ = some (.int .i64 s.n) := fun y => keeps_below y.ok _ _ _ p3
      have P4 : ∀ y : Wd (Below wr.heap.size wr), y.val.cell? ⟨ba, oa + k * 7 + 4, none⟩ = some (.int .i64 s.m) := fun y => keeps_below y.ok _ _ _ p4
      have P5 : ∀ y : Wd (Below wr.heap.size wr), y.val.cell? ⟨ba, oa + k * 7 + 5, none⟩ = some (.int .i64 s.k) := fun y => keeps_below y.ok _ _ _ p5
      have P6 : ∀ y : Wd (Below wr.heap.size wr), y.val.cell? ⟨ba, oa + k * 7 + 6, none⟩ = some va := fun y => keeps_below y.ok _ _ _ p6
      have Q0 : ∀ y : Wd (Below wr.heap.size wr), y.val.cell? ⟨bb, ob + k * 7, none⟩ = some (.int .i64 s.kind) := fun y => keeps_below y.ok _ _ _ q0
      have Q1 : ∀ y : Wd (Below wr.heap.size wr), y.val.cell? ⟨bb, ob + k * 7 + 1, none⟩ = some (.string (bs s.a)) := fun y => keeps_below y.ok _ _ _ q1
      have Q2 : ∀ y : Wd (Below wr.heap.size wr), y.val.cell? ⟨bb, ob + k * 7 + 2, none⟩ = some (.string (bs s.b)) := fun y => keeps_below y.ok _ _ _ q2
      have Q3 : ∀ y : Wd (Below wr.heap.size wr), y.val.cell? ⟨bb, ob + k * 7 + 3, none⟩ = some (.int .i64 s.n) := fun y => keeps_below y.ok _ _ _ q3
      have Q4 : ∀ y : Wd (Below wr.heap.size wr), y.val.cell? ⟨bb, ob + k * 7 + 4, none⟩ = some (.int .i64 s.m) := fun y => keeps_below y.ok _ _ _ q4
      have Q5 : ∀ y : Wd (Below wr.heap.size wr), y.val.cell? ⟨bb, ob + k * 7 + 5, none⟩ = some (.int .i64 s.k) := fun y => keeps_below y.ok _ _ _ q5
      have Q6 : ∀ y : Wd (Below wr.heap.size wr), y.val.cell? ⟨bb, ob + k * 7 + 6, none⟩ = some vb := fun y => keeps_below y.ok _ _ _ q6
      clear hx haa hab hb hva hvb p0 p1 p2 p3 p4 p5 p6 q0 q1 q2 q3 q4 q5 q6
      go_wp2_with fail
      refine wp_region_class (Below wr.heap.size wr) (by kernel_rfl) (by kernel_rfl) (below_drew _) ?_
      repeat (first | go_big_quiet_skip | (go_big_quiet_want; go_big_quiet_op; first | go_big_quiet_on | go_big_quiet_call ((go_at_call 18; refine (call_sameStep s va vb _ (HVa.out.keep RInt.stays (keeps_below (Wd.ok _))) (HVb.out.keep RInt.stays (keeps_below (Wd.ok _))) HSl.out).mono ?_; rintro e w2 ⟨rfl, hb2⟩; exact ⟨rfl, ⟨_, below_after (Wd.ok _) hb2⟩, rfl⟩))))
      refine wpQuiet_nil ?_
      rintro _ ⟨y, rfl⟩
      clear P0 P1 P2 P3 P4 P5 P6 Q0 Q1 Q2 Q3 Q4 Q5 Q6
      have HY := Lib.hid y.ok
      go_wp2
      go_roundw
      case rel => exact ⟨k + 1, by go_num, by omega, below_after HB.out HY.out⟩
      case measure => simp [RowKit.intOf]; omega
    · obtain rfl : k = n := by omega
      clear haa hab hb
      go_wp2
      go_ret
      exact ⟨rfl, HB.out⟩
theorem call_sameSteps (va vb : Value) (l : List Sp) (w : World) (ha : Sl RSp 7 w va l) (hb : Sl RSp 7 w vb l) (hl : SpsSm l) :
    Calls Tryz.prog 8 #[va, vb] w fun e w' => e = .returned (.bool true) ∧ Below w.heap.size w w' := call_sameStepsN va vb l w ha hb (by have := hl.len; omega) hl.sp
end Go.Proofs.YtlecpjfggoehdaaGreatDoor.Ar

/- Ship, the law's own: steps copied. -/
set_option linter.unusedVariables false
set_option linter.unusedSimpArgs false
set_option maxRecDepth 100000
namespace Go.Proofs.YtlecpjfggoehdaaGreatDoor.Ar
open Go.RowKit Go.Sort Go.Lib Go.Proofs.YtlecpjfggoehdaaGreatDoor.Rs

abbrev SV := Sp × Value
def spRow (x : SV) : List Value := spCells x.1 x.2
theorem spRow_len (x : SV) : (spRow x).length = 7 := rfl
def svCells (L : List SV) : List Value := (L.map spRow).flatten
theorem svCells_len (L : List SV) : (svCells L).length = L.length * 7 := flat_len _ _ spRow_len L
theorem svCells_app (L : List SV) (x : SV) : svCells (L ++ [x]) = svCells L ++ spRow x := by simp [svCells]
theorem svCells_get {L : List SV} {j : Nat} {x : SV} (h : L[j]? = some x) (i : Nat) (hi : i < 7) : (svCells L)[j * 7 + i]? = (spRow x)[i]? := flat_get _ _ spRow_len L j i x h hi
theorem info59 : (Tryz.prog.info? 38).map (fun i => (i.zero, i.size, i.bytes)) = some (some (.agg #[.int .i64 0, .string ⟨#[]⟩, .string ⟨#[]⟩, .int .i64 0, .int .i64 0, .int .i64 0, .slice none 0 0]), 7, 88) := by kernel_rfl
theorem info3 : (Tryz.prog.info? 3).map (fun i => (i.zero, i.size, i.bytes)) = some (some (.int .i64 0), 1, 8) := by kernel_rfl
def intV (x : Int) : Value := .int .i64 x
abbrev OwnI (base : Nat) (w : World) (v : Value) (l : List Int) : Prop := w.ownsRow base 3 1 v l.length (l.map intV)
theorem own_lenS {w : World} {base e size n m c : Nat} {a : Option Addr} {xs : List Value} (h : w.ownsRow base e size (.slice a n c) m xs) : n = m := by
  rcases h.2 with ⟨e, h0⟩ | ⟨_, _, _, e, _⟩
  · cases e; omega
  · cases e; rfl
structure CpS (base : Nat) (wr : World) (v : Value) (l : List Sp) (k : Nat) (L : List SV) : Prop where
  fst : L.map (·.1) = l.take k
  len : L.length = k
  row : wr.ownsRow base 38 7 v k (svCells L)
  lst : ∀ x ∈ L, OwnI base wr x.2 x.1.list
theorem CpS.step {base k : Nat} {wr w8 w9 : World} {v v' v2 : Value} {l : List Sp} {L : List SV} {s : Sp} (h : CpS base wr v l k L) (hs : l[k]? = some s) (hb : Below wr.heap.size wr w8) (hv : OwnI base w8 v2 s.list)
    (h1 : w9.ownsRow base 38 7 v' (k + 1) (svCells L ++ spCells s v2)) (h2 : w8.grownBy w9 v.ownBlock) : CpS base w9 v' l (k + 1) (L ++ [(s, v2)]) := by
  have hr := own_below h.row hb
  have key : ∀ x : SV, OwnI base w8 x.2 x.1.list → OwnI base w9 x.2 x.1.list := fun x hx => own_keep hx (fun u e => h2.block u (hx.lt u e).2 (fun e2 => own_apart hx hr (by decide) e e2.symm))
  refine ⟨?_, by rw [List.length_append, h.len]; rfl, by rw [svCells_app]; exact h1, fun x hx => ?_⟩
  · rw [List.map_append, h.fst, List.take_add_one, hs]; rfl
  · rcases List.mem_append.1 hx with hx | hx
    · exact key x (own_below (h.lst x hx) hb)
    · rw [List.mem_singleton.1 hx]
      exact key (s, v2) hv
theorem OwnI.sl {base : Nat} {w : World} {v : Value} {l : List Int} (h : OwnI base w v l) : Sl RInt 1 w v l := by
  by_cases h0 : l.length = 0
  · have := List.eq_nil_of_length_eq_zero h0
    subst this
    obtain ⟨a, n, c, rfl⟩ := own_isSl h
    have hn : n = 0 := own_lenS h
    subst hn
    exact ⟨a, 0, 0, c, rfl, by simp, by simp⟩
  · obtain ⟨g, c, rfl, _, _, _, hc, _⟩ := own_form h (by omega)
    refine ⟨_, g, 0, c, rfl, fun _ => rfl, fun j x hj => ?_⟩
    rw [Nat.zero_add, Nat.mul_one]
    exact hc j _ (by rw [List.getElem?_map, hj]; rfl)
theorem CpS.sl {base : Nat} {wr : World} {v : Value} {l : List Sp} {k : Nat} {L : List SV} (h : CpS base wr v l k L) (hk : k = l.length) : Sl RSp 7 wr v l := by
  subst hk
  have hfst := h.fst
  rw [List.take_length] at hfst
  by_cases h0 : l.length = 0
  · have := List.eq_nil_of_length_eq_zero h0
    subst this
    have hr := h.row
    obtain ⟨a, n, c, rfl⟩ := own_isSl hr
    have hn : n = 0 := own_lenS hr
    subst hn
    exact ⟨a, 0, 0, c, rfl, by simp, by simp⟩
  · obtain ⟨g, c, rfl, _, _, _, hc, _⟩ := own_form h.row (by omega)
    refine ⟨_, g, 0, c, rfl, fun _ => rfl, fun j s hj => ?_⟩
    rw [← hfst, List.getElem?_map] at hj
    obtain ⟨x, hx, rfl⟩ := Option.map_eq_some_iff.1 hj
    have hl := h.lst x (List.mem_of_getElem? hx)
    rw [Nat.zero_add]
    have g := fun i (hi : i < 7) u (e : (spRow x)[i]? = some u) => hc (j * 7 + i) u (by rw [svCells_get hx i hi, e])
    exact ⟨x.2, g 0 (by omega) _ rfl, g 1 (by omega) _ rfl, g 2 (by omega) _ rfl, g 3 (by omega) _ rfl, g 4 (by omega) _ rfl, g 5 (by omega) _ rfl, g 6 (by omega) _ rfl, hl.sl, fun k' c' e => by
      rw [e] at hl
      rcases hl.2 with ⟨h', _⟩ | ⟨_, _, _, h', _⟩
      · cases h'; exact ⟨rfl, rfl⟩
      · cases h'⟩
/-- a list's cells, as an append takes them -/
theorem int_of {w : World} {v : Value} {l : List Int} (h : Sl RInt 1 w v l) : ∃ ad c, v = .slice ad l.length c ∧ (0 < l.length → ∃ g off, ad = some ⟨g, off, none⟩ ∧ ∀ j u, (l.map intV)[j]? = some u → w.cell? ((⟨g, off, none⟩ : Addr).add j) = some u) := by
  obtain ⟨a, b, o, c, e, ha, hc⟩ := h
  refine ⟨a, c, e, fun h0 => ⟨b, o, ha h0, fun j u hj => ?_⟩⟩
  rw [List.getElem?_map] at hj
  obtain ⟨x, hx, rfl⟩ := Option.map_eq_some_iff.1 hj
  have := hc j x hx
  rw [Nat.mul_one] at this
  unfold Addr.add
  split
  · rename_i h0; subst h0; simpa [RInt, intV] using this
  · simpa [RInt, intV] using this

theorem own_rowS {w : World} {base e size n B T : Nat} {v : Value} {xs cur : List Value} (h : w.ownsRow base e size v n xs) (hr : Row w B T cur) (hne : e ≠ T) : v.ownBlock ≠ some B := fun hk => by
  rcases h.2 with ⟨rfl, _⟩ | ⟨g, cap, cur', rfl, _, hh, _⟩
  · cases hk
  · cases hk
    have h2 := hr
    unfold Row at h2
    rw [hh] at h2
    simp at h2
    exact hne h2.2
end Go.Proofs.YtlecpjfggoehdaaGreatDoor.Ar

/- Ship: the law ShipRooms, walked; its first() by a contract that is handed in. -/
set_option linter.unusedVariables false
set_option linter.unusedSimpArgs false
set_option maxRecDepth 100000
namespace Go.Proofs.YtlecpjfggoehdaaGreatDoor.Ar
open Go.RowKit Go.Sort Go.Lib Go.Proofs.YtlecpjfggoehdaaGreatDoor.Rs

end Go.Proofs.YtlecpjfggoehdaaGreatDoor.Ar

/- The argument of ShipRooms, opened: what reads as a list of steps is one. -/
set_option linter.unusedVariables false
set_option linter.unusedSimpArgs false
namespace Go.Proofs.YtlecpjfggoehdaaGreatDoor.Ar
open Go.RowKit Go.Lib Go.Proofs.YtlecpjfggoehdaaGreatDoor.Rs
open Go.Proofs.YtlecpjfggoehdaaGreatDoor.Rows (uptoBulk uptoBulkAll uptoSmall)
set_option maxRecDepth 100000

theorem c57 : Tryz.prog.cellsOf 36 = 1 := by kernel_rfl
theorem c59 : Tryz.prog.cellsOf 38 = 7 := by kernel_rfl
section
variable {H : Type} {enc : TypeId × Value → H} {w : World} {sp : Nat → Bool} {held : Bool}
theorem open_int {fuel b o : Nat} {cs : List Value} {y : DataW H × List MemPlace} (hl : cs.length = 1) (hc : ∀ i, i < 1 → w.cell? ⟨b, o + i, none⟩ = cs[i]?) (h : DataW.trod enc Tryz.prog w 0 sp held fuel 3 cs = some y) : ∃ x, RInt w b o x ∧ 0 ≤ uptoBulk y.1 := by
  match cs, hl with
  | [k0], _ =>
    obtain ⟨a0, rfl, _⟩ := open_i64 h
    exact ⟨a0, hc 0 (by omega), Nat.zero_le _⟩
/-- what a step weighs -/
def spWt (s : Sp) : Nat := s.a.length + s.b.length + s.list.length
theorem open_sp {fuel b o : Nat} {cs : List Value} {y : DataW H × List MemPlace} (hl : cs.length = 7) (hc : ∀ i, i < 7 → w.cell? ⟨b, o + i, none⟩ = cs[i]?) (h : DataW.trod enc Tryz.prog w 0 sp held fuel 38 cs = some y) : ∃ x, RSp w b o x ∧ spWt x ≤ uptoBulk y.1 := by
  obtain ⟨ys, n, _, hy, _, hys, hf⟩ := DataW.trod_struct Tryz.underlying38 h
  match cs, hl, ys, hys with
  | [k0, k1, k2, k3, k4, k5, k6], _, [y0, y1, y2, y3, y4, y5, y6], _ =>
    obtain ⟨a0, rfl, w0⟩ := open_i64 (by simpa [c3] using hf 0 _ rfl)
    obtain ⟨l1, rfl, b1⟩ := open_str (show DataW.trod enc Tryz.prog w 0 sp held n 9 [k1] = some y1 by simpa [c9] using hf 1 _ rfl)
    obtain ⟨l2, rfl, b2⟩ := open_str (show DataW.trod enc Tryz.prog w 0 sp held n 9 [k2] = some y2 by simpa [c9] using hf 2 _ rfl)
    obtain ⟨a3, rfl, w3⟩ := open_i64 (by simpa [c3] using hf 3 _ rfl)
    obtain ⟨a4, rfl, w4⟩ := open_i64 (by simpa [c3] using hf 4 _ rfl)
    obtain ⟨a5, rfl, w5⟩ := open_i64 (by simpa [c3] using hf 5 _ rfl)
    obtain ⟨l6, ⟨s6, n6, _⟩, b6, _⟩ := open_sl (R := RInt) (fun _ => 0) Tryz.underlying36 c3 (by omega) (fun _ _ _ _ _ => open_int) (show DataW.trod enc Tryz.prog w 0 sp held n 36 [k6] = some y6 by simpa [c57] using hf 6 _ rfl)
    refine ⟨⟨a0, l1, l2, a3, a4, a5, l6⟩, ⟨k6, hc 0 (by omega), hc 1 (by omega), hc 2 (by omega), hc 3 (by omega), hc 4 (by omega), hc 5 (by omega), hc 6 (by omega), s6, n6⟩, ?_⟩
    subst hy
    simp only [spWt, uptoBulk, uptoBulkAll, List.map_cons, List.map_nil]
    omega
/-- the law's argument -/
def ArgS (w : World) (c : Value) (l : List Sp) : Prop := Sl RSp 7 w c l ∧ SpsSm l
theorem open_steps {fuel : Nat} {c : Value} {y : DataW H × List MemPlace} (h : DataW.trod enc Tryz.prog w 0 sp held fuel 24 [c] = some y) (hk : uptoBulk y.1 ≤ 1048576) : ∃ l, ArgS w c l := by
  obtain ⟨l, ⟨hs, hn, hc⟩, b1, b2⟩ := open_sl (R := RSp) spWt Tryz.underlying24 c59 (by omega) (fun _ _ _ _ _ => open_sp) h
  refine ⟨l, hs, by omega, fun s hm => ?_⟩
  have h1 := sum_mem spWt hm
  have h3 : spWt s ≤ 1048576 := by omega
  unfold spWt at h3
  exact ⟨by omega, by omega, by omega⟩
end
end Go.Proofs.YtlecpjfggoehdaaGreatDoor.Ar

/- Ship, first(): the example. -/
set_option linter.unusedVariables false
set_option linter.unusedSimpArgs false
set_option maxRecDepth 100000
namespace Go.Proofs.YtlecpjfggoehdaaGreatDoor.Ar
open Go.RowKit Go.Sort Go.Lib Go.Proofs.YtlecpjfggoehdaaGreatDoor.Rs

def helloB : List UInt8 := [104, 101, 108, 108, 111]
def shipL : List Mb := [⟨2, [100], [], 0, []⟩, ⟨1, [100, 47, 102], [], 5, [⟨0, helloB⟩]⟩, ⟨3, [103], [100, 47, 102], 0, []⟩]
theorem make5 (w : World) : (Instr.makeSlice 22 (.int .i64 5) (.int .i64 5)).run Tryz.prog w = .ok (.slice (some ⟨w.heap.size, 0, none⟩) 5 5) (w.alloc (.cells #[.int .u8 0, .int .u8 0, .int .u8 0, .int .u8 0, .int .u8 0] 5)) := by kernel_rfl
theorem copy_hello (w : World) : (Builtin.copy_ #[22, 9] 3 #[.slice (some ⟨w.heap.size, 0, none⟩) 5 5, .string ⟨#[104, 101, 108, 108, 111]⟩]).run Tryz.prog (w.alloc (.cells #[.int .u8 0, .int .u8 0, .int .u8 0, .int .u8 0, .int .u8 0] 5)) =
    .ok (.int .i64 5) (w.alloc (.cells #[.int .u8 104, .int .u8 101, .int .u8 108, .int .u8 108, .int .u8 111] 5)) := by
  have h := run_copy_row_string (P := Tryz.prog) (w.alloc (.cells #[.int .u8 0, .int .u8 0, .int .u8 0, .int .u8 0, .int .u8 0] 5)) 22 9 3 5 w.heap.size 0 5 5 ⟨#[104, 101, 108, 108, 111]⟩ #[.int .u8 0, .int .u8 0, .int .u8 0, .int .u8 0, .int .u8 0] 5 Tryz.underlying22 (by kernel_rfl) (Row.new w 5 [.int .u8 0, .int .u8 0, .int .u8 0, .int .u8 0, .int .u8 0]) (by decide) (by decide)
  rw [World.setRow_alloc_new] at h
  exact h
set_option maxHeartbeats 1000000 in
theorem call_shipExample (w : World) : Calls Tryz.prog 11 #[] w fun e w' => ∃ v, e = .returned v ∧ Sl RMb 5 w' v shipL ∧ Below w.heap.size w w' := by
  have hmk := make5
  have hcp := copy_hello w
  have hr2 := Row.new w 5 (helloB.map byteV)
  have hcv : (convert 22 9 (.slice (some ⟨w.heap.size, 0, none⟩) 5 5)).run Tryz.prog (w.alloc (.cells #[.int .u8 104, .int .u8 101, .int .u8 108, .int .u8 108, .int .u8 111] 5)) = .ok (.string (bs helloB)) (w.alloc (.cells #[.int .u8 104, .int .u8 101, .int .u8 108, .int .u8 108, .int .u8 111] 5)) :=
    conv_txt (w := w.alloc (.cells (helloB.map byteV).toArray 5)) (B := w.heap.size) (o := 0) (c := 5) (l := helloB) (fun j x hj => by
      rw [Nat.zero_add, hr2.cell, List.getElem?_map, hj]; rfl)
  clear hr2
  go_enter Tryz.func11, Tryz.ntmps11
  go_wp2
  go_ret
  obtain ⟨w1, hw1⟩ : ∃ w1, w.alloc (.cells #[.int .u8 104, .int .u8 101, .int .u8 108, .int .u8 108, .int .u8 111] 5) = w1 := ⟨_, rfl⟩
  have hs1 : w.heap.size + 1 = w1.heap.size := by rw [← hw1, alloc_size]
  have hb1 : Below w.heap.size w w1 := by rw [← hw1]; exact below_alloc1 w _
  rw [hw1, hs1]
  have r1 := (Row.new w1 62 [.int .i64 0, .string (bs helloB)]).alloc (.cells #[.int .i64 2, .string ⟨#[100]⟩, .string ⟨#[]⟩, .int .i64 0, .slice none 0 0, .int .i64 1, .string ⟨#[100, 47, 102]⟩, .string ⟨#[]⟩, .int .i64 5, .slice (some ⟨w1.heap.size, 0, none⟩) 1 1, .int .i64 3, .string ⟨#[103]⟩, .string ⟨#[100, 47, 102]⟩, .int .i64 0, .slice none 0 0] 58)
  have r2 := row_new1 w1 (.cells #[.int .i64 0, .string (bs helloB)] 62) 58 [.int .i64 2, .string ⟨#[100]⟩, .string ⟨#[]⟩, .int .i64 0, .slice none 0 0, .int .i64 1, .string ⟨#[100, 47, 102]⟩, .string ⟨#[]⟩, .int .i64 5, .slice (some ⟨w1.heap.size, 0, none⟩) 1 1, .int .i64 3, .string ⟨#[103]⟩, .string ⟨#[100, 47, 102]⟩, .int .i64 0, .slice none 0 0]
  refine ⟨_, rfl, ⟨_, w1.heap.size + 1, 0, 3, rfl, fun _ => rfl, fun j x hj => ?_⟩, below_after hb1 (below_alloc2 w1 _ _)⟩
  have c := r2.cell
  have i0 : ∀ z : Int, 0 ≤ z → z ≤ 1000 → I64 z := fun z h1 h2 => ⟨by omega, by omega⟩
  match j, hj with
  | 0, hj =>
    cases hj
    exact ⟨.slice none 0 0, c 0, c 1, c 2, c 3, c 4, ⟨nil_pc _, i0 _ (by decide) (by decide), i0 _ (by decide) (by decide)⟩⟩
  | 1, hj =>
    cases hj
    refine ⟨.slice (some ⟨w1.heap.size, 0, none⟩) 1 1, c 5, c 6, c 7, c 8, c 9, ⟨⟨_, w1.heap.size, 0, 1, rfl, fun _ => rfl, fun j x hj => ?_⟩, i0 _ (by decide) (by decide), i0 _ (by decide) (by decide)⟩⟩
    match j, hj with
    | 0, hj =>
      cases hj
      exact ⟨r1.cell 0, r1.cell 1, i0 _ (by decide) (by decide)⟩
    | j + 1, hj => cases hj
  | 2, hj =>
    cases hj
    exact ⟨.slice none 0 0, c 10, c 11, c 12, c 13, c 14, ⟨nil_pc _, i0 _ (by decide) (by decide), i0 _ (by decide) (by decide)⟩⟩
  | j + 3, hj => cases hj
theorem ship_good : goodB shipL = true := by decide +kernel
theorem ship_sm : LsSm shipL := ⟨by decide, fun m hm => by
  simp only [shipL, List.mem_cons, List.not_mem_nil, or_false] at hm
  rcases hm with rfl | rfl | rfl
  · exact ⟨by decide, by decide, by decide, by simp⟩
  · exact ⟨by decide, by decide, by decide, fun p hp => by rw [List.mem_singleton.1 hp]; decide⟩
  · exact ⟨by decide, by decide, by decide, by simp⟩⟩
theorem none_good : goodB [] = true := by decide +kernel
theorem none_sm : LsSm [] := ⟨by decide, by simp⟩
end Go.Proofs.YtlecpjfggoehdaaGreatDoor.Ar

/- Ship, first(): place. -/
set_option linter.unusedVariables false
set_option linter.unusedSimpArgs false
set_option maxRecDepth 100000
namespace Go.Proofs.YtlecpjfggoehdaaGreatDoor.Ar
open Go.RowKit Go.Sort Go.Lib Go.Proofs.YtlecpjfggoehdaaGreatDoor.Rs
theorem bs_slash (p : List UInt8) : (⟨#[47]⟩ : ByteArray) ++ bs p = bs (47 :: p) := by
  apply ByteArray.ext
  simp [bs]
set_option maxHeartbeats 1000000 in
theorem call_place (p : List UInt8) (w : World) (hp : p.length ≤ 1048576) : Calls Tryz.prog 38 #[.string (bs p)] w fun e w' => e = .returned (.string (bs (47 :: p))) ∧ Below w.heap.size w w' := by
  have hz := bs_size p
  have hs := bs_slash p
  have hz2 := bs_size (47 :: p)
  obtain ⟨A, hA⟩ : ∃ A, bs p = A := ⟨_, rfl⟩
  obtain ⟨B, hB⟩ : ∃ B, bs (47 :: p) = B := ⟨_, rfl⟩
  rw [hA, hB] at hs
  rw [hA] at hz ⊢
  rw [hB] at hz2 ⊢
  go_enter Tryz.func38, Tryz.ntmps38
  go_wp2
  go_ret
  exact ⟨by first | rfl | (simp [hs]; done) | (rw [← hs]; rfl), Below.refl _ _⟩
end Go.Proofs.YtlecpjfggoehdaaGreatDoor.Ar

/- Ship: the plan, plainly. -/
set_option linter.unusedVariables false
set_option linter.unusedSimpArgs false
set_option maxRecDepth 100000
namespace Go.Proofs.YtlecpjfggoehdaaGreatDoor.Ar
open Go.RowKit Go.Sort Go.Lib Go.Proofs.YtlecpjfggoehdaaGreatDoor.Rs

/-- the place of the last member of a path, among the first n -/
def lastIdx (l : List Mb) (p : List UInt8) : Nat → Option Nat
  | 0 => none
  | n + 1 => if l[n]?.map (·.path) = some p then some n else lastIdx l p n
theorem lastIdx_some {l : List Mb} {p : List UInt8} : ∀ {n i : Nat}, lastIdx l p n = some i → i < n ∧ ∃ m, l[i]? = some m ∧ m.path = p
  | 0, _, h => by cases h
  | n + 1, i, h => by
    rw [lastIdx] at h
    split at h
    · rename_i hp
      cases h
      obtain ⟨m, hm, e⟩ := Option.map_eq_some_iff.1 hp
      exact ⟨by omega, m, hm, e⟩
    · obtain ⟨h1, h2⟩ := lastIdx_some h
      exact ⟨by omega, h2⟩
def emptyMb : Mb := ⟨0, [], [], 0, []⟩
/-- the member that a list has at a member's path and that keeps it -/
def twinF (l : List Mb) (m : Mb) : Option Mb := (lastIdx l m.path l.length).bind fun i => (l[i]?).bind fun x => if x.kind = m.kind ∧ x.link = m.link then some x else none
def sp1 (kind : Int) (a : List UInt8) (n : Int) : Sp := ⟨kind, a, [], n, 0, 0, []⟩
def goesSp (m : Mb) : Sp := sp1 (if m.kind = 2 then 7 else 6) (47 :: m.path) 0
def comesSp (m : Mb) : Sp := if m.kind = 2 then sp1 5 (47 :: m.path) 0 else if m.kind = 1 then sp1 4 (47 :: m.path) 0 else ⟨9, 47 :: m.link, 47 :: m.path, 0, 0, 0, []⟩
/-- n bytes of a file from a page's beginning on -/
def pageF (m : Mb) (off : Int) (n : Nat) : List UInt8 := match m.pieces.find? (fun p => decide (p.off = off)) with
  | some p => p.data.take n ++ List.replicate (n - p.data.length) 0
  | none => List.replicate n 0
theorem pageF_len (m : Mb) (off : Int) (n : Nat) : (pageF m off n).length = n := by
  unfold pageF
  split
  · simp only [List.length_append, List.length_take, List.length_replicate]; omega
  · simp
def pgN (b : Mb) (k : Nat) : Nat := min 512 (b.size.toNat - 512 * k)
def diffF (a b : Mb) (k : Nat) : Bool := !decide (pageF b (512 * k) (pgN b k) = pageF a (512 * k) (pgN b k))
def wrSp (b : Mb) (k : Nat) : Sp := ⟨11, 47 :: b.path, pageF b (512 * k) (pgN b k), 512 * k, 0, 0, []⟩
/-- the writes of the first k pages -/
def chW (a b : Mb) : Nat → List Sp
  | 0 => []
  | k + 1 => chW a b k ++ (if diffF a b k = true then [wrSp b k] else [])
/-- how long the file is behind them -/
def chS (a b : Mb) : Nat → Int
  | 0 => min a.size b.size
  | k + 1 => if diffF a b k = true then max (chS a b k) (512 * k + pgN b k) else chS a b k
def pagesN (b : Mb) : Nat := (b.size.toNat + 511) / 512
def trSp (b : Mb) : Sp := sp1 12 (47 :: b.path) b.size
def headW (a b : Mb) : List Sp := if b.size < a.size then [trSp b] else []
def changesF (a b : Mb) : List Sp := headW a b ++ chW a b (pagesN b) ++ (if chS a b (pagesN b) = b.size then [] else [trSp b])
def goesF (tl : List Mb) (m : Mb) : List Sp := if (twinF tl m).isNone = true then [goesSp m] else []
def comesF (fr : List Mb) (m : Mb) : List Sp := (if (twinF fr m).isNone = true then [comesSp m] else []) ++ (if m.kind = 1 then changesF ((twinF fr m).getD emptyMb) m else [])
def planF (a b : List Mb) : List Sp := a.reverse.flatMap (goesF b) ++ b.flatMap (comesF a)
/-- what is known of a file, that it may be gone through page by page -/
structure FileOk (m : Mb) : Prop where
  s0 : 0 ≤ m.size
  s1 : m.size ≤ 262144
  path : m.path.length ≤ 1048576
  link : m.link.length ≤ 1048576
  pcs : m.pieces.length ≤ 1048576
  data : ∀ p ∈ m.pieces, p.data.length ≤ 1048576
  off : ∀ p ∈ m.pieces, 0 ≤ p.off ∧ p.off ≤ 10000000
  rise : ∀ (i j : Nat) (p q : Pc), i < j → m.pieces[i]? = some p → m.pieces[j]? = some q → p.off < q.off
theorem FileOk.empty : FileOk emptyMb := ⟨by decide, by decide, by decide, by decide, by decide, (fun p hp => by simp [emptyMb] at hp), (fun p hp => by simp [emptyMb] at hp), (fun i j p q _ hp _ => by simp [emptyMb] at hp)⟩
theorem chS_le (a b : Mb) (h : 0 ≤ a.size) (hb : 0 ≤ b.size) : ∀ k, 0 ≤ chS a b k ∧ chS a b k ≤ b.size
  | 0 => by simp only [chS]; omega
  | k + 1 => by
    have ih := chS_le a b h hb k
    rw [chS]
    split
    · have : (512 * k + pgN b k : Int) ≤ max b.size (512 * k) := by unfold pgN; omega
      by_cases hk : 512 * (k : Int) ≤ b.size
      · omega
      · rename_i hd
        -- a page behind the end has no bytes: it does not differ
        have h0 : pgN b k = 0 := by unfold pgN; omega
        rw [diffF, h0] at hd
        have e1 := pageF_len b (512 * k) 0
        have e2 := pageF_len a (512 * k) 0
        rw [List.length_eq_zero_iff.1 e1, List.length_eq_zero_iff.1 e2] at hd
        simp at hd
    · exact ih
end Go.Proofs.YtlecpjfggoehdaaGreatDoor.Ar
