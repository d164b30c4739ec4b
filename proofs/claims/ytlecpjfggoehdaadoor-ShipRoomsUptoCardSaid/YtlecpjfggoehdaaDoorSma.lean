/- Ship, Room: what a step costs, in the program and in the reference. Ship, Room: the rooms of a list, in the program and in the reference. Ship, the law's own: two lists of steps that are one. Ship, the law's own: steps copied. Ship: the law ShipRooms, walked; its first() by a contract that is handed in. The argument of ShipRooms, opened: what reads as a list of steps is one. Ship, first(): the example. Ship, first(): place. Ship: the plan, plainly. -/
import Derived.Test.YtlecpjfggoehdaaDoorArTw
import Derived.Test.YtlecpjfggoehdaaDoorArX
import Derived.Test.YtlecpjfggoehdaaDoorArTx
import Derived.Deep.AppendLies
import Derived.Deep.RegionLaw
import Derived.Test.YtlecpjfggoehdaaDoorArOp
import Derived.Test.YtlecpjfggoehdaaDoorBk
import Derived.Lib.BufferWrite
import Derived.Deep.WholeRow
set_option linter.unusedVariables false
set_option linter.unusedSimpArgs false
set_option maxRecDepth 100000
namespace Go.Proofs.YtlecpjfggoehdaaDoor.Ar
open Go.RowKit Go.Sort Go.Lib Go.Proofs.YtlecpjfggoehdaaDoor.Rs

/-- a step -/
structure Sp where
  kind : Int
  a : List UInt8
  b : List UInt8
  n : Int
  m : Int
  k : Int
  list : List Int
def spCells (s : Sp) (vl : Value) : List Value := [.int .i64 s.kind, .string (bs s.a), .string (bs s.b), .int .i64 s.n, .int .i64 s.m, .int .i64 s.k, vl]
/-- what a step costs -/
def writeF (n : Int) (len : Nat) : Int := if len = 0 ∨ 4096 < len ∨ n < 0 ∨ 262144 - (len : Int) < n then 0 else (n + len - 1) / 512 - n / 512 + 3
def costF (s : Sp) : Int :=
  if s.kind = 4 ∨ s.kind = 5 ∨ s.kind = 6 ∨ s.kind = 7 ∨ s.kind = 9 then 1
  else if s.kind = 12 then 2
  else if s.kind = 11 then writeF s.n s.b.length else 0

set_option maxHeartbeats 2000000 in
theorem call_touched (a n F L : Nat) (w : World) (h1 : 1 ≤ n) (h2 : a + n ≤ 262144) (hF : F = a / 512) (hL : L = (a + n - 1) / 512) :
    Calls Tryd.prog 80 #[.int .i64 a, .int .i64 n] w fun e w' => e = .returned (.int .i64 ((L - F + 1 : Nat) : Int)) ∧ Below w.heap.size w w' := by
  have hF1 : F * 512 ≤ a := by omega
  have hF2 : a < F * 512 + 512 := by omega
  have hL1 : L * 512 < a + n := by omega
  have hL2 : a + n ≤ L * 512 + 512 := by omega
  clear hF hL
  go_enter Tryd.func80, Tryd.ntmps80
  go_wp2
  go_loopw [5, 6] (fun c i wr => ∃ (k p q : Nat), p = 512 * k ∧ k ≤ 512 ∧ q + min k F = min k (L + 1) ∧ c = .int .i64 q ∧ i = .int .i64 p ∧ wr = w)
    (fun _ i _ => 262144 - (RowKit.intOf i).toNat)
  case atStart => exact ⟨0, 0, 0, rfl, by omega, by simp, rfl, rfl, by trivial⟩
  case round =>
    obtain ⟨k, p, q, hp, hk, hq, rfl, rfl, hwr⟩ := hrel
    subst hwr
    have HPp := Lib.hid hp
    have HQ := Lib.hid hq
    have HK := Lib.hid hk
    have H2 := Lib.hid h2
    have ha2 : a ≤ 262144 := by omega
    have hn2 : n ≤ 262144 := by omega
    have hq2 : q ≤ 600 := by omega
    have hpb : p ≤ 262144 := by omega
    by_cases hlt : k < 512
    · have p0 : (p : Int) < 262144 := by omega
      clear hp hq hk h2
      by_cases hi : k ≤ L
      · have p1 : (p : Int) < a + n := by have := HPp.out; omega
        by_cases lo : F ≤ k
        · have p2 : (a : Int) < p + 512 := by have := HPp.out; omega
          go_wp2
          go_roundw
          case rel => exact ⟨k + 1, p + 512, q + 1, by have := HPp.out; omega, by omega, by have := HQ.out; omega, by go_num, by go_num, by trivial⟩
          case measure => simp [RowKit.intOf]; omega
        · have p2 : ¬ (a : Int) < p + 512 := by have := HPp.out; omega
          go_wp2
          go_roundw
          case rel => exact ⟨k + 1, p + 512, q, by have := HPp.out; omega, by omega, by have := HQ.out; omega, rfl, by go_num, by trivial⟩
          case measure => simp [RowKit.intOf]; omega
      · have p1 : ¬ (p : Int) < a + n := by have := HPp.out; omega
        go_wp2
        go_roundw
        case rel => exact ⟨k + 1, p + 512, q, by have := HPp.out; omega, by omega, by have := HQ.out; omega, rfl, by go_num, by trivial⟩
        case measure => simp [RowKit.intOf]; omega
    · have p0 : ¬ (p : Int) < 262144 := by omega
      have hq3 : q = L - F + 1 := by omega
      subst hq3
      clear hp hq hk h2
      go_wp2
      go_ret
      exact ⟨rfl, Below.refl _ _⟩

theorem costF_one {s : Sp} (h : s.kind = 4 ∨ s.kind = 5 ∨ s.kind = 6 ∨ s.kind = 7 ∨ s.kind = 9) : costF s = 1 := if_pos h
theorem costF_twelve {s : Sp} (h : s.kind = 12) : costF s = 2 := by rw [costF, if_neg (by omega), if_pos h]
theorem costF_eleven {s : Sp} (h : s.kind = 11) : costF s = writeF s.n s.b.length := by rw [costF, if_neg (by omega), if_neg (by omega), if_pos h]
theorem costF_else {s : Sp} (h1 : ¬ s.kind = 4) (h2 : ¬ s.kind = 5) (h3 : ¬ s.kind = 6) (h4 : ¬ s.kind = 7) (h5 : ¬ s.kind = 9) (h6 : ¬ s.kind = 12) (h7 : ¬ s.kind = 11) : costF s = 0 := by
  rw [costF, if_neg (by omega), if_neg h6, if_neg h7]

set_option maxHeartbeats 2000000 in
theorem call_cost (s : Sp) (al : Option Addr) (nl cl : Nat) (w : World) (hb : s.b.length ≤ 1048576) :
    Calls Tryd.prog 53 #[.agg #[.int .i64 s.kind, .string (bs s.a), .string (bs s.b), .int .i64 s.n, .int .i64 s.m, .int .i64 s.k, .slice al nl cl]] w fun e w' => e = .returned (.int .i64 (costF s)) ∧ Below w.heap.size w w' := by
  obtain ⟨kind, a, b, n, m, k, list⟩ := s
  obtain ⟨C, hC⟩ : ∃ C, costF ⟨kind, a, b, n, m, k, list⟩ = C := ⟨_, rfl⟩
  obtain ⟨lb, hlb⟩ : ∃ n, b.length = n := ⟨_, rfl⟩
  obtain ⟨sa, hsa⟩ : ∃ x, bs a = x := ⟨_, rfl⟩
  obtain ⟨sb, hsb⟩ : ∃ x, bs b = x := ⟨_, rfl⟩
  have hz : sb.size = lb := by rw [← hsb, ← hlb]; simp [bs, ByteArray.size]
  simp only at hb ⊢
  rw [hC, hsa, hsb]
  have HC := Lib.hid hC
  have HLB := Lib.hid hlb
  rw [hlb] at hb
  clear hC hsa hsb hlb
  go_enter Tryd.func53, Tryd.ntmps53
  by_cases h4 : kind = 4
  · subst h4
    have hC : C = 1 := HC.out.symm.trans (costF_one (by simp))
    subst hC
    go_wp2
    go_ret
    exact ⟨rfl, below_alloc1 w _⟩
  by_cases h5 : kind = 5
  · subst h5
    have hC : C = 1 := HC.out.symm.trans (costF_one (by simp))
    subst hC
    go_wp2
    go_ret
    exact ⟨rfl, below_alloc1 w _⟩
  by_cases h6 : kind = 6
  · subst h6
    have hC : C = 1 := HC.out.symm.trans (costF_one (by simp))
    subst hC
    go_wp2
    go_ret
    exact ⟨rfl, below_alloc1 w _⟩
  by_cases h7 : kind = 7
  · subst h7
    have hC : C = 1 := HC.out.symm.trans (costF_one (by simp))
    subst hC
    go_wp2
    go_ret
    exact ⟨rfl, below_alloc1 w _⟩
  by_cases h9 : kind = 9
  · subst h9
    have hC : C = 1 := HC.out.symm.trans (costF_one (by simp))
    subst hC
    go_wp2
    go_ret
    exact ⟨rfl, below_alloc1 w _⟩
  by_cases h12 : kind = 12
  · subst h12
    have hC : C = 2 := HC.out.symm.trans (costF_twelve rfl)
    subst hC
    go_wp2
    go_ret
    exact ⟨rfl, below_alloc1 w _⟩
  by_cases h11 : kind = 11
  · subst h11
    have hw : C = writeF n lb := (HC.out.symm.trans (costF_eleven rfl)).trans (by rw [HLB.out])
    by_cases c1 : lb = 0
    · have hC : C = 0 := by rw [hw, writeF, if_pos (by omega)]
      have HW := Lib.hid hw
      clear hw
      subst hC
      subst c1
      go_wp2
      go_ret
      exact ⟨rfl, below_alloc1 w _⟩
    by_cases c2 : 4096 < lb
    · have hC : C = 0 := by rw [hw, writeF, if_pos (by omega)]
      clear hw
      subst hC
      have k1 : ¬ (lb : Int) = 0 := by omega
      have k2 : ¬ (lb : Int) < 1 := by omega
      have k3 : (4096 : Int) < lb := by omega
      go_wp2
      go_ret
      exact ⟨rfl, below_alloc1 w _⟩
    by_cases c3 : n < 0
    · have hC : C = 0 := by rw [hw, writeF, if_pos (by omega)]
      clear hw
      subst hC
      have k1 : ¬ (lb : Int) = 0 := by omega
      have k2 : ¬ (lb : Int) < 1 := by omega
      have k3 : ¬ (4096 : Int) < lb := by omega
      go_wp2
      go_ret
      exact ⟨rfl, below_alloc1 w _⟩
    by_cases c4 : 262144 - (lb : Int) < n
    · have hC : C = 0 := by rw [hw, writeF, if_pos (by omega)]
      clear hw
      subst hC
      have k1 : ¬ (lb : Int) = 0 := by omega
      have k2 : ¬ (lb : Int) < 1 := by omega
      have k3 : ¬ (4096 : Int) < lb := by omega
      go_wp2
      go_ret
      exact ⟨rfl, below_alloc1 w _⟩
    have k1 : ¬ (lb : Int) = 0 := by omega
    have k2 : ¬ (lb : Int) < 1 := by omega
    have k3 : ¬ (4096 : Int) < lb := by omega
    obtain ⟨N, rfl⟩ : ∃ N : Nat, n = N := ⟨n.toNat, by omega⟩
    have hC : C = (N + lb - 1) / 512 - N / 512 + 3 := by rw [hw, writeF, if_neg (by omega)]
    have HCC := Lib.hid hC
    clear hw hC
    go_wp2
    go_ret
    exact ⟨by rw [HCC.out]; rfl, below_alloc1 w _⟩
  have hC : C = 0 := HC.out.symm.trans (costF_else h4 h5 h6 h7 h9 h12 h11)
  subst hC
  go_wp2
  go_ret
  exact ⟨rfl, below_alloc1 w _⟩

set_option maxHeartbeats 2000000 in
theorem call_rcost (s : Sp) (al : Option Addr) (nl cl : Nat) (w : World) (hb : s.b.length ≤ 1048576) :
    Calls Tryd.prog 55 #[.agg #[.int .i64 s.kind, .string (bs s.a), .string (bs s.b), .int .i64 s.n, .int .i64 s.m, .int .i64 s.k, .slice al nl cl]] w fun e w' => e = .returned (.int .i64 (costF s)) ∧ Below w.heap.size w w' := by
  obtain ⟨kind, a, b, n, m, k, list⟩ := s
  obtain ⟨C, hC⟩ : ∃ C, costF ⟨kind, a, b, n, m, k, list⟩ = C := ⟨_, rfl⟩
  obtain ⟨lb, hlb⟩ : ∃ n, b.length = n := ⟨_, rfl⟩
  obtain ⟨sa, hsa⟩ : ∃ x, bs a = x := ⟨_, rfl⟩
  obtain ⟨sb, hsb⟩ : ∃ x, bs b = x := ⟨_, rfl⟩
  have hz : sb.size = lb := by rw [← hsb, ← hlb]; simp [bs, ByteArray.size]
  simp only at hb ⊢
  rw [hC, hsa, hsb]
  have HC := Lib.hid hC
  have HLB := Lib.hid hlb
  rw [hlb] at hb
  clear hC hsa hsb hlb
  go_enter Tryd.func55, Tryd.ntmps55
  by_cases h4 : kind = 4
  · subst h4
    have hC : C = 1 := HC.out.symm.trans (costF_one (by simp))
    subst hC
    go_wp2
    go_ret
    exact ⟨rfl, below_alloc1 w _⟩
  by_cases h5 : kind = 5
  · subst h5
    have hC : C = 1 := HC.out.symm.trans (costF_one (by simp))
    subst hC
    go_wp2
    go_ret
    exact ⟨rfl, below_alloc1 w _⟩
  by_cases h6 : kind = 6
  · subst h6
    have hC : C = 1 := HC.out.symm.trans (costF_one (by simp))
    subst hC
    go_wp2
    go_ret
    exact ⟨rfl, below_alloc1 w _⟩
  by_cases h7 : kind = 7
  · subst h7
    have hC : C = 1 := HC.out.symm.trans (costF_one (by simp))
    subst hC
    go_wp2
    go_ret
    exact ⟨rfl, below_alloc1 w _⟩
  by_cases h9 : kind = 9
  · subst h9
    have hC : C = 1 := HC.out.symm.trans (costF_one (by simp))
    subst hC
    go_wp2
    go_ret
    exact ⟨rfl, below_alloc1 w _⟩
  by_cases h12 : kind = 12
  · subst h12
    have hC : C = 2 := HC.out.symm.trans (costF_twelve rfl)
    subst hC
    go_wp2
    go_ret
    exact ⟨rfl, below_alloc1 w _⟩
  by_cases h11 : kind = 11
  · subst h11
    have hw : C = writeF n lb := (HC.out.symm.trans (costF_eleven rfl)).trans (by rw [HLB.out])
    by_cases c1 : lb = 0
    · have hC : C = 0 := by rw [hw, writeF, if_pos (by omega)]
      have HW := Lib.hid hw
      clear hw
      subst hC
      subst c1
      go_wp2
      go_ret
      exact ⟨rfl, below_alloc1 w _⟩
    by_cases c2 : 4096 < lb
    · have hC : C = 0 := by rw [hw, writeF, if_pos (by omega)]
      clear hw
      subst hC
      have k1 : ¬ (lb : Int) = 0 := by omega
      have k2 : ¬ (lb : Int) < 1 := by omega
      have k3 : (4096 : Int) < lb := by omega
      go_wp2
      go_ret
      exact ⟨rfl, below_alloc1 w _⟩
    by_cases c3 : n < 0
    · have hC : C = 0 := by rw [hw, writeF, if_pos (by omega)]
      clear hw
      subst hC
      have k1 : ¬ (lb : Int) = 0 := by omega
      have k2 : ¬ (lb : Int) < 1 := by omega
      have k3 : ¬ (4096 : Int) < lb := by omega
      go_wp2
      go_ret
      exact ⟨rfl, below_alloc1 w _⟩
    by_cases c4 : 262144 - (lb : Int) < n
    · have hC : C = 0 := by rw [hw, writeF, if_pos (by omega)]
      clear hw
      subst hC
      have k1 : ¬ (lb : Int) = 0 := by omega
      have k2 : ¬ (lb : Int) < 1 := by omega
      have k3 : ¬ (4096 : Int) < lb := by omega
      go_wp2
      go_ret
      exact ⟨rfl, below_alloc1 w _⟩
    have k1 : ¬ (lb : Int) = 0 := by omega
    have k2 : ¬ (lb : Int) < 1 := by omega
    have k3 : ¬ (4096 : Int) < lb := by omega
    obtain ⟨N, rfl⟩ : ∃ N : Nat, n = N := ⟨n.toNat, by omega⟩
    obtain ⟨F, hF⟩ : ∃ F, N / 512 = F := ⟨_, rfl⟩
    obtain ⟨L, hL⟩ : ∃ L, (N + lb - 1) / 512 = L := ⟨_, rfl⟩
    have hC : C = ((L - F + 1 : Nat) : Int) + 2 := by rw [hw, writeF, if_neg (by omega)]; omega
    have hq : L - F + 1 ≤ 600 := by omega
    have HF := Lib.hid hF
    have HL := Lib.hid hL
    have c5 : N + lb ≤ 262144 := by omega
    have c6 : 1 ≤ lb := by omega
    obtain ⟨q, hq3⟩ : ∃ q, L - F + 1 = q := ⟨_, rfl⟩
    rw [hq3] at hC hq
    have HCC := Lib.hid hC
    have HQ := Lib.hid hq3
    clear hw hC hF hL hq3
    go_wp2_with (go_at_call 80; refine (call_touched N lb F L _ c6 c5 HF.out.symm HL.out.symm).mono ?_; rintro e w2 ⟨rfl, hb2⟩; rw [HQ.out]; have HB2 := Lib.hid ((below_alloc1 w _).trans (hb2.mono (by rw [alloc_size]; omega))); clear hb2)
    go_ret
    exact ⟨by rw [HCC.out]; rfl, HB2.out⟩
  have hC : C = 0 := HC.out.symm.trans (costF_else h4 h5 h6 h7 h9 h12 h11)
  subst hC
  go_wp2
  go_ret
  exact ⟨rfl, below_alloc1 w _⟩
end Go.Proofs.YtlecpjfggoehdaaDoor.Ar

set_option linter.unusedVariables false
set_option linter.unusedSimpArgs false
set_option maxRecDepth 100000
namespace Go.Proofs.YtlecpjfggoehdaaDoor.Ar
open Go.RowKit Go.Sort Go.Lib Go.Proofs.YtlecpjfggoehdaaDoor.Rs

def RInt (w : World) (b o : Nat) (x : Int) : Prop := w.cell? ⟨b, o, none⟩ = some (.int .i64 x)
theorem RInt.stays : Stays RInt := fun _ _ hk _ _ _ h => hk _ _ _ h
def RSp (w : World) (b o : Nat) (s : Sp) : Prop := ∃ vl, w.cell? ⟨b, o, none⟩ = some (.int .i64 s.kind) ∧ w.cell? ⟨b, o + 1, none⟩ = some (.string (bs s.a)) ∧ w.cell? ⟨b, o + 2, none⟩ = some (.string (bs s.b)) ∧
  w.cell? ⟨b, o + 3, none⟩ = some (.int .i64 s.n) ∧ w.cell? ⟨b, o + 4, none⟩ = some (.int .i64 s.m) ∧ w.cell? ⟨b, o + 5, none⟩ = some (.int .i64 s.k) ∧ w.cell? ⟨b, o + 6, none⟩ = some vl ∧ Sl RInt 1 w vl s.list ∧ NilOk vl
theorem RSp.stays : Stays RSp := fun _ _ hk _ _ _ h => by
  obtain ⟨vl, h0, h1, h2, h3, h4, h5, h6, h7, h8⟩ := h
  exact ⟨vl, hk _ _ _ h0, hk _ _ _ h1, hk _ _ _ h2, hk _ _ _ h3, hk _ _ _ h4, hk _ _ _ h5, hk _ _ _ h6, h7.keep RInt.stays hk, h8⟩
structure SpSm (s : Sp) : Prop where
  a : s.a.length ≤ 1048576
  b : s.b.length ≤ 1048576
  l : s.list.length ≤ 1048576
structure SpsSm (l : List Sp) : Prop where
  len : l.length ≤ 1048576
  sp : ∀ s ∈ l, SpSm s
def roomF (l : List Sp) : Int := (l.map costF).sum
theorem costF_le (s : Sp) : 0 ≤ costF s ∧ costF s ≤ 600 := by
  unfold costF writeF
  repeat' split
  all_goals omega
theorem roomF_take {l : List Sp} {k : Nat} {s : Sp} (h : l[k]? = some s) : roomF (l.take (k + 1)) = roomF (l.take k) + costF s := by
  rw [List.take_add_one, h]
  simp [roomF]
theorem roomF_le (l : List Sp) : 0 ≤ roomF l ∧ roomF l ≤ 600 * l.length := by
  induction l with
  | nil => simp [roomF]
  | cons s l ih =>
    have := costF_le s
    simp only [roomF, List.map_cons, List.sum_cons, List.length_cons] at *
    omega

set_option maxHeartbeats 2000000 in
theorem call_shipRoom (v : Value) (l : List Sp) (w : World) (hs : Sl RSp 7 w v l) (hl : SpsSm l) :
    Calls Tryd.prog 27 #[v] w fun e w' => e = .returned (.int .i64 (roomF l)) ∧ Below w.heap.size w w' := by
  obtain ⟨aa, ba, oa, ca, rfl, haa, hca⟩ := hs
  obtain ⟨n, hn⟩ : ∃ n, l.length = n := ⟨_, rfl⟩
  have hlen := hl.len
  rw [hn] at hlen haa ⊢
  have HCa := Lib.hid hca
  have HN := Lib.hid hn
  have HL := Lib.hid hl
  clear hca hn hl
  go_enter Tryd.func27, Tryd.ntmps27
  go_wp2
  go_loopw [3, 8] (fun q i wr => ∃ (k : Nat) (z : Int), i = .int .i64 k ∧ k ≤ n ∧ q = .int .i64 z ∧ z = roomF (l.take k) ∧ Below w.heap.size w wr)
    (fun _ i _ => n - (RowKit.intOf i).toNat)
  case atStart => exact ⟨0, 0, rfl, Nat.zero_le _, rfl, rfl, Below.refl _ _⟩
  case round =>
    obtain ⟨k, z, rfl, hkn, rfl, hz, hb⟩ := hrel
    have HB := Lib.hid hb
    have hz1 := roomF_le (l.take k)
    rw [← hz, List.length_take] at hz1
    have hz2 : 0 ≤ z := hz1.1
    have hz3 : z ≤ 700000000 := by omega
    have HZ := Lib.hid hz
    clear hz hz1
    by_cases hlt : k < n
    · obtain ⟨s, hx⟩ : ∃ x, l[k]? = some x := ⟨_, List.getElem?_eq_getElem (by have := HN.out; omega)⟩
      obtain ⟨vl, p0, p1, p2, p3, p4, p5, p6, hva, hnl⟩ := RSp.stays _ _ (keeps_below hb) _ _ _ (HCa.out k s hx)
      obtain ⟨aP, bP, oP, cP, rfl, haP, hcP⟩ := hva
      have HSb := Lib.hid ((HL.out.sp s (List.mem_of_getElem? hx)).b)
      have hc := costF_le s
      have HT := Lib.hid (roomF_take hx)
      obtain ⟨c, hcc⟩ : ∃ c, costF s = c := ⟨_, rfl⟩
      rw [hcc] at hc
      have HC := Lib.hid hcc
      have c0 := hc.1
      have c1 := hc.2
      have k0 : (0 : Int) ≤ k := Int.natCast_nonneg _
      have k1 : (k : Int) < n := by omega
      have ha' := haa (by omega)
      subst ha'
      clear hx haa hb haP hcP hnl hc hcc
      go_wp2_with (go_at_call 53; refine (call_cost s _ _ _ _ HSb.out).mono ?_; rintro e w2 ⟨rfl, hb2⟩; rw [HC.out]; have HB2 := Lib.hid (below_after HB.out ((below_alloc1 wr _).trans (hb2.mono (by rw [alloc_size]; omega)))); clear hb2)
      go_roundw
      case rel => exact ⟨k + 1, z + c, by go_num, by omega, rfl, by rw [HT.out, HC.out, HZ.out], HB2.out⟩
      case measure => simp [RowKit.intOf]; omega
    · obtain rfl : k = n := by omega
      clear hb
      have hz : z = roomF l := by rw [HZ.out, ← HN.out, List.take_length]
      have HZl := Lib.hid hz
      clear haa
      go_wp2
      go_ret
      exact ⟨by rw [← HZl.out]; rfl, HB.out⟩

set_option maxHeartbeats 2000000 in
theorem call_shipRRoom (v : Value) (l : List Sp) (w : World) (hs : Sl RSp 7 w v l) (hl : SpsSm l) :
    Calls Tryd.prog 29 #[v] w fun e w' => e = .returned (.int .i64 (roomF l)) ∧ Below w.heap.size w w' := by
  obtain ⟨aa, ba, oa, ca, rfl, haa, hca⟩ := hs
  obtain ⟨n, hn⟩ : ∃ n, l.length = n := ⟨_, rfl⟩
  have hlen := hl.len
  rw [hn] at hlen haa ⊢
  have HCa := Lib.hid hca
  have HN := Lib.hid hn
  have HL := Lib.hid hl
  clear hca hn hl
  go_enter Tryd.func29, Tryd.ntmps29
  go_wp2
  go_loopw [3, 4] (fun q i wr => ∃ (k : Nat) (z : Int), i = .int .i64 k ∧ k ≤ n ∧ q = .int .i64 z ∧ z = roomF (l.take k) ∧ Below w.heap.size w wr)
    (fun _ i _ => n - (RowKit.intOf i).toNat)
  case atStart => exact ⟨0, 0, rfl, Nat.zero_le _, rfl, rfl, Below.refl _ _⟩
  case round =>
    obtain ⟨k, z, rfl, hkn, rfl, hz, hb⟩ := hrel
    have HB := Lib.hid hb
    have hz1 := roomF_le (l.take k)
    rw [← hz, List.length_take] at hz1
    have hz2 : 0 ≤ z := hz1.1
    have hz3 : z ≤ 700000000 := by omega
    have HZ := Lib.hid hz
    clear hz hz1
    by_cases hlt : k < n
    · obtain ⟨s, hx⟩ : ∃ x, l[k]? = some x := ⟨_, List.getElem?_eq_getElem (by have := HN.out; omega)⟩
      obtain ⟨vl, p0, p1, p2, p3, p4, p5, p6, hva, hnl⟩ := RSp.stays _ _ (keeps_below hb) _ _ _ (HCa.out k s hx)
      obtain ⟨aP, bP, oP, cP, rfl, haP, hcP⟩ := hva
      have HSb := Lib.hid ((HL.out.sp s (List.mem_of_getElem? hx)).b)
      have hc := costF_le s
      have HT := Lib.hid (roomF_take hx)
      obtain ⟨c, hcc⟩ : ∃ c, costF s = c := ⟨_, rfl⟩
      rw [hcc] at hc
      have HC := Lib.hid hcc
      have c0 := hc.1
      have c1 := hc.2
      have k0 : (0 : Int) ≤ k := Int.natCast_nonneg _
      have k1 : (k : Int) < n := by omega
      have ha' := haa (by omega)
      subst ha'
      clear hx haa hb haP hcP hnl hc hcc
      go_wp2_with (go_at_call 55; refine (call_rcost s _ _ _ _ HSb.out).mono ?_; rintro e w2 ⟨rfl, hb2⟩; rw [HC.out]; have HB2 := Lib.hid (below_after HB.out hb2); clear hb2)
      go_roundw
      case rel => exact ⟨k + 1, z + c, by go_num, by omega, rfl, by rw [HT.out, HC.out, HZ.out], HB2.out⟩
      case measure => simp [RowKit.intOf]; omega
    · obtain rfl : k = n := by omega
      clear hb
      have hz : z = roomF l := by rw [HZ.out, ← HN.out, List.take_length]
      have HZl := Lib.hid hz
      clear haa
      go_wp2
      go_ret
      exact ⟨by rw [← HZl.out]; rfl, HB.out⟩
end Go.Proofs.YtlecpjfggoehdaaDoor.Ar

set_option linter.unusedVariables false
set_option linter.unusedSimpArgs false
set_option maxRecDepth 100000
namespace Go.Proofs.YtlecpjfggoehdaaDoor.Ar
open Go.RowKit Go.Sort Go.Lib Go.Proofs.YtlecpjfggoehdaaDoor.Rs

set_option maxHeartbeats 2000000 in
theorem call_sameStep (s : Sp) (va vb : Value) (w : World) (ha : Sl RInt 1 w va s.list) (hb : Sl RInt 1 w vb s.list) (hl : s.list.length ≤ 1048576) :
    Calls Tryd.prog 54 #[.agg #[.int .i64 s.kind, .string (bs s.a), .string (bs s.b), .int .i64 s.n, .int .i64 s.m, .int .i64 s.k, va], .agg #[.int .i64 s.kind, .string (bs s.a), .string (bs s.b), .int .i64 s.n, .int .i64 s.m, .int .i64 s.k, vb]] w fun e w' => e = .returned (.bool true) ∧ Below w.heap.size w w' := by
  obtain ⟨aP, bP, oP, cP, rfl, haP, hcP⟩ := ha
  obtain ⟨aQ, bQ, oQ, cQ, rfl, haQ, hcQ⟩ := hb
  obtain ⟨np, hnp⟩ : ∃ n, s.list.length = n := ⟨_, rfl⟩
  rw [hnp] at hl haP haQ ⊢
  have HcP := Lib.hid hcP
  have HcQ := Lib.hid hcQ
  have HNp := Lib.hid hnp
  clear hcP hcQ hnp
  go_enter Tryd.func54, Tryd.ntmps54
  go_upto_region 0 with (fail)
  go_cut [2, 3] (fun v6 v7 wc => ∃ B1 B2, v6 = .pointer (some ⟨B1, 0, none⟩) ∧ v7 = .pointer (some ⟨B2, 0, none⟩) ∧ Row wc B1 59 (spCells s (.slice aP np cP)) ∧ Row wc B2 59 (spCells s (.slice aQ np cQ)) ∧ Below w.heap.size w wc)
  case first =>
    go_wp2
    go_meet
    case rel => exact ⟨w.heap.size, w.heap.size + 1, rfl, rfl, (Row.new w 59 (spCells s (.slice aP np cP))).alloc _, row_new1 w _ 59 (spCells s (.slice aQ np cQ)), below_alloc2 w _ _⟩
  case rest =>
    obtain ⟨B1, B2, rfl, rfl, r1, r2, hbc⟩ := hcut
    have R1 := Lib.hid r1
    have R2 := Lib.hid r2
    have HBc := Lib.hid hbc
    have HcP2 : Hid (∀ j x, s.list[j]? = some x → RInt wc bP (oP + j * 1) x) := Lib.hid (fun j x hj => RInt.stays _ _ (keeps_below hbc) _ _ _ (HcP.out j x hj))
    have HcQ2 : Hid (∀ j x, s.list[j]? = some x → RInt wc bQ (oQ + j * 1) x) := Lib.hid (fun j x hj => RInt.stays _ _ (keeps_below hbc) _ _ _ (HcQ.out j x hj))
    have a0 := (show _ = some (Value.int .i64 s.kind) from r1.cell 0)
    have a1 := (show _ = some (Value.string (bs s.a)) from r1.cell 1)
    have a2 := (show _ = some (Value.string (bs s.b)) from r1.cell 2)
    have a3 := (show _ = some (Value.int .i64 s.n) from r1.cell 3)
    have a4 := (show _ = some (Value.int .i64 s.m) from r1.cell 4)
    have a5 := (show _ = some (Value.int .i64 s.k) from r1.cell 5)
    have a6 := (show _ = some (Value.slice aP np cP) from r1.cell 6)
    have b0 := (show _ = some (Value.int .i64 s.kind) from r2.cell 0)
    have b1 := (show _ = some (Value.string (bs s.a)) from r2.cell 1)
    have b2 := (show _ = some (Value.string (bs s.b)) from r2.cell 2)
    have b3 := (show _ = some (Value.int .i64 s.n) from r2.cell 3)
    have b4 := (show _ = some (Value.int .i64 s.m) from r2.cell 4)
    have b5 := (show _ = some (Value.int .i64 s.k) from r2.cell 5)
    have b6 := (show _ = some (Value.slice aQ np cQ) from r2.cell 6)
    clear r1 r2 hbc HcP HcQ
    go_step; go_step
    go_wp2
    clear a0 a1 a2 a3 a4 a5 a6 b0 b1 b2 b3 b4 b5 b6
    go_loopw [5] (fun i wr => ∃ (j : Nat), i = .int .i64 j ∧ j ≤ np ∧ Below wc.heap.size wc wr)
      (fun i _ => np - (RowKit.intOf i).toNat)
    case atStart => exact ⟨0, rfl, Nat.zero_le _, Below.refl _ _⟩
    case round =>
      obtain ⟨j, rfl, hjn, hb⟩ := hrel
      have HBj := Lib.hid hb
      have a4 := (show _ = some (Value.slice aP np cP) from (R1.out.below hb R1.out.lt).cell 6)
      have b4 := (show _ = some (Value.slice aQ np cQ) from (R2.out.below hb R2.out.lt).cell 6)
      by_cases hjl : j < np
      · obtain ⟨x, hpc⟩ : ∃ x, s.list[j]? = some x := ⟨_, List.getElem?_eq_getElem (by have := HNp.out; omega)⟩
        have c0 : wr.cell? ⟨bP, oP + j * 1, none⟩ = some (.int .i64 x) := RInt.stays _ _ (keeps_below hb) _ _ _ (HcP2.out j x hpc)
        have d0 : wr.cell? ⟨bQ, oQ + j * 1, none⟩ = some (.int .i64 x) := RInt.stays _ _ (keeps_below hb) _ _ _ (HcQ2.out j x hpc)
        rw [Nat.mul_one] at c0 d0
        have haP' := haP (by omega)
        have haQ' := haQ (by omega)
        subst haP' haQ'
        have j0 : (0 : Int) ≤ j := Int.natCast_nonneg _
        have j1 : (j : Int) < np := by omega
        clear hpc haP haQ hb
        go_wp2_with fail
        go_quiet (fail)
        have HBd := Lib.hid (Below.drewN' HBj.out nq)
        clear a4 b4 c0 d0
        generalize wr.drewN nq = wd at *
        go_wp2
        go_roundw
        case rel => exact ⟨j + 1, by go_num, by omega, HBd.out⟩
        case measure => simp [RowKit.intOf]; omega
      · obtain rfl : j = np := by omega
        clear haP haQ hb
        go_wp2
        go_ret
        exact ⟨rfl, below_after HBc.out HBj.out⟩

set_option maxHeartbeats 4000000 in
theorem call_sameSteps (va vb : Value) (l : List Sp) (w : World) (ha : Sl RSp 7 w va l) (hb : Sl RSp 7 w vb l) (hl : SpsSm l) :
    Calls Tryd.prog 28 #[va, vb] w fun e w' => e = .returned (.bool true) ∧ Below w.heap.size w w' := by
  obtain ⟨aa, ba, oa, ca, rfl, haa, hca⟩ := ha
  obtain ⟨ab, bb, ob, cb, rfl, hab, hcb⟩ := hb
  obtain ⟨n, hn⟩ : ∃ n, l.length = n := ⟨_, rfl⟩
  have hlen := hl.len
  rw [hn] at hlen haa hab ⊢
  have HCa := Lib.hid hca
  have HCb := Lib.hid hcb
  have HN := Lib.hid hn
  have HL := Lib.hid hl
  clear hca hcb hn hl
  go_enter Tryd.func28, Tryd.ntmps28
  go_wp2
  go_loopw [5] (fun i wr => ∃ (k : Nat), i = .int .i64 k ∧ k ≤ n ∧ Below w.heap.size w wr)
    (fun i _ => n - (RowKit.intOf i).toNat)
  case atStart => exact ⟨0, rfl, Nat.zero_le _, Below.refl _ _⟩
  case round =>
    obtain ⟨k, rfl, hkn, hb⟩ := hrel
    have HB := Lib.hid hb
    by_cases hlt : k < n
    · obtain ⟨s, hx⟩ : ∃ x, l[k]? = some x := ⟨_, List.getElem?_eq_getElem (by have := HN.out; omega)⟩
      obtain ⟨va, p0, p1, p2, p3, p4, p5, p6, hva, _⟩ := RSp.stays _ _ (keeps_below hb) _ _ _ (HCa.out k s hx)
      obtain ⟨vb, q0, q1, q2, q3, q4, q5, q6, hvb, _⟩ := RSp.stays _ _ (keeps_below hb) _ _ _ (HCb.out k s hx)
      have HVa := Lib.hid hva
      have HVb := Lib.hid hvb
      have HSl := Lib.hid (HL.out.sp s (List.mem_of_getElem? hx)).l
      have k0 : (0 : Int) ≤ k := Int.natCast_nonneg _
      have k1 : (k : Int) < n := by omega
      have ha' := haa (by omega)
      have hb' := hab (by omega)
      subst ha' hb'
      haveI : Nonempty (Wd (Below wr.heap.size wr)) := ⟨⟨_, Below.refl _ _⟩⟩
      have P0 : ∀ y : Wd (Below wr.heap.size wr), y.val.cell? ⟨ba, oa + k * 7, none⟩ = some (.int .i64 s.kind) := fun y => keeps_below y.ok _ _ _ p0
      have P1 : ∀ y : Wd (Below wr.heap.size wr), y.val.cell? ⟨ba, oa + k * 7 + 1, none⟩ = some (.string (bs s.a)) := fun y => keeps_below y.ok _ _ _ p1
      have P2 : ∀ y : Wd (Below wr.heap.size wr), y.val.cell? ⟨ba, oa + k * 7 + 2, none⟩ = some (.string (bs s.b)) := fun y => keeps_below y.ok _ _ _ p2
      have P3 : ∀ y : Wd (Below wr.heap.size wr), y.val.cell? ⟨ba, oa + k * 7 + 3, none⟩ = some (.int .i64 s.n) := fun y => keeps_below y.ok _ _ _ p3
      have P4 : ∀ y : Wd (Below wr.heap.size wr), y.val.cell? ⟨ba, oa + k * 7 + 4, none⟩ = some (.int .i64 s.m) := fun y => keeps_below y.ok _ _ _ p4
      have P5 : ∀ y : Wd (Below wr.heap.size wr), y.val.cell? ⟨ba, oa + k * 7 + 5, none⟩ = some (.int .i64 s.k) := fun y => keeps_below y.ok _ _ _ p5
      have P6 : ∀ y : Wd (Below wr.heap.size wr), y.val.cell? ⟨ba, oa + k * 7 + 6, none⟩ = some va := fun y => keeps_below y.ok _ _ _ p6
      have Q0 : ∀ y : Wd (Below wr.heap.size wr), y.val.cell? ⟨bb, ob + k * 7, none⟩ = some (.int .i64 s.kind) := fun y => keeps_below y.ok _ _ _ q0
      have Q1 : ∀ y : Wd (Below wr.heap.size wr), y.val.cell? ⟨bb, ob + k * 7 + 1, none⟩ = some (.string (bs s.a)) := fun y => keeps_below y.ok _ _ _ q1
      have Q2 : ∀ y : Wd (Below wr.heap.size wr), y.val.cell? ⟨bb, ob + k * 7 + 2, none⟩ = some (.string (bs s.b)) := fun y => keeps_below y.ok _ _ _ q2
      have Q3 : ∀ y : Wd (Below wr.heap.size wr), y.val.cell? ⟨bb, ob + k * 7 + 3, none⟩ = some (.int .i64 s.n) := fun y => keeps_below y.ok _ _ _ q3
      have Q4 : ∀ y : Wd (Below wr.heap.size wr), y.val.cell? ⟨bb, ob + k * 7 + 4, none⟩ = some (.int .i64 s.m) := fun y => keeps_below y.ok _ _ _ q4
      have Q5 : ∀ y : Wd (Below wr.heap.size wr), y.val.cell? ⟨bb, ob + k * 7 + 5, none⟩ = some (.int .i64 s.k) := fun y => keeps_below y.ok _ _ _ q5
      have Q6 : ∀ y : Wd (Below wr.heap.size wr), y.val.cell? ⟨bb, ob + k * 7 + 6, none⟩ = some vb := fun y => keeps_below y.ok _ _ _ q6
      clear hx haa hab hb hva hvb p0 p1 p2 p3 p4 p5 p6 q0 q1 q2 q3 q4 q5 q6
      go_wp2_with fail
      refine wp_region_class (Below wr.heap.size wr) (by kernel_rfl) (by kernel_rfl) (below_drew _) ?_
      repeat (first | go_big_quiet_skip | (go_big_quiet_want; go_big_quiet_op; first | go_big_quiet_on | go_big_quiet_call ((go_at_call 54; refine (call_sameStep s va vb _ (HVa.out.keep RInt.stays (keeps_below (Wd.ok _))) (HVb.out.keep RInt.stays (keeps_below (Wd.ok _))) HSl.out).mono ?_; rintro e w2 ⟨rfl, hb2⟩; exact ⟨rfl, ⟨_, below_after (Wd.ok _) hb2⟩, rfl⟩))))
      refine wpQuiet_nil ?_
      rintro _ ⟨y, rfl⟩
      clear P0 P1 P2 P3 P4 P5 P6 Q0 Q1 Q2 Q3 Q4 Q5 Q6
      have HY := Lib.hid y.ok
      go_wp2
      go_roundw
      case rel => exact ⟨k + 1, by go_num, by omega, below_after HB.out HY.out⟩
      case measure => simp [RowKit.intOf]; omega
    · obtain rfl : k = n := by omega
      clear haa hab hb
      go_wp2
      go_ret
      exact ⟨rfl, HB.out⟩
end Go.Proofs.YtlecpjfggoehdaaDoor.Ar

set_option linter.unusedVariables false
set_option linter.unusedSimpArgs false
set_option maxRecDepth 100000
namespace Go.Proofs.YtlecpjfggoehdaaDoor.Ar
open Go.RowKit Go.Sort Go.Lib Go.Proofs.YtlecpjfggoehdaaDoor.Rs

abbrev SV := Sp × Value
def spRow (x : SV) : List Value := spCells x.1 x.2
theorem spRow_len (x : SV) : (spRow x).length = 7 := rfl
def svCells (L : List SV) : List Value := (L.map spRow).flatten
theorem svCells_len (L : List SV) : (svCells L).length = L.length * 7 := flat_len _ _ spRow_len L
theorem svCells_app (L : List SV) (x : SV) : svCells (L ++ [x]) = svCells L ++ spRow x := by simp [svCells]
theorem svCells_get {L : List SV} {j : Nat} {x : SV} (h : L[j]? = some x) (i : Nat) (hi : i < 7) : (svCells L)[j * 7 + i]? = (spRow x)[i]? := flat_get _ _ spRow_len L j i x h hi
theorem info59 : (Tryd.prog.info? 59).map (fun i => (i.zero, i.size, i.bytes)) = some (some (.agg #[.int .i64 0, .string ⟨#[]⟩, .string ⟨#[]⟩, .int .i64 0, .int .i64 0, .int .i64 0, .slice none 0 0]), 7, 88) := by kernel_rfl
theorem info3 : (Tryd.prog.info? 3).map (fun i => (i.zero, i.size, i.bytes)) = some (some (.int .i64 0), 1, 8) := by kernel_rfl
def intV (x : Int) : Value := .int .i64 x
abbrev OwnI (base : Nat) (w : World) (v : Value) (l : List Int) : Prop := w.ownsRow base 3 1 v l.length (l.map intV)
theorem own_lenS {w : World} {base e size n m c : Nat} {a : Option Addr} {xs : List Value} (h : w.ownsRow base e size (.slice a n c) m xs) : n = m := by
  rcases h.2 with ⟨e, h0⟩ | ⟨_, _, _, e, _⟩
  · cases e; omega
  · cases e; rfl
structure CpS (base : Nat) (wr : World) (v : Value) (l : List Sp) (k : Nat) (L : List SV) : Prop where
  fst : L.map (·.1) = l.take k
  len : L.length = k
  row : wr.ownsRow base 59 7 v k (svCells L)
  lst : ∀ x ∈ L, OwnI base wr x.2 x.1.list
theorem CpS.step {base k : Nat} {wr w8 w9 : World} {v v' v2 : Value} {l : List Sp} {L : List SV} {s : Sp} (h : CpS base wr v l k L) (hs : l[k]? = some s) (hb : Below wr.heap.size wr w8) (hv : OwnI base w8 v2 s.list)
    (h1 : w9.ownsRow base 59 7 v' (k + 1) (svCells L ++ spCells s v2)) (h2 : w8.grownBy w9 v.ownBlock) : CpS base w9 v' l (k + 1) (L ++ [(s, v2)]) := by
  have hr := own_below h.row hb
  have key : ∀ x : SV, OwnI base w8 x.2 x.1.list → OwnI base w9 x.2 x.1.list := fun x hx => own_keep hx (fun u e => h2.block u (hx.lt u e).2 (fun e2 => own_apart hx hr (by decide) e e2.symm))
  refine ⟨?_, by rw [List.length_append, h.len]; rfl, by rw [svCells_app]; exact h1, fun x hx => ?_⟩
  · rw [List.map_append, h.fst, List.take_add_one, hs]; rfl
  · rcases List.mem_append.1 hx with hx | hx
    · exact key x (own_below (h.lst x hx) hb)
    · rw [List.mem_singleton.1 hx]
      exact key (s, v2) hv
theorem OwnI.sl {base : Nat} {w : World} {v : Value} {l : List Int} (h : OwnI base w v l) : Sl RInt 1 w v l := by
  by_cases h0 : l.length = 0
  · have := List.eq_nil_of_length_eq_zero h0
    subst this
    obtain ⟨a, n, c, rfl⟩ := own_isSl h
    have hn : n = 0 := own_lenS h
    subst hn
    exact ⟨a, 0, 0, c, rfl, by simp, by simp⟩
  · obtain ⟨g, c, rfl, _, _, _, hc, _⟩ := own_form h (by omega)
    refine ⟨_, g, 0, c, rfl, fun _ => rfl, fun j x hj => ?_⟩
    rw [Nat.zero_add, Nat.mul_one]
    exact hc j _ (by rw [List.getElem?_map, hj]; rfl)
theorem CpS.sl {base : Nat} {wr : World} {v : Value} {l : List Sp} {k : Nat} {L : List SV} (h : CpS base wr v l k L) (hk : k = l.length) : Sl RSp 7 wr v l := by
  subst hk
  have hfst := h.fst
  rw [List.take_length] at hfst
  by_cases h0 : l.length = 0
  · have := List.eq_nil_of_length_eq_zero h0
    subst this
    have hr := h.row
    obtain ⟨a, n, c, rfl⟩ := own_isSl hr
    have hn : n = 0 := own_lenS hr
    subst hn
    exact ⟨a, 0, 0, c, rfl, by simp, by simp⟩
  · obtain ⟨g, c, rfl, _, _, _, hc, _⟩ := own_form h.row (by omega)
    refine ⟨_, g, 0, c, rfl, fun _ => rfl, fun j s hj => ?_⟩
    rw [← hfst, List.getElem?_map] at hj
    obtain ⟨x, hx, rfl⟩ := Option.map_eq_some_iff.1 hj
    have hl := h.lst x (List.mem_of_getElem? hx)
    rw [Nat.zero_add]
    have g := fun i (hi : i < 7) u (e : (spRow x)[i]? = some u) => hc (j * 7 + i) u (by rw [svCells_get hx i hi, e])
    exact ⟨x.2, g 0 (by omega) _ rfl, g 1 (by omega) _ rfl, g 2 (by omega) _ rfl, g 3 (by omega) _ rfl, g 4 (by omega) _ rfl, g 5 (by omega) _ rfl, g 6 (by omega) _ rfl, hl.sl, fun k' c' e => by
      rw [e] at hl
      rcases hl.2 with ⟨h', _⟩ | ⟨_, _, _, h', _⟩
      · cases h'; exact ⟨rfl, rfl⟩
      · cases h'⟩
/-- a list's cells, as an append takes them -/
theorem int_of {w : World} {v : Value} {l : List Int} (h : Sl RInt 1 w v l) : ∃ ad c, v = .slice ad l.length c ∧ (0 < l.length → ∃ g off, ad = some ⟨g, off, none⟩ ∧ ∀ j u, (l.map intV)[j]? = some u → w.cell? ((⟨g, off, none⟩ : Addr).add j) = some u) := by
  obtain ⟨a, b, o, c, e, ha, hc⟩ := h
  refine ⟨a, c, e, fun h0 => ⟨b, o, ha h0, fun j u hj => ?_⟩⟩
  rw [List.getElem?_map] at hj
  obtain ⟨x, hx, rfl⟩ := Option.map_eq_some_iff.1 hj
  have := hc j x hx
  rw [Nat.mul_one] at this
  unfold Addr.add
  split
  · rename_i h0; subst h0; simpa [RInt, intV] using this
  · simpa [RInt, intV] using this

theorem own_rowS {w : World} {base e size n B T : Nat} {v : Value} {xs cur : List Value} (h : w.ownsRow base e size v n xs) (hr : Row w B T cur) (hne : e ≠ T) : v.ownBlock ≠ some B := fun hk => by
  rcases h.2 with ⟨rfl, _⟩ | ⟨g, cap, cur', rfl, _, hh, _⟩
  · cases hk
  · cases hk
    have h2 := hr
    unfold Row at h2
    rw [hh] at h2
    simp at h2
    exact hne h2.2
set_option maxHeartbeats 2000000 in
theorem call_copySteps (v : Value) (l : List Sp) (w : World) (hs : Sl RSp 7 w v l) (hl : SpsSm l) :
    Calls Tryd.prog 26 #[v] w fun e w' => (∃ v' L, e = .returned v' ∧ CpS w.heap.size w' v' l l.length L) ∧ Below w.heap.size w w' := by
  obtain ⟨al, bl, ol, cl, rfl, ha, hc⟩ := hs
  obtain ⟨mp, hmp⟩ : ∃ n, l.length = n := ⟨_, rfl⟩
  have hlen := hl.len
  rw [hmp] at ha hlen ⊢
  obtain ⟨i0, hi0, hz0, hs0, hb0⟩ := info_parts info59
  obtain ⟨i1, hi1, hz1, hs1, hb1⟩ := info_parts info3
  have HM := Lib.hid hmp
  have HC := Lib.hid hc
  have HL := Lib.hid hl
  clear hmp hc hl
  go_enter Tryd.func26, Tryd.ntmps26
  go_wp2
  go_loopw [3, 4] (fun v3 i wr => ∃ (k : Nat) (L : List SV), i = .int .i64 k ∧ k ≤ mp ∧ CpS w.heap.size wr v3 l k L ∧ Below w.heap.size w wr)
    (fun _ i _ => mp - (RowKit.intOf i).toNat)
  case atStart => exact ⟨0, [], rfl, Nat.zero_le _, ⟨rfl, rfl, World.ownsRow_nil _ _ _ _, fun x hx => by cases hx⟩, Below.refl _ _⟩
  case round =>
    obtain ⟨k, L, rfl, hk, ht, hb⟩ := hrel
    have HT := Lib.hid ht
    have HB := Lib.hid hb
    obtain ⟨a3, n3, c3, rfl⟩ := own_isSl ht.row
    obtain rfl : n3 = k := own_lenS ht.row
    by_cases hlt : n3 < mp
    · obtain ⟨s, hx⟩ : ∃ x, l[n3]? = some x := ⟨_, List.getElem?_eq_getElem (by have := HM.out; omega)⟩
      obtain ⟨vl, p0, p1, p2, p3, p4, p5, p6, hva, hnl⟩ := RSp.stays _ _ (keeps_below hb) _ _ _ (HC.out n3 s hx)
      obtain ⟨ad, cs, rfl, hsrc⟩ := int_of hva
      obtain ⟨np, hnp⟩ : ∃ n, s.list.length = n := ⟨_, rfl⟩
      have hnp1 : np ≤ 1048576 := by rw [← hnp]; exact (HL.out.sp s (List.mem_of_getElem? hx)).l
      rw [hnp] at p6 hsrc hnl
      have HSrc := Lib.hid hsrc
      have HNp := Lib.hid hnp
      have HX := Lib.hid hx
      have HVa := Lib.hid hva
      have k0 : (0 : Int) ≤ n3 := Int.natCast_nonneg _
      have k1 : (n3 : Int) < mp := by omega
      have ha' := ha (by omega)
      subst ha'
      clear hx ha hb hva hnp ht hsrc
      go_upto_region 7 with (fail)
      go_cut [24] (fun v24 wc => ∃ a2 c2, v24 = .slice a2 np c2 ∧ Row wc wr.heap.size 59 (spCells s (.slice a2 np c2)) ∧ OwnI w.heap.size wc (.slice a2 np c2) s.list ∧ Below wr.heap.size wr wc)
      case first =>
        have HM6 : Hid (Row (wr.alloc (.cells #[.int .i64 s.kind, .string (bs s.a), .string (bs s.b), .int .i64 s.n, .int .i64 s.m, .int .i64 s.k, .slice none 0 0] 59)) wr.heap.size 59 (spCells s (.slice none 0 0))) := Lib.hid (Row.new wr 59 (spCells s (.slice none 0 0)))
        have HB6 : Hid (Below wr.heap.size wr (wr.alloc (.cells #[.int .i64 s.kind, .string (bs s.a), .string (bs s.b), .int .i64 s.n, .int .i64 s.m, .int .i64 s.k, .slice none 0 0] 59))) := Lib.hid (below_alloc1 _ _)
        have p7 := keeps_alloc wr (.cells #[.int .i64 s.kind, .string (bs s.a), .string (bs s.b), .int .i64 s.n, .int .i64 s.m, .int .i64 s.k, .slice none 0 0] 59) _ _ _ p6
        by_cases h0 : np = 0
        · subst h0
          have HN0 : Hid (s.list = []) := Lib.hid (List.eq_nil_of_length_eq_zero HNp.out)
          clear hnl
          cases ad with
          | none =>
            go_region
            all_goals
              go_wp2_with fail
              go_meet
              case rel => exact ⟨none, 0, rfl, HM6.out.drew, by rw [HN0.out]; exact World.ownsRow_nil _ _ _ _, HB6.out.drew⟩
          | some ad =>
            go_region
            all_goals
              go_wp2_with fail
              go_meet
              case rel => exact ⟨none, 0, rfl, HM6.out.drew, by rw [HN0.out]; exact World.ownsRow_nil _ _ _ _, HB6.out.drew⟩
        · obtain ⟨g, off, rfl, hcs⟩ := HSrc.out (by omega)
          have HSr : Hid (∀ j u, (s.list.map intV)[j]? = some u → (wr.alloc (.cells #[.int .i64 s.kind, .string (bs s.a), .string (bs s.b), .int .i64 s.n, .int .i64 s.m, .int .i64 s.k, .slice none 0 0] 59)).drew.cell? ((⟨g, off, none⟩ : Addr).add j) = some u) := Lib.hid (fun j u hj => by
            have e : (⟨g, off, none⟩ : Addr).add j = ⟨g, off + j, none⟩ := by unfold Addr.add; split <;> simp_all
            have := hcs j u hj
            rw [e] at this ⊢
            have h := keeps_alloc wr (.cells #[.int .i64 s.kind, .string (bs s.a), .string (bs s.b), .int .i64 s.n, .int .i64 s.m, .int .i64 s.k, .slice none 0 0] 59) _ _ _ this
            exact h)
          have HBs : Hid (w.heap.size ≤ (wr.alloc (.cells #[.int .i64 s.kind, .string (bs s.a), .string (bs s.b), .int .i64 s.n, .int .i64 s.m, .int .i64 s.k, .slice none 0 0] 59)).drew.heap.size) := Lib.hid (by show _ ≤ (wr.alloc (.cells #[.int .i64 s.kind, .string (bs s.a), .string (bs s.b), .int .i64 s.n, .int .i64 s.m, .int .i64 s.k, .slice none 0 0] 59)).heap.size; rw [alloc_size]; have := HB.out.size; omega)
          have HLl : Hid ((s.list.map intV).length = np * 1) := Lib.hid (by rw [List.length_map, HNp.out, Nat.mul_one])
          have HOn : Hid (∀ u ∈ s.list.map intV, u.oneCell' = true) := Lib.hid (fun u hu => by obtain ⟨x, _, rfl⟩ := List.mem_map.1 hu; rfl)
          have HP1 : Hid (0 < np) := Lib.hid (by omega)
          have HP2 : Hid (0 + np ≤ maxLen) := Lib.hid (by unfold maxLen; omega)
          have HP3 : Hid ((0 + np) * 8 ≤ 140737488355328) := Lib.hid (by omega)
          have HNe : Hid ((Value.slice none 0 0).ownBlock ≠ some wr.heap.size) := Lib.hid (by intro e; cases e)
          clear hcs hnl
          go_region_law (refine step_append_lies _ (by rfl) _ _ 57 (by rfl) w.heap.size 3 i1 _ 1 8 Tryd.underlying57 hi1 hz1 hs1 hb1 rfl (by decide) (.slice none 0 0) 0 [] (by rfl) (World.ownsRow_nil _ _ _ _) ⟨g, off, none⟩ np cs (s.list.map intV) (by rfl) HLl.out HSr.out HOn.out HP1.out HP2.out HP3.out HBs.out _ rfl ?_; intro g4 c4 v4 h1' h2' h3' h4'; have HV4 := Lib.hid h1'; have HR4 := Lib.hid h2'; have HM7 := Lib.hid (HM6.out.drew.grown h2' HNe.out.symm); have mz := HM7.out.free 6; have m7 := (show _ = some (Value.slice none 0 0) from HM7.out.cell 6); clear h1' h2' h3' h4')
          all_goals
            have HMf : Hid (Row (v4.setCell ⟨wr.heap.size, 6, none⟩ (.slice (some ⟨g4, 0, none⟩) np c4)) wr.heap.size 59 (spCells s (.slice (some ⟨g4, 0, none⟩) np c4))) := Lib.hid (HM7.out.set 6 _)
            have HO4 : Hid (OwnI w.heap.size v4 (.slice (some ⟨g4, 0, none⟩) np c4) s.list) := Lib.hid (by
              have h := HV4.out
              rw [Nat.zero_add, List.nil_append] at h
              show World.ownsRow _ _ _ _ _ s.list.length _
              rw [HNp.out]
              exact h)
            have HOf : Hid (OwnI w.heap.size (v4.setCell ⟨wr.heap.size, 6, none⟩ (.slice (some ⟨g4, 0, none⟩) np c4)) (.slice (some ⟨g4, 0, none⟩) np c4) s.list) := Lib.hid (own_keep HO4.out (fun u e => Below.heap_setCell v4 ⟨wr.heap.size, 6, none⟩ _ u (by intro e2; subst e2; exact own_rowS HO4.out HM7.out (by decide) e)))
            have HBf : Hid (Below wr.heap.size wr (v4.setCell ⟨wr.heap.size, 6, none⟩ (.slice (some ⟨g4, 0, none⟩) np c4))) := Lib.hid ((HB6.out.drew.grown HR4.out HB6.out.drew.size (fun r e => by cases e)).setCell (p := ⟨wr.heap.size, 6, none⟩) (Nat.le_refl _) _)
            clear mz m7
            go_wp2_with fail
            go_meet
            case rel => exact ⟨_, _, rfl, HMf.out, HOf.out, HBf.out⟩
      case rest =>
        obtain ⟨a2, c2, rfl, hrw, how, hbw⟩ := hcut
        have b0 := (show _ = some (Value.int .i64 s.kind) from hrw.cell 0)
        have b1 := (show _ = some (Value.string (bs s.a)) from hrw.cell 1)
        have b2 := (show _ = some (Value.string (bs s.b)) from hrw.cell 2)
        have b3 := (show _ = some (Value.int .i64 s.n) from hrw.cell 3)
        have b4 := (show _ = some (Value.int .i64 s.m) from hrw.cell 4)
        have b5 := (show _ = some (Value.int .i64 s.k) from hrw.cell 5)
        have b6 := (show _ = some (Value.slice a2 np c2) from hrw.cell 6)
        have HBz : Hid (Below wr.heap.size wr (wc.alloc (.cells #[.int .i64 s.kind, .string (bs s.a), .string (bs s.b), .int .i64 s.n, .int .i64 s.m, .int .i64 s.k, .slice a2 np c2] 59))) := Lib.hid (hbw.alloc hbw.size _)
        have HOz : Hid (OwnI w.heap.size (wc.alloc (.cells #[.int .i64 s.kind, .string (bs s.a), .string (bs s.b), .int .i64 s.n, .int .i64 s.m, .int .i64 s.k, .slice a2 np c2] 59)) (.slice a2 np c2) s.list) := Lib.hid (own_below how (below_alloc1 wc _))
        have HOc : Hid ((wc.alloc (.cells #[.int .i64 s.kind, .string (bs s.a), .string (bs s.b), .int .i64 s.n, .int .i64 s.m, .int .i64 s.k, .slice a2 np c2] 59)).ownsRow w.heap.size 59 7 (.slice a3 n3 c3) n3 (svCells L)) := Lib.hid (own_below HT.out.row HBz.out)
        have HRn : Hid (Row (wc.alloc (.cells #[.int .i64 s.kind, .string (bs s.a), .string (bs s.b), .int .i64 s.n, .int .i64 s.m, .int .i64 s.k, .slice a2 np c2] 59)) wc.heap.size 59 (spCells s (.slice a2 np c2))) := Lib.hid (Row.new wc 59 (spCells s (.slice a2 np c2)))
        have HS2 : Hid (∃ ad c, Value.slice (some ⟨wc.heap.size, 0, none⟩) 1 1 = .slice ad 1 c ∧ (0 < 1 → ∃ g off, ad = some ⟨g, off, none⟩ ∧ ∀ j u, (spCells s (.slice a2 np c2))[j]? = some u → (wc.alloc (.cells #[.int .i64 s.kind, .string (bs s.a), .string (bs s.b), .int .i64 s.n, .int .i64 s.m, .int .i64 s.k, .slice a2 np c2] 59)).cell? ⟨g, off + j, none⟩ = some u)) := Lib.hid ⟨_, _, rfl, fun _ => ⟨_, 0, rfl, fun j u hj => (by rw [Nat.zero_add]; exact (HRn.out.cell j).trans hj)⟩⟩
        have HN2 : Hid (NilOk (.slice (some ⟨wc.heap.size, 0, none⟩) 1 1)) := Lib.hid (fun n c e => (by cases e))
        have HB0 : Hid (Below w.heap.size w (wc.alloc (.cells #[.int .i64 s.kind, .string (bs s.a), .string (bs s.b), .int .i64 s.n, .int .i64 s.m, .int .i64 s.k, .slice a2 np c2] 59))) := Lib.hid (below_after HB.out HBz.out)
        have HBs : Hid (w.heap.size ≤ (wc.alloc (.cells #[.int .i64 s.kind, .string (bs s.a), .string (bs s.b), .int .i64 s.n, .int .i64 s.m, .int .i64 s.k, .slice a2 np c2] 59)).heap.size) := Lib.hid HB0.out.size
        have HOn : Hid (∀ u ∈ spCells s (.slice a2 np c2), u.oneCell' = true) := Lib.hid (by intro u hu; simp only [spCells, List.mem_cons, List.not_mem_nil, or_false] at hu; rcases hu with rfl | rfl | rfl | rfl | rfl | rfl | rfl <;> rfl)
        have HP3 : Hid ((n3 + 1) * 88 ≤ 140737488355328) := Lib.hid (by omega)
        clear hrw how hbw p6 hnl
        go_step; go_step
        go_wp2_with (at_builtin; refine wpl_many 56 59 i0 _ 7 88 Tryd.underlying56 hi0 hz0 hs0 hb0 rfl (by decide) HOc.out (by rfl) _ _ (by rfl) (by rfl) (.slice (some ⟨wc.heap.size, 0, none⟩) 1 1) (by rfl) (spCells s (.slice a2 np c2)) 1 rfl HN2.out HS2.out HOn.out HBs.out HP3.out (by decide) ?_; intro v9 w9 h1 h2 h3; have HV9 := Lib.hid h1; have HG9 := Lib.hid h2; clear h1 h2 h3)
        go_roundw
        case rel => exact ⟨n3 + 1, _, by go_num, by omega, CpS.step HT.out HX.out HBz.out HOz.out HV9.out HG9.out, HB0.out.grown HG9.out HBs.out (fun r e => (HT.out.row.lt r e).1)⟩
        case measure => simp [RowKit.intOf]; omega
    · obtain rfl : n3 = mp := by omega
      clear ha hb ht
      go_wp2
      go_ret
      exact ⟨⟨_, L, rfl, HT.out⟩, HB.out⟩
end Go.Proofs.YtlecpjfggoehdaaDoor.Ar

set_option linter.unusedVariables false
set_option linter.unusedSimpArgs false
set_option maxRecDepth 100000
namespace Go.Proofs.YtlecpjfggoehdaaDoor.Ar
open Go.RowKit Go.Sort Go.Lib Go.Proofs.YtlecpjfggoehdaaDoor.Rs

set_option maxHeartbeats 2000000 in
theorem call_shipRooms_of (v : Value) (l : List Sp) (w : World) (hfirst : ∀ w1 : World, Below w.heap.size w w1 → Calls Tryd.prog 25 #[] w1 fun e w' => e = .returned (.bool true) ∧ Below w1.heap.size w1 w')
    (hs : Sl RSp 7 w v l) (hl : SpsSm l) (hp : Stp w) (hm : MaxL w) :
    Calls Tryd.prog 10 #[v] w fun e w' => e = .returned (.bool true) ∧ Below w.heap.size w w' := by
  have HS := Lib.hid hs
  obtain ⟨aa, ba, oa, ca, rfl, haa, hca⟩ := hs
  obtain ⟨n, hn⟩ : ∃ n, l.length = n := ⟨_, rfl⟩
  have hlen := hl.len
  rw [hn] at hlen haa HS ⊢
  have HCa := Lib.hid hca
  have HN := Lib.hid hn
  have HL := Lib.hid hl
  have HP := Lib.hid hp
  have HMx := Lib.hid hm
  have HF := Lib.hid hfirst
  clear hca hn hl hp hm hfirst
  go_enter Tryd.func10, Tryd.ntmps10
  go_wp2
  go_loopw [3, 4] (fun q i wr => ∃ (k z : Nat), i = .int .i64 k ∧ k ≤ n ∧ q = .int .i64 z ∧ z ≤ k * 3145728 ∧ Below w.heap.size w wr)
    (fun _ i _ => n - (RowKit.intOf i).toNat)
  case atStart => exact ⟨0, 0, rfl, Nat.zero_le _, rfl, Nat.zero_le _, Below.refl _ _⟩
  case round =>
    obtain ⟨k, z, rfl, hkn, rfl, hz, hb⟩ := hrel
    have HB := Lib.hid hb
    have hz2 : z ≤ 3500000000000 := by omega
    have HZ := Lib.hid hz
    clear hz
    by_cases hlt : k < n
    · obtain ⟨s, hx⟩ : ∃ x, l[k]? = some x := ⟨_, List.getElem?_eq_getElem (by have := HN.out; omega)⟩
      obtain ⟨vl, _, p1, p2, _, _, _, p6, hva, _⟩ := RSp.stays _ _ (keeps_below hb) _ _ _ (HCa.out k s hx)
      obtain ⟨aP, bP, oP, cP, rfl, _, _⟩ := hva
      have hsm := HL.out.sp s (List.mem_of_getElem? hx)
      obtain ⟨la, hla⟩ : ∃ n, s.a.length = n := ⟨_, rfl⟩
      obtain ⟨lb, hlb⟩ : ∃ n, s.b.length = n := ⟨_, rfl⟩
      obtain ⟨ll, hll⟩ : ∃ n, s.list.length = n := ⟨_, rfl⟩
      obtain ⟨sa, hsa⟩ : ∃ x, bs s.a = x := ⟨_, rfl⟩
      obtain ⟨sb, hsb⟩ : ∃ x, bs s.b = x := ⟨_, rfl⟩
      have za : sa.size = la := by rw [← hsa, ← hla]; simp [bs, ByteArray.size]
      have zb : sb.size = lb := by rw [← hsb, ← hlb]; simp [bs, ByteArray.size]
      have h1 : la ≤ 1048576 := by rw [← hla]; exact hsm.a
      have h2 : lb ≤ 1048576 := by rw [← hlb]; exact hsm.b
      have h3 : ll ≤ 1048576 := by rw [← hll]; exact hsm.l
      rw [hsa] at p1
      rw [hsb] at p2
      rw [hll] at p6
      have k0 : (0 : Int) ≤ k := Int.natCast_nonneg _
      have k1 : (k : Int) < n := by omega
      have ha' := haa (by omega)
      subst ha'
      clear hx haa hb hsm hla hlb hll hsa hsb
      go_wp2_with fail
      go_quiet (fail)
      have HBd := Lib.hid (Below.drewN' HB.out nq)
      clear p1 p2 p6
      generalize wr.drewN nq = wd at *
      go_wp2
      go_roundw
      case rel => exact ⟨k + 1, z + la + lb + ll, by go_num, by omega, by first | rfl | go_num, by have := HZ.out; omega, HBd.out⟩
      case measure => simp [RowKit.intOf]; omega
    · obtain rfl : k = n := by omega
      clear hb haa
      by_cases hbig : 1048576 < z
      · have z0 : (1048576 : Int) < z := by omega
        go_wp2_with (first
          | (go_at_call 25; refine (HF.out w1 HB1.out).mono ?_; rintro e w2 ⟨rfl, hb2⟩; have HB2 := Lib.hid (below_after HB1.out hb2); clear hb2)
          | (go_at_call 25; refine (HF.out wr HB.out).mono ?_; rintro e w1 ⟨rfl, hb1⟩; have HB1 := Lib.hid (below_after HB.out hb1); clear hb1))
        go_ret
        exact ⟨rfl, HB2.out⟩
      · have z0 : ¬ (1048576 : Int) < z := by omega
        go_wp2_with (first
          | (go_at_call 29; refine (call_shipRRoom _ l w6 (HT6.out.sl HN.out.symm) HL.out).mono ?_; rintro e w7 ⟨rfl, hb7⟩; rw [HRF.out]; have HB7 := Lib.hid (below_after HB6.out hb7); clear hb7)
          | (go_at_call 26; refine (call_copySteps _ l w5 (HS.out.keep RSp.stays (keeps_below HB5.out)) HL.out).mono ?_; rintro e w6 ⟨⟨v6, L6, rfl, ht6⟩, hb6⟩; rw [HN.out] at ht6; have HT6 := Lib.hid ht6; have HB6 := Lib.hid (below_after HB5.out hb6); clear ht6 hb6)
          | (go_at_call 28; refine (call_sameSteps _ _ l w4 ((HT3.out.sl HN.out.symm).keep RSp.stays (keeps_below HB34.out)) (HS.out.keep RSp.stays (keeps_below HB4.out)) HL.out).mono ?_; rintro e w5 ⟨rfl, hb5⟩; have HB5 := Lib.hid (below_after HB4.out hb5); clear hb5)
          | (go_at_call 27; refine (call_shipRoom _ l w3 (HT3.out.sl HN.out.symm) HL.out).mono ?_; rintro e w4 ⟨rfl, hb4⟩; obtain ⟨rf, hrf⟩ : ∃ x, roomF l = x := ⟨_, rfl⟩; rw [hrf]; have HRF := Lib.hid hrf; have HB34 := Lib.hid hb4; have HB4 := Lib.hid (below_after HB3.out hb4); clear hb4 hrf)
          | (go_at_call 26; refine (call_copySteps _ l w1 (HS.out.keep RSp.stays (keeps_below HB1.out)) HL.out).mono ?_; rintro e w3 ⟨⟨v3, L3, rfl, ht3⟩, hb3⟩; rw [HN.out] at ht3; have HT3 := Lib.hid ht3; have HB3 := Lib.hid (below_after HB1.out hb3); clear ht3 hb3)
          | (go_at_call 25; refine (HF.out wr HB.out).mono ?_; rintro e w1 ⟨rfl, hb1⟩; have HB1 := Lib.hid (below_after HB.out hb1); clear hb1))
        go_ret
        exact ⟨rfl, HB7.out⟩
end Go.Proofs.YtlecpjfggoehdaaDoor.Ar

set_option linter.unusedVariables false
set_option linter.unusedSimpArgs false
namespace Go.Proofs.YtlecpjfggoehdaaDoor.Ar
open Go.RowKit Go.Lib Go.Proofs.YtlecpjfggoehdaaDoor.Rs
open Go.Proofs.YtlecpjfggoehdaaDoor.Rows (uptoBulk uptoBulkAll uptoSmall)
set_option maxRecDepth 100000

theorem c57 : Tryd.prog.cellsOf 57 = 1 := by kernel_rfl
theorem c59 : Tryd.prog.cellsOf 59 = 7 := by kernel_rfl
section
variable {H : Type} {enc : TypeId × Value → H} {w : World} {sp : Nat → Bool} {held : Bool}
theorem open_int {fuel b o : Nat} {cs : List Value} {y : DataW H × List MemPlace} (hl : cs.length = 1) (hc : ∀ i, i < 1 → w.cell? ⟨b, o + i, none⟩ = cs[i]?) (h : DataW.trod enc Tryd.prog w 0 sp held fuel 3 cs = some y) : ∃ x, RInt w b o x ∧ 0 ≤ uptoBulk y.1 := by
  match cs, hl with
  | [k0], _ =>
    obtain ⟨a0, rfl, _⟩ := open_i64 h
    exact ⟨a0, hc 0 (by omega), Nat.zero_le _⟩
/-- what a step weighs -/
def spWt (s : Sp) : Nat := s.a.length + s.b.length + s.list.length
theorem open_sp {fuel b o : Nat} {cs : List Value} {y : DataW H × List MemPlace} (hl : cs.length = 7) (hc : ∀ i, i < 7 → w.cell? ⟨b, o + i, none⟩ = cs[i]?) (h : DataW.trod enc Tryd.prog w 0 sp held fuel 59 cs = some y) : ∃ x, RSp w b o x ∧ spWt x ≤ uptoBulk y.1 := by
  obtain ⟨ys, n, _, hy, _, hys, hf⟩ := DataW.trod_struct Tryd.underlying59 h
  match cs, hl, ys, hys with
  | [k0, k1, k2, k3, k4, k5, k6], _, [y0, y1, y2, y3, y4, y5, y6], _ =>
    obtain ⟨a0, rfl, w0⟩ := open_i64 (by simpa [c3] using hf 0 _ rfl)
    obtain ⟨l1, rfl, b1⟩ := open_str (show DataW.trod enc Tryd.prog w 0 sp held n 9 [k1] = some y1 by simpa [c9] using hf 1 _ rfl)
    obtain ⟨l2, rfl, b2⟩ := open_str (show DataW.trod enc Tryd.prog w 0 sp held n 9 [k2] = some y2 by simpa [c9] using hf 2 _ rfl)
    obtain ⟨a3, rfl, w3⟩ := open_i64 (by simpa [c3] using hf 3 _ rfl)
    obtain ⟨a4, rfl, w4⟩ := open_i64 (by simpa [c3] using hf 4 _ rfl)
    obtain ⟨a5, rfl, w5⟩ := open_i64 (by simpa [c3] using hf 5 _ rfl)
    obtain ⟨l6, ⟨s6, n6, _⟩, b6, _⟩ := open_sl (R := RInt) (fun _ => 0) Tryd.underlying57 c3 (by omega) (fun _ _ _ _ _ => open_int) (show DataW.trod enc Tryd.prog w 0 sp held n 57 [k6] = some y6 by simpa [c57] using hf 6 _ rfl)
    refine ⟨⟨a0, l1, l2, a3, a4, a5, l6⟩, ⟨k6, hc 0 (by omega), hc 1 (by omega), hc 2 (by omega), hc 3 (by omega), hc 4 (by omega), hc 5 (by omega), hc 6 (by omega), s6, n6⟩, ?_⟩
    subst hy
    simp only [spWt, uptoBulk, uptoBulkAll, List.map_cons, List.map_nil]
    omega
/-- the law's argument -/
def ArgS (w : World) (c : Value) (l : List Sp) : Prop := Sl RSp 7 w c l ∧ SpsSm l
theorem open_steps {fuel : Nat} {c : Value} {y : DataW H × List MemPlace} (h : DataW.trod enc Tryd.prog w 0 sp held fuel 56 [c] = some y) (hk : uptoBulk y.1 ≤ 1048576) : ∃ l, ArgS w c l := by
  obtain ⟨l, ⟨hs, hn, hc⟩, b1, b2⟩ := open_sl (R := RSp) spWt Tryd.underlying56 c59 (by omega) (fun _ _ _ _ _ => open_sp) h
  refine ⟨l, hs, by omega, fun s hm => ?_⟩
  have h1 := sum_mem spWt hm
  have h3 : spWt s ≤ 1048576 := by omega
  unfold spWt at h3
  exact ⟨by omega, by omega, by omega⟩
end
theorem call_shipRooms (v : Value) (l : List Sp) (w : World) (hfirst : ∀ w1 : World, Below w.heap.size w w1 → Calls Tryd.prog 25 #[] w1 fun e w' => e = .returned (.bool true) ∧ Below w1.heap.size w1 w')
    (ha : ArgS w v l) (hp : Stp w) (hm : MaxL w) :
    Calls Tryd.prog 10 #[v] w fun e w' => e = .returned (.bool true) ∧ Below w.heap.size w w' := call_shipRooms_of v l w hfirst ha.1 ha.2 hp hm
end Go.Proofs.YtlecpjfggoehdaaDoor.Ar

set_option linter.unusedVariables false
set_option linter.unusedSimpArgs false
set_option maxRecDepth 100000
namespace Go.Proofs.YtlecpjfggoehdaaDoor.Ar
open Go.RowKit Go.Sort Go.Lib Go.Proofs.YtlecpjfggoehdaaDoor.Rs

def helloB : List UInt8 := [104, 101, 108, 108, 111]
def shipL : List Mb := [⟨2, [100], [], 0, []⟩, ⟨1, [100, 47, 102], [], 5, [⟨0, helloB⟩]⟩, ⟨3, [103], [100, 47, 102], 0, []⟩]
theorem make5 (w : World) : (Instr.makeSlice 31 (.int .i64 5) (.int .i64 5)).run Tryd.prog w = .ok (.slice (some ⟨w.heap.size, 0, none⟩) 5 5) (w.alloc (.cells #[.int .u8 0, .int .u8 0, .int .u8 0, .int .u8 0, .int .u8 0] 5)) := by kernel_rfl
theorem copy_hello (w : World) : (Builtin.copy_ #[31, 9] 3 #[.slice (some ⟨w.heap.size, 0, none⟩) 5 5, .string ⟨#[104, 101, 108, 108, 111]⟩]).run Tryd.prog (w.alloc (.cells #[.int .u8 0, .int .u8 0, .int .u8 0, .int .u8 0, .int .u8 0] 5)) =
    .ok (.int .i64 5) (w.alloc (.cells #[.int .u8 104, .int .u8 101, .int .u8 108, .int .u8 108, .int .u8 111] 5)) := by
  have h := run_copy_row_string (P := Tryd.prog) (w.alloc (.cells #[.int .u8 0, .int .u8 0, .int .u8 0, .int .u8 0, .int .u8 0] 5)) 31 9 3 5 w.heap.size 0 5 5 ⟨#[104, 101, 108, 108, 111]⟩ #[.int .u8 0, .int .u8 0, .int .u8 0, .int .u8 0, .int .u8 0] 5 Tryd.underlying31 (by kernel_rfl) (Row.new w 5 [.int .u8 0, .int .u8 0, .int .u8 0, .int .u8 0, .int .u8 0]) (by decide) (by decide)
  rw [World.setRow_alloc_new] at h
  exact h
set_option maxHeartbeats 1000000 in
theorem call_shipExample (w : World) : Calls Tryd.prog 51 #[] w fun e w' => ∃ v, e = .returned v ∧ Sl RMb 5 w' v shipL ∧ Below w.heap.size w w' := by
  have hmk := make5
  have hcp := copy_hello w
  have hr2 := Row.new w 5 (helloB.map byteV)
  have hcv : (convert 31 9 (.slice (some ⟨w.heap.size, 0, none⟩) 5 5)).run Tryd.prog (w.alloc (.cells #[.int .u8 104, .int .u8 101, .int .u8 108, .int .u8 108, .int .u8 111] 5)) = .ok (.string (bs helloB)) (w.alloc (.cells #[.int .u8 104, .int .u8 101, .int .u8 108, .int .u8 108, .int .u8 111] 5)) :=
    conv_txt (w := w.alloc (.cells (helloB.map byteV).toArray 5)) (B := w.heap.size) (o := 0) (c := 5) (l := helloB) (fun j x hj => by
      rw [Nat.zero_add, hr2.cell, List.getElem?_map, hj]; rfl)
  clear hr2
  go_enter Tryd.func51, Tryd.ntmps51
  go_wp2
  go_ret
  obtain ⟨w1, hw1⟩ : ∃ w1, w.alloc (.cells #[.int .u8 104, .int .u8 101, .int .u8 108, .int .u8 108, .int .u8 111] 5) = w1 := ⟨_, rfl⟩
  have hs1 : w.heap.size + 1 = w1.heap.size := by rw [← hw1, alloc_size]
  have hb1 : Below w.heap.size w w1 := by rw [← hw1]; exact below_alloc1 w _
  rw [hw1, hs1]
  have r1 := (Row.new w1 82 [.int .i64 0, .string (bs helloB)]).alloc (.cells #[.int .i64 2, .string ⟨#[100]⟩, .string ⟨#[]⟩, .int .i64 0, .slice none 0 0, .int .i64 1, .string ⟨#[100, 47, 102]⟩, .string ⟨#[]⟩, .int .i64 5, .slice (some ⟨w1.heap.size, 0, none⟩) 1 1, .int .i64 3, .string ⟨#[103]⟩, .string ⟨#[100, 47, 102]⟩, .int .i64 0, .slice none 0 0] 51)
  have r2 := row_new1 w1 (.cells #[.int .i64 0, .string (bs helloB)] 82) 51 [.int .i64 2, .string ⟨#[100]⟩, .string ⟨#[]⟩, .int .i64 0, .slice none 0 0, .int .i64 1, .string ⟨#[100, 47, 102]⟩, .string ⟨#[]⟩, .int .i64 5, .slice (some ⟨w1.heap.size, 0, none⟩) 1 1, .int .i64 3, .string ⟨#[103]⟩, .string ⟨#[100, 47, 102]⟩, .int .i64 0, .slice none 0 0]
  refine ⟨_, rfl, ⟨_, w1.heap.size + 1, 0, 3, rfl, fun _ => rfl, fun j x hj => ?_⟩, below_after hb1 (below_alloc2 w1 _ _)⟩
  have c := r2.cell
  have i0 : ∀ z : Int, 0 ≤ z → z ≤ 1000 → I64 z := fun z h1 h2 => ⟨by omega, by omega⟩
  match j, hj with
  | 0, hj =>
    cases hj
    exact ⟨.slice none 0 0, c 0, c 1, c 2, c 3, c 4, ⟨nil_pc _, i0 _ (by decide) (by decide), i0 _ (by decide) (by decide)⟩⟩
  | 1, hj =>
    cases hj
    refine ⟨.slice (some ⟨w1.heap.size, 0, none⟩) 1 1, c 5, c 6, c 7, c 8, c 9, ⟨⟨_, w1.heap.size, 0, 1, rfl, fun _ => rfl, fun j x hj => ?_⟩, i0 _ (by decide) (by decide), i0 _ (by decide) (by decide)⟩⟩
    match j, hj with
    | 0, hj =>
      cases hj
      exact ⟨r1.cell 0, r1.cell 1, i0 _ (by decide) (by decide)⟩
    | j + 1, hj => cases hj
  | 2, hj =>
    cases hj
    exact ⟨.slice none 0 0, c 10, c 11, c 12, c 13, c 14, ⟨nil_pc _, i0 _ (by decide) (by decide), i0 _ (by decide) (by decide)⟩⟩
  | j + 3, hj => cases hj
theorem ship_good : goodB shipL = true := by decide +kernel
theorem ship_sm : LsSm shipL := ⟨by decide, fun m hm => by
  simp only [shipL, List.mem_cons, List.not_mem_nil, or_false] at hm
  rcases hm with rfl | rfl | rfl
  · exact ⟨by decide, by decide, by decide, by simp⟩
  · exact ⟨by decide, by decide, by decide, fun p hp => by rw [List.mem_singleton.1 hp]; decide⟩
  · exact ⟨by decide, by decide, by decide, by simp⟩⟩
theorem none_good : goodB [] = true := by decide +kernel
theorem none_sm : LsSm [] := ⟨by decide, by simp⟩
end Go.Proofs.YtlecpjfggoehdaaDoor.Ar

set_option linter.unusedVariables false
set_option linter.unusedSimpArgs false
set_option maxRecDepth 100000
namespace Go.Proofs.YtlecpjfggoehdaaDoor.Ar
open Go.RowKit Go.Sort Go.Lib Go.Proofs.YtlecpjfggoehdaaDoor.Rs
theorem bs_slash (p : List UInt8) : (⟨#[47]⟩ : ByteArray) ++ bs p = bs (47 :: p) := by
  apply ByteArray.ext
  simp [bs]
set_option maxHeartbeats 1000000 in
theorem call_place (p : List UInt8) (w : World) (hp : p.length ≤ 1048576) : Calls Tryd.prog 105 #[.string (bs p)] w fun e w' => e = .returned (.string (bs (47 :: p))) ∧ Below w.heap.size w w' := by
  have hz := bs_size p
  have hs := bs_slash p
  have hz2 := bs_size (47 :: p)
  obtain ⟨A, hA⟩ : ∃ A, bs p = A := ⟨_, rfl⟩
  obtain ⟨B, hB⟩ : ∃ B, bs (47 :: p) = B := ⟨_, rfl⟩
  rw [hA, hB] at hs
  rw [hA] at hz ⊢
  rw [hB] at hz2 ⊢
  go_enter Tryd.func105, Tryd.ntmps105
  go_wp2
  go_ret
  exact ⟨by first | rfl | (simp [hs]; done) | (rw [← hs]; rfl), Below.refl _ _⟩
end Go.Proofs.YtlecpjfggoehdaaDoor.Ar

set_option linter.unusedVariables false
set_option linter.unusedSimpArgs false
set_option maxRecDepth 100000
namespace Go.Proofs.YtlecpjfggoehdaaDoor.Ar
open Go.RowKit Go.Sort Go.Lib Go.Proofs.YtlecpjfggoehdaaDoor.Rs

/-- the place of the last member of a path, among the first n -/
def lastIdx (l : List Mb) (p : List UInt8) : Nat → Option Nat
  | 0 => none
  | n + 1 => if l[n]?.map (·.path) = some p then some n else lastIdx l p n
theorem lastIdx_some {l : List Mb} {p : List UInt8} : ∀ {n i : Nat}, lastIdx l p n = some i → i < n ∧ ∃ m, l[i]? = some m ∧ m.path = p
  | 0, _, h => by cases h
  | n + 1, i, h => by
    rw [lastIdx] at h
    split at h
    · rename_i hp
      cases h
      obtain ⟨m, hm, e⟩ := Option.map_eq_some_iff.1 hp
      exact ⟨by omega, m, hm, e⟩
    · obtain ⟨h1, h2⟩ := lastIdx_some h
      exact ⟨by omega, h2⟩
def emptyMb : Mb := ⟨0, [], [], 0, []⟩
/-- the member that a list has at a member's path and that keeps it -/
def twinF (l : List Mb) (m : Mb) : Option Mb := (lastIdx l m.path l.length).bind fun i => (l[i]?).bind fun x => if x.kind = m.kind ∧ x.link = m.link then some x else none
def sp1 (kind : Int) (a : List UInt8) (n : Int) : Sp := ⟨kind, a, [], n, 0, 0, []⟩
def goesSp (m : Mb) : Sp := sp1 (if m.kind = 2 then 7 else 6) (47 :: m.path) 0
def comesSp (m : Mb) : Sp := if m.kind = 2 then sp1 5 (47 :: m.path) 0 else if m.kind = 1 then sp1 4 (47 :: m.path) 0 else ⟨9, 47 :: m.link, 47 :: m.path, 0, 0, 0, []⟩
/-- n bytes of a file from a page's beginning on -/
def pageF (m : Mb) (off : Int) (n : Nat) : List UInt8 := match m.pieces.find? (fun p => decide (p.off = off)) with
  | some p => p.data.take n ++ List.replicate (n - p.data.length) 0
  | none => List.replicate n 0
theorem pageF_len (m : Mb) (off : Int) (n : Nat) : (pageF m off n).length = n := by
  unfold pageF
  split
  · simp only [List.length_append, List.length_take, List.length_replicate]; omega
  · simp
def pgN (b : Mb) (k : Nat) : Nat := min 512 (b.size.toNat - 512 * k)
def diffF (a b : Mb) (k : Nat) : Bool := !decide (pageF b (512 * k) (pgN b k) = pageF a (512 * k) (pgN b k))
def wrSp (b : Mb) (k : Nat) : Sp := ⟨11, 47 :: b.path, pageF b (512 * k) (pgN b k), 512 * k, 0, 0, []⟩
/-- the writes of the first k pages -/
def chW (a b : Mb) : Nat → List Sp
  | 0 => []
  | k + 1 => chW a b k ++ (if diffF a b k = true then [wrSp b k] else [])
/-- how long the file is behind them -/
def chS (a b : Mb) : Nat → Int
  | 0 => min a.size b.size
  | k + 1 => if diffF a b k = true then max (chS a b k) (512 * k + pgN b k) else chS a b k
def pagesN (b : Mb) : Nat := (b.size.toNat + 511) / 512
def trSp (b : Mb) : Sp := sp1 12 (47 :: b.path) b.size
def headW (a b : Mb) : List Sp := if b.size < a.size then [trSp b] else []
def changesF (a b : Mb) : List Sp := headW a b ++ chW a b (pagesN b) ++ (if chS a b (pagesN b) = b.size then [] else [trSp b])
def goesF (tl : List Mb) (m : Mb) : List Sp := if (twinF tl m).isNone = true then [goesSp m] else []
def comesF (fr : List Mb) (m : Mb) : List Sp := (if (twinF fr m).isNone = true then [comesSp m] else []) ++ (if m.kind = 1 then changesF ((twinF fr m).getD emptyMb) m else [])
def planF (a b : List Mb) : List Sp := a.reverse.flatMap (goesF b) ++ b.flatMap (comesF a)
/-- what is known of a file, that it may be gone through page by page -/
structure FileOk (m : Mb) : Prop where
  s0 : 0 ≤ m.size
  s1 : m.size ≤ 262144
  path : m.path.length ≤ 1048576
  link : m.link.length ≤ 1048576
  pcs : m.pieces.length ≤ 1048576
  data : ∀ p ∈ m.pieces, p.data.length ≤ 1048576
  off : ∀ p ∈ m.pieces, 0 ≤ p.off ∧ p.off ≤ 10000000
  rise : ∀ (i j : Nat) (p q : Pc), i < j → m.pieces[i]? = some p → m.pieces[j]? = some q → p.off < q.off
theorem FileOk.empty : FileOk emptyMb := ⟨by decide, by decide, by decide, by decide, by decide, (fun p hp => by simp [emptyMb] at hp), (fun p hp => by simp [emptyMb] at hp), (fun i j p q _ hp _ => by simp [emptyMb] at hp)⟩
theorem chS_le (a b : Mb) (h : 0 ≤ a.size) (hb : 0 ≤ b.size) : ∀ k, 0 ≤ chS a b k ∧ chS a b k ≤ b.size
  | 0 => by simp only [chS]; omega
  | k + 1 => by
    have ih := chS_le a b h hb k
    rw [chS]
    split
    · have : (512 * k + pgN b k : Int) ≤ max b.size (512 * k) := by unfold pgN; omega
      by_cases hk : 512 * (k : Int) ≤ b.size
      · omega
      · rename_i hd
        -- a page behind the end has no bytes: it does not differ
        have h0 : pgN b k = 0 := by unfold pgN; omega
        rw [diffF, h0] at hd
        have e1 := pageF_len b (512 * k) 0
        have e2 := pageF_len a (512 * k) 0
        rw [List.length_eq_zero_iff.1 e1, List.length_eq_zero_iff.1 e2] at hd
        simp at hd
    · exact ih
end Go.Proofs.YtlecpjfggoehdaaDoor.Ar
