
/- Archive: the reference reads a member. -/
import Derived.Test.YtlecpjfggoehdaaGreatDoorOpP
import Derived.Deep.AppendLies
set_option linter.unusedVariables false
set_option linter.unusedSimpArgs false
set_option maxRecDepth 100000
namespace Go.Proofs.YtlecpjfggoehdaaGreatDoor.Ar
open Go.RowKit Go.Sort Go.Lib Go.Proofs.YtlecpjfggoehdaaGreatDoor.Rs

/-- half's answer, with a flag -/
def FHalf (w : World) (C : Nat) (vb : Value) (b : List UInt8) (k : Nat) (bad : Bool) (e : Ending) (w' : World) : Prop :=
  ∃ (x k' : Nat) (bad' : Bool), e = .returned (.int .i64 x) ∧ x < 4294967296 ∧ w.grownBy w' (some C) ∧ Row w' C 66 [vb, .int .i64 k', .bool bad'] ∧ k' ≤ b.length ∧
    (bad' = false → bad = false ∧ k + 4 ≤ b.length ∧ x = numN b k ∧ k' = k + 4) ∧ (bad' = true → bad = true ∨ ¬ k + 4 ≤ b.length)
theorem call_fhalf (C : Nat) (vb : Value) (b : List UInt8) (k : Nat) (bad : Bool) (w : World) (hr : Cu w C vb b k bad) :
    Calls Tryz.prog 25 #[.pointer (some ⟨C, 0, none⟩)] w (FHalf w C vb b k bad) := by
  refine (call_chalf C vb b k bad w hr).mono ?_
  rintro e w' ⟨hg, ⟨h0, h4, rfl, hrow⟩ | ⟨h4, rfl, hrow⟩⟩
  · exact ⟨numN b k, k + 4, false, by rw [numN_cast], numN_lt _ _, hg, hrow, h4, fun _ => ⟨h0, h4, rfl, rfl⟩, fun h => by cases h⟩
  · refine ⟨0, k, true, rfl, by omega, hg, hrow, hr.le, (fun h => by cases h), fun _ => ?_⟩
    cases bad
    · exact .inr (fun h => h4 ⟨rfl, h⟩)
    · exact .inl rfl
/-- take's answer, with a flag -/
def FTake (w : World) (C : Nat) (vb : Value) (b : List UInt8) (k n : Nat) (bad : Bool) (e : Ending) (w' : World) : Prop :=
  ∃ (t : List UInt8) (k' : Nat) (bad' : Bool), e = .returned (.string (bs t)) ∧ w.grownBy w' (some C) ∧ Row w' C 66 [vb, .int .i64 k', .bool bad'] ∧ k' ≤ b.length ∧
    (bad' = false → bad = false ∧ k + n ≤ b.length ∧ t = txt b k n ∧ k' = k + n) ∧ (bad' = true → bad = true ∨ ¬ k + n ≤ b.length)
theorem call_ftake (C : Nat) (vb : Value) (b : List UInt8) (k n : Nat) (bad : Bool) (w : World) (hr : Cu w C vb b k bad) (hn : n < 4294967296) :
    Calls Tryz.prog 46 #[.pointer (some ⟨C, 0, none⟩), .int .i64 n] w (FTake w C vb b k n bad) := by
  refine (call_ctake C vb b k n bad w hr hn).mono ?_
  rintro e w' ⟨hg, ⟨h0, h4, rfl, hrow⟩ | ⟨h4, rfl, hrow⟩⟩
  · exact ⟨txt b k n, k + n, false, rfl, hg, hrow, h4, fun _ => ⟨h0, h4, rfl, rfl⟩, fun h => by cases h⟩
  · refine ⟨[], k, true, rfl, hg, hrow, hr.le, (fun h => by cases h), fun _ => ?_⟩
    cases bad
    · exact .inr (fun h => h4 ⟨rfl, h⟩)
    · exact .inl rfl

/-- the front of a member, behind seven readings -/
theorem front_flags {b : List UInt8} {k x0 x1 x2 x3 x4 k0 k1 k2 k3 k4 k5 k6 : Nat} {x5 x6 : List UInt8} {q0 q1 q2 q3 q4 q5 q6 : Bool}
    (F0 : (q0 = false → false = false ∧ k + 4 ≤ b.length ∧ x0 = numN b k ∧ k0 = k + 4) ∧ (q0 = true → false = true ∨ ¬ k + 4 ≤ b.length))
    (F1 : (q1 = false → q0 = false ∧ k0 + 4 ≤ b.length ∧ x1 = numN b k0 ∧ k1 = k0 + 4) ∧ (q1 = true → q0 = true ∨ ¬ k0 + 4 ≤ b.length))
    (F2 : (q2 = false → q1 = false ∧ k1 + 4 ≤ b.length ∧ x2 = numN b k1 ∧ k2 = k1 + 4) ∧ (q2 = true → q1 = true ∨ ¬ k1 + 4 ≤ b.length))
    (F3 : (q3 = false → q2 = false ∧ k2 + 4 ≤ b.length ∧ x3 = numN b k2 ∧ k3 = k2 + 4) ∧ (q3 = true → q2 = true ∨ ¬ k2 + 4 ≤ b.length))
    (F4 : (q4 = false → q3 = false ∧ k3 + 4 ≤ b.length ∧ x4 = numN b k3 ∧ k4 = k3 + 4) ∧ (q4 = true → q3 = true ∨ ¬ k3 + 4 ≤ b.length))
    (F5 : (q5 = false → q4 = false ∧ k4 + x1 ≤ b.length ∧ x5 = txt b k4 x1 ∧ k5 = k4 + x1) ∧ (q5 = true → q4 = true ∨ ¬ k4 + x1 ≤ b.length))
    (F6 : (q6 = false → q5 = false ∧ k5 + x2 ≤ b.length ∧ x6 = txt b k5 x2 ∧ k6 = k5 + x2) ∧ (q6 = true → q5 = true ∨ ¬ k5 + x2 ≤ b.length)) :
    (q6 = false → k6 = k + 20 + numN b (k + 4) + numN b (k + 8) ∧ k6 ≤ b.length ∧ x0 = numN b k ∧ x1 = numN b (k + 4) ∧ x2 = numN b (k + 8) ∧ x3 = numN b (k + 12) ∧ x4 = numN b (k + 16) ∧ x5 = txt b (k + 20) (numN b (k + 4)) ∧ x6 = txt b (k + 20 + numN b (k + 4)) (numN b (k + 8))) ∧
    (q6 = true → ¬ k + 20 + numN b (k + 4) + numN b (k + 8) ≤ b.length) := by
  have tf : ∀ q : Bool, (q = true → False) → q = false := fun q h => by cases q <;> simp_all
  constructor
  · intro h
    obtain ⟨h, a6, b6, c6⟩ := F6.1 h
    obtain ⟨h, a5, b5, c5⟩ := F5.1 h
    obtain ⟨h, a4, b4, c4⟩ := F4.1 h
    obtain ⟨h, a3, b3, c3⟩ := F3.1 h
    obtain ⟨h, a2, b2, c2⟩ := F2.1 h
    obtain ⟨h, a1, b1, c1⟩ := F1.1 h
    obtain ⟨_, a0, b0, c0⟩ := F0.1 h
    subst c0 c1 c2 c3 c4 c5 c6 b0 b1 b2 b3 b4 b5 b6
    exact ⟨rfl, a6, rfl, rfl, rfl, rfl, rfl, rfl, rfl⟩
  · intro h hfit
    have e0 : q0 = false := tf _ (fun hq => by rcases F0.2 hq with h | h; cases h; omega)
    obtain ⟨_, _, b0, c0⟩ := F0.1 e0
    subst c0
    have e1 : q1 = false := tf _ (fun hq => by rcases F1.2 hq with h | h; (rw [e0] at h; cases h); omega)
    obtain ⟨_, _, b1, c1⟩ := F1.1 e1
    subst c1 b1
    have e2 : q2 = false := tf _ (fun hq => by rcases F2.2 hq with h | h; (rw [e1] at h; cases h); omega)
    obtain ⟨_, _, b2, c2⟩ := F2.1 e2
    subst c2 b2
    have e3 : q3 = false := tf _ (fun hq => by rcases F3.2 hq with h | h; (rw [e2] at h; cases h); omega)
    obtain ⟨_, _, b3, c3⟩ := F3.1 e3
    subst c3
    have e4 : q4 = false := tf _ (fun hq => by rcases F4.2 hq with h | h; (rw [e3] at h; cases h); omega)
    obtain ⟨_, _, b4, c4⟩ := F4.1 e4
    subst c4
    have e5 : q5 = false := tf _ (fun hq => by rcases F5.2 hq with h | h; (rw [e4] at h; cases h); omega)
    obtain ⟨_, _, b5, c5⟩ := F5.1 e5
    subst c5
    have hx : numN b (k + 4 + 4) = numN b (k + 8) := rfl
    rcases F6.2 h with h | h
    · rw [e5] at h; cases h
    · omega
/-- what the loop over the pieces knows -/
def LoopF (b : List UInt8) (n K0 : Nat) (q0 : Bool) (j : Nat) (L : List Pc) (K : Nat) (q : Bool) : Prop :=
  (q = false → q0 = false ∧ rawPcs b n K0 = (rawPcs b (n - j) K).map (fun r => (L ++ r.1, r.2))) ∧ (q = true → q0 = true ∨ rawPcs b n K0 = none)
theorem loopF_start (b : List UInt8) (n K0 : Nat) (q0 : Bool) : LoopF b n K0 q0 0 [] K0 q0 :=
  ⟨fun h => ⟨h, by simp⟩, fun h => .inl h⟩
theorem loopF_step {b : List UInt8} {n K0 : Nat} {q0 : Bool} {j : Nat} {L : List Pc} {K x8 x9 K1 K2 K3 : Nat} {t : List UInt8} {q1 q2 q3 : Bool} (h : LoopF b n K0 q0 j L K false) (hj : j < n)
    (F1 : (q1 = false → false = false ∧ K + 4 ≤ b.length ∧ x8 = numN b K ∧ K1 = K + 4) ∧ (q1 = true → false = true ∨ ¬ K + 4 ≤ b.length))
    (F2 : (q2 = false → q1 = false ∧ K1 + 4 ≤ b.length ∧ x9 = numN b K1 ∧ K2 = K1 + 4) ∧ (q2 = true → q1 = true ∨ ¬ K1 + 4 ≤ b.length))
    (F3 : (q3 = false → q2 = false ∧ K2 + x9 ≤ b.length ∧ t = txt b K2 x9 ∧ K3 = K2 + x9) ∧ (q3 = true → q2 = true ∨ ¬ K2 + x9 ≤ b.length)) :
    LoopF b n K0 q0 (j + 1) (L ++ [⟨(x8 : Int), t⟩]) K3 q3 := by
  obtain ⟨h0, hr⟩ := h.1 rfl
  obtain ⟨n', hn'⟩ : ∃ n', n - j = n' + 1 := ⟨n - j - 1, by omega⟩
  rw [hn'] at hr
  have tf : ∀ q : Bool, (q = true → False) → q = false := fun q h => by cases q <;> simp_all
  refine ⟨fun e => ?_, fun e => .inr ?_⟩
  · obtain ⟨e, a3, b3, c3⟩ := F3.1 e
    obtain ⟨e, a2, b2, c2⟩ := F2.1 e
    obtain ⟨e, a1, b1, c1⟩ := F1.1 e
    subst c1 c2 c3 b1 b2 b3
    refine ⟨h0, ?_⟩
    rw [hr, rawPcs_step (by omega), Option.map_map, show n - (j + 1) = n' by omega, numN_cast]
    congr 1
    funext r
    simp
  · rw [hr]
    have : rawPcs b (n' + 1) K = none := rawPcs_stop (fun hfit => by
      have e1 : q1 = false := tf _ (fun hq => by rcases F1.2 hq with h | h; cases h; omega)
      obtain ⟨_, _, b1, c1⟩ := F1.1 e1
      subst c1
      have e2 : q2 = false := tf _ (fun hq => by rcases F2.2 hq with h | h; (rw [e1] at h; cases h); omega)
      obtain ⟨_, _, b2, c2⟩ := F2.1 e2
      subst c2 b2
      rcases F3.2 e with h | h
      · rw [e2] at h; cases h
      · omega)
    rw [this]; rfl
theorem cmem_end {b : List UInt8} {k x0 x1 x2 x3 x4 k6 : Nat} {x5 x6 : List UInt8} {q6 q qf : Bool} {j K kf xf : Nat} {L : List Pc}
    (FF : (q6 = false → k6 = k + 20 + numN b (k + 4) + numN b (k + 8) ∧ k6 ≤ b.length ∧ x0 = numN b k ∧ x1 = numN b (k + 4) ∧ x2 = numN b (k + 8) ∧ x3 = numN b (k + 12) ∧ x4 = numN b (k + 16) ∧ x5 = txt b (k + 20) (numN b (k + 4)) ∧ x6 = txt b (k + 20 + numN b (k + 4)) (numN b (k + 8))) ∧
      (q6 = true → ¬ k + 20 + numN b (k + 4) + numN b (k + 8) ≤ b.length))
    (h : LoopF b x4 k6 q6 j L K q) (hex : q = false → j = x4)
    (Fh : (qf = false → q = false ∧ K + 4 ≤ b.length ∧ xf = numN b K ∧ kf = K + 4) ∧ (qf = true → q = true ∨ ¬ K + 4 ≤ b.length)) :
    (qf = false → rawMem b k = some (⟨x0, x5, x6, x3, L⟩, K) ∧ kf = K + 4) ∧ (qf = true → rawMem b k = none) := by
  constructor
  · intro e
    obtain ⟨e, hK, _, hkf⟩ := Fh.1 e
    obtain ⟨e6, hr⟩ := h.1 e
    obtain ⟨f1, f2, f3, f4, f5, f6, f7, f8, f9⟩ := FF.1 e6
    obtain rfl := hex e
    rw [Nat.sub_self] at hr
    simp only [rawPcs, Option.map_some, List.append_nil] at hr
    subst f1
    rw [f7] at hr
    refine ⟨?_, hkf⟩
    rw [rawMem, if_pos f2, hr, Option.bind_some, if_pos hK, f3, f6, numN_cast, numN_cast, ← f8, ← f9]
  · intro e
    cases e6 : q6 with
    | true => rw [rawMem, if_neg (FF.2 e6)]
    | false =>
      obtain ⟨f1, f2, f3, f4, f5, f6, f7, f8, f9⟩ := FF.1 e6
      subst f1
      rw [rawMem, if_pos f2, ← f7]
      cases hq : q with
      | true =>
        rcases h.2 hq with h | h
        · rw [e6] at h; cases h
        · rw [h]; rfl
      | false =>
        obtain ⟨_, hr⟩ := h.1 hq
        obtain rfl := hex hq
        rw [Nat.sub_self] at hr
        simp only [rawPcs, Option.map_some, List.append_nil] at hr
        rw [hr, Option.bind_some, if_neg]
        rcases Fh.2 e with h | h
        · rw [hq] at h; cases h
        · exact h
theorem grown_drew {w w1 : World} {C : Nat} (h : w.grownBy w1 (some C)) : w.grownBy w1.drew (some C) := ⟨h.os, h.tape, h.output, h.size, h.block⟩
/-- what reading a member answers -/
def CMem (w : World) (C : Nat) (vb : Value) (b : List UInt8) (k : Nat) (e : Ending) (w' : World) : Prop :=
  w.grownBy w' (some C) ∧ ((∃ m K vp, rawMem b k = some (m, K) ∧ e = .returned (.agg (mbCells m vp).toArray) ∧ OwnP w.heap.size w' vp m.pieces ∧ Row w' C 66 [vb, .int .i64 ((K + 4 : Nat) : Int), .bool false]) ∨
    (rawMem b k = none ∧ ∃ m vp k', e = .returned (.agg (mbCells m vp).toArray) ∧ IsSl vp ∧ k' ≤ b.length ∧ Row w' C 66 [vb, .int .i64 ((k' : Nat) : Int), .bool true]))

theorem cmem_done {w v1 : World} {C : Nat} {vb : Value} {b : List UInt8} {k x0 x3 K kf np cp : Nat} {ap : Option Addr} {x5 x6 : List UInt8} {L : List Pc} {qf : Bool} {Z : List Value}
    (he : (qf = false → rawMem b k = some (⟨x0, x5, x6, x3, L⟩, K) ∧ kf = K + 4) ∧ (qf = true → rawMem b k = none)) (hB : Row v1 w.heap.size 58 Z) (hO : OwnP w.heap.size v1 (.slice ap np cp) L) (hG : w.grownBy v1 (some C)) (hW : Row v1 C 66 [vb, .int .i64 kf, .bool qf]) (hk : kf ≤ b.length) (hC : C ≠ w.heap.size) :
    CMem w C vb b k (.returned (.agg [Value.int .i64 x0, .string (bs x5), .string (bs x6), .int .i64 x3, .slice ap np cp].toArray)) (v1.setRow w.heap.size [Value.int .i64 x0, .string (bs x5), .string (bs x6), .int .i64 x3, .slice ap np cp].toArray) := by
  have hkeep : ∀ u, u ≠ w.heap.size → (v1.setRow w.heap.size [Value.int .i64 x0, .string (bs x5), .string (bs x6), .int .i64 x3, .slice ap np cp].toArray).heap[u]? = v1.heap[u]? := fun u hu => setRow_other v1 w.heap.size u _ hu
  have hO2 : OwnP w.heap.size (v1.setRow w.heap.size [Value.int .i64 x0, .string (bs x5), .string (bs x6), .int .i64 x3, .slice ap np cp].toArray) (.slice ap np cp) L := own_keep hO (fun u e => hkeep u (by intro e2; subst e2; exact own_row_ne hO hB (by decide) e.symm))
  have hW2 := (hkeep C hC).trans hW
  refine ⟨grown_setRow hG (Nat.le_refl _) _, ?_⟩
  cases qf with
  | false =>
    obtain ⟨h1, rfl⟩ := he.1 rfl
    exact .inl ⟨_, K, .slice ap np cp, h1, rfl, hO2, hW2⟩
  | true => exact .inr ⟨he.2 rfl, ⟨x0, x5, x6, x3, L⟩, .slice ap np cp, kf, rfl, ⟨_, _, _, rfl⟩, hk, hW2⟩

set_option maxHeartbeats 8000000 in
theorem call_cmember (C : Nat) (vb : Value) (b : List UInt8) (k : Nat) (w : World) (hr : Cu w C vb b k false) :
    Calls Tryz.prog 26 #[.pointer (some ⟨C, 0, none⟩)] w (CMem w C vb b k) := by
  have HR0 := Lib.hid hr
  have HRl := Lib.hid hr.row.lt
  have hlen := hr.len
  have hkl := hr.le
  clear hr
  have HZ := Lib.hid ((Row.new w 58 [.int .i64 0, .string ⟨#[]⟩, .string ⟨#[]⟩, .int .i64 0, .slice none 0 0]).alloc (.cells #[.int .i64 0, .string ⟨#[]⟩, .string ⟨#[]⟩, .int .i64 0, .slice none 0 0] 58))
  have HM := Lib.hid (row_new1 w (.cells #[.int .i64 0, .string ⟨#[]⟩, .string ⟨#[]⟩, .int .i64 0, .slice none 0 0] 58) 58 [.int .i64 0, .string ⟨#[]⟩, .string ⟨#[]⟩, .int .i64 0, .slice none 0 0])
  have HG : Hid (w.grownBy ((w.alloc (.cells #[.int .i64 0, .string ⟨#[]⟩, .string ⟨#[]⟩, .int .i64 0, .slice none 0 0] 58)).alloc (.cells #[.int .i64 0, .string ⟨#[]⟩, .string ⟨#[]⟩, .int .i64 0, .slice none 0 0] 58)) (some C)) := Lib.hid (grown_of_below (below_alloc2 w _ _) _)
  have HW := Lib.hid ((HR0.out.row.alloc (.cells #[.int .i64 0, .string ⟨#[]⟩, .string ⟨#[]⟩, .int .i64 0, .slice none 0 0] 58)).alloc (.cells #[.int .i64 0, .string ⟨#[]⟩, .string ⟨#[]⟩, .int .i64 0, .slice none 0 0] 58))
  have hML : w.heap.size + 1 ≤ ((w.alloc (.cells #[.int .i64 0, .string ⟨#[]⟩, .string ⟨#[]⟩, .int .i64 0, .slice none 0 0] 58)).alloc (.cells #[.int .i64 0, .string ⟨#[]⟩, .string ⟨#[]⟩, .int .i64 0, .slice none 0 0] 58)).heap.size := by rw [alloc_size, alloc_size]; omega
  go_enter Tryz.func26, Tryz.ntmps26
  go_wp2_with fail
  obtain ⟨M, hMd⟩ : ∃ n, w.heap.size + 1 = n := ⟨_, rfl⟩
  rw [hMd] at HM ⊢
  have hMC : M ≠ C := by have := HRl.out; omega
  have hMZ : M ≠ w.heap.size := by omega
  have hMw : w.heap.size ≤ M := by omega
  refine (call_fhalf C vb b (k) false _ (Cu.move HR0.out HG.out HW.out (by omega))).mono ?_
  rintro e u0 ⟨x0, k0, q0, rfl, hx0, hg, hw, hk0, hf, ht⟩
  have F0 := Lib.hid (And.intro hf ht)
  replace HM := Lib.hid (HM.out.grown hg (by simpa using hMC))
  replace HZ := Lib.hid (HZ.out.grown hg (by have := HRl.out; simp; omega))
  replace HG := Lib.hid (grown_trans HG.out hg)
  replace HW := Lib.hid hw
  clear hg hw hf ht
  have fz := HM.out.free 0
  have fc := (show _ = some (Value.int .i64 0) from HM.out.cell 0)
  replace HG := Lib.hid (grown_new HG.out hMw 0 (Value.int .i64 x0))
  replace HZ := Lib.hid (HZ.out.other (a := ⟨M, 0, none⟩) (by simpa using Ne.symm hMZ) (Value.int .i64 x0))
  replace HW := Lib.hid (HW.out.other (a := ⟨M, 0, none⟩) (by simpa using Ne.symm hMC) (Value.int .i64 x0))
  replace HM := Lib.hid (show Row _ M 58 [Value.int .i64 x0, Value.string ⟨#[]⟩, Value.string ⟨#[]⟩, Value.int .i64 0, Value.slice none 0 0] from HM.out.set 0 (Value.int .i64 x0))
  go_wp2_with fail
  clear fz fc
  refine (call_fhalf C vb b (k0) q0 _ (Cu.move HR0.out HG.out HW.out (by omega))).mono ?_
  rintro e u1 ⟨x1, k1, q1, rfl, hx1, hg, hw, hk1, hf, ht⟩
  have F1 := Lib.hid (And.intro hf ht)
  replace HM := Lib.hid (HM.out.grown hg (by simpa using hMC))
  replace HZ := Lib.hid (HZ.out.grown hg (by have := HRl.out; simp; omega))
  replace HG := Lib.hid (grown_trans HG.out hg)
  replace HW := Lib.hid hw
  clear hg hw hf ht
  go_wp2_with fail
  refine (call_fhalf C vb b (k1) q1 _ (Cu.move HR0.out HG.out HW.out (by omega))).mono ?_
  rintro e u2 ⟨x2, k2, q2, rfl, hx2, hg, hw, hk2, hf, ht⟩
  have F2 := Lib.hid (And.intro hf ht)
  replace HM := Lib.hid (HM.out.grown hg (by simpa using hMC))
  replace HZ := Lib.hid (HZ.out.grown hg (by have := HRl.out; simp; omega))
  replace HG := Lib.hid (grown_trans HG.out hg)
  replace HW := Lib.hid hw
  clear hg hw hf ht
  go_wp2_with fail
  refine (call_fhalf C vb b (k2) q2 _ (Cu.move HR0.out HG.out HW.out (by omega))).mono ?_
  rintro e u3 ⟨x3, k3, q3, rfl, hx3, hg, hw, hk3, hf, ht⟩
  have F3 := Lib.hid (And.intro hf ht)
  replace HM := Lib.hid (HM.out.grown hg (by simpa using hMC))
  replace HZ := Lib.hid (HZ.out.grown hg (by have := HRl.out; simp; omega))
  replace HG := Lib.hid (grown_trans HG.out hg)
  replace HW := Lib.hid hw
  clear hg hw hf ht
  have fz := HM.out.free 3
  have fc := (show _ = some (Value.int .i64 0) from HM.out.cell 3)
  replace HG := Lib.hid (grown_new HG.out hMw 3 (Value.int .i64 x3))
  replace HZ := Lib.hid (HZ.out.other (a := ⟨M, 3, none⟩) (by simpa using Ne.symm hMZ) (Value.int .i64 x3))
  replace HW := Lib.hid (HW.out.other (a := ⟨M, 3, none⟩) (by simpa using Ne.symm hMC) (Value.int .i64 x3))
  replace HM := Lib.hid (show Row _ M 58 [Value.int .i64 x0, Value.string ⟨#[]⟩, Value.string ⟨#[]⟩, Value.int .i64 x3, Value.slice none 0 0] from HM.out.set 3 (Value.int .i64 x3))
  go_wp2_with fail
  clear fz fc
  refine (call_fhalf C vb b (k3) q3 _ (Cu.move HR0.out HG.out HW.out (by omega))).mono ?_
  rintro e u4 ⟨x4, k4, q4, rfl, hx4, hg, hw, hk4, hf, ht⟩
  have F4 := Lib.hid (And.intro hf ht)
  replace HM := Lib.hid (HM.out.grown hg (by simpa using hMC))
  replace HZ := Lib.hid (HZ.out.grown hg (by have := HRl.out; simp; omega))
  replace HG := Lib.hid (grown_trans HG.out hg)
  replace HW := Lib.hid hw
  clear hg hw hf ht
  go_wp2_with fail
  refine (call_ftake C vb b (k4) x1 q4 _ (Cu.move HR0.out HG.out HW.out (by omega)) (by omega)).mono ?_
  rintro e u5 ⟨x5, k5, q5, rfl, hg, hw, hk5, hf, ht⟩
  have F5 := Lib.hid (And.intro hf ht)
  replace HM := Lib.hid (HM.out.grown hg (by simpa using hMC))
  replace HZ := Lib.hid (HZ.out.grown hg (by have := HRl.out; simp; omega))
  replace HG := Lib.hid (grown_trans HG.out hg)
  replace HW := Lib.hid hw
  clear hg hw hf ht
  have fz := HM.out.free 1
  have fc := (show _ = some (Value.string ⟨#[]⟩) from HM.out.cell 1)
  replace HG := Lib.hid (grown_new HG.out hMw 1 (Value.string (bs x5)))
  replace HZ := Lib.hid (HZ.out.other (a := ⟨M, 1, none⟩) (by simpa using Ne.symm hMZ) (Value.string (bs x5)))
  replace HW := Lib.hid (HW.out.other (a := ⟨M, 1, none⟩) (by simpa using Ne.symm hMC) (Value.string (bs x5)))
  replace HM := Lib.hid (show Row _ M 58 [Value.int .i64 x0, Value.string (bs x5), Value.string ⟨#[]⟩, Value.int .i64 x3, Value.slice none 0 0] from HM.out.set 1 (Value.string (bs x5)))
  go_wp2_with fail
  clear fz fc
  refine (call_ftake C vb b (k5) x2 q5 _ (Cu.move HR0.out HG.out HW.out (by omega)) (by omega)).mono ?_
  rintro e u6 ⟨x6, k6, q6, rfl, hg, hw, hk6, hf, ht⟩
  have F6 := Lib.hid (And.intro hf ht)
  replace HM := Lib.hid (HM.out.grown hg (by simpa using hMC))
  replace HZ := Lib.hid (HZ.out.grown hg (by have := HRl.out; simp; omega))
  replace HG := Lib.hid (grown_trans HG.out hg)
  replace HW := Lib.hid hw
  clear hg hw hf ht
  have fz := HM.out.free 2
  have fc := (show _ = some (Value.string ⟨#[]⟩) from HM.out.cell 2)
  replace HG := Lib.hid (grown_new HG.out hMw 2 (Value.string (bs x6)))
  replace HZ := Lib.hid (HZ.out.other (a := ⟨M, 2, none⟩) (by simpa using Ne.symm hMZ) (Value.string (bs x6)))
  replace HW := Lib.hid (HW.out.other (a := ⟨M, 2, none⟩) (by simpa using Ne.symm hMC) (Value.string (bs x6)))
  replace HM := Lib.hid (show Row _ M 58 [Value.int .i64 x0, Value.string (bs x5), Value.string (bs x6), Value.int .i64 x3, Value.slice none 0 0] from HM.out.set 2 (Value.string (bs x6)))
  go_wp2_with fail
  clear fz fc
  have HFF := Lib.hid (front_flags ⟨fun h => ⟨rfl, (F0.out.1 h).2⟩, F0.out.2⟩ F1.out F2.out F3.out F4.out F5.out F6.out)
  have hx4' : x4 < 4294967296 := hx4
  clear F0 F1 F2 F3 F4 F5 F6
  obtain ⟨i1, hi1, hz1, hs1, hb1⟩ := info_parts info82
  go_loopw [7] (fun i wr => ∃ (j : Nat) (L : List Pc) (K : Nat) (q : Bool) (vp : Value), i = .int .i64 j ∧ j ≤ x4 ∧ Row wr M 58 [Value.int .i64 x0, Value.string (bs x5), Value.string (bs x6), Value.int .i64 x3, vp] ∧ OwnP w.heap.size wr vp L ∧ L.length = j ∧ Row wr C 66 [vb, .int .i64 K, .bool q] ∧ K ≤ b.length ∧ w.grownBy wr (some C) ∧
      Row wr w.heap.size 58 [.int .i64 0, .string ⟨#[]⟩, .string ⟨#[]⟩, .int .i64 0, .slice none 0 0] ∧ LoopF b x4 k6 q6 j L K q)
    (fun i _ => x4 - (RowKit.intOf i).toNat)
  case atStart => exact ⟨0, [], k6, q6, .slice none 0 0, rfl, Nat.zero_le _, HM.out, World.ownsRow_nil _ _ _ _, rfl, HW.out, hk6, HG.out, HZ.out, loopF_start _ _ _ _⟩
  case round =>
    obtain ⟨j, L, K, q, vp, rfl, hj, hm, ho, hL, hw, hK, hg, hbr, hlf⟩ := hrel
    clear HM HG HW HZ
    obtain ⟨ap, np, cp, rfl⟩ := own_isSl ho
    have hnp : np = j := by rw [own_len ho, hL]
    subst hnp
    have HM := Lib.hid hm
    have HO := Lib.hid ho
    have HL := Lib.hid hL
    have HW := Lib.hid hw
    have HG := Lib.hid hg
    have HB := Lib.hid hbr
    have HLf := Lib.hid hlf
    have HWl : Hid (w.heap.size + 1 ≤ wr.heap.size) := Lib.hid hbr.lt
    have e2 := (show _ = some (Value.bool q) from hw.cell 2)
    clear hm ho hL hw hg hbr hlf
    by_cases hgo : np < x4 ∧ q = false
    · obtain ⟨hlt, rfl⟩ := hgo
      go_wp2_with fail
      refine (call_fhalf C vb b K false _ (Cu.move HR0.out HG.out HW.out (by omega))).mono ?_
      rintro e v1 ⟨x8, K1, q1', rfl, hx8, hg, hw, hK1, hf, ht⟩
      have G1 := Lib.hid (And.intro hf ht)
      replace HM := Lib.hid (HM.out.grown hg (by simpa using hMC))
      replace HB := Lib.hid (HB.out.grown hg (by have := HRl.out; simp; omega))
      replace HO : Hid (OwnP w.heap.size v1 (.slice ap np cp) L) := Lib.hid (own_keep HO.out (fun u e => hg.block u (HO.out.lt u e).2 (by intro e2; cases e2; exact own_row_ne HO.out HW.out (by decide) e.symm)))
      replace HG := Lib.hid (grown_trans HG.out hg)
      replace HWl := Lib.hid (Nat.le_trans HWl.out hg.size)
      replace HW := Lib.hid hw
      clear hg hw hf ht e2
      go_wp2_with fail
      refine (call_fhalf C vb b K1 q1' _ (Cu.move HR0.out HG.out HW.out (by omega))).mono ?_
      rintro e v2 ⟨x9, K2, q2', rfl, hx9, hg, hw, hK2, hf, ht⟩
      have G2 := Lib.hid (And.intro hf ht)
      replace HM := Lib.hid (HM.out.grown hg (by simpa using hMC))
      replace HB := Lib.hid (HB.out.grown hg (by have := HRl.out; simp; omega))
      replace HO : Hid (OwnP w.heap.size v2 (.slice ap np cp) L) := Lib.hid (own_keep HO.out (fun u e => hg.block u (HO.out.lt u e).2 (by intro e2; cases e2; exact own_row_ne HO.out HW.out (by decide) e.symm)))
      replace HG := Lib.hid (grown_drew (grown_trans HG.out hg))
      replace HWl := Lib.hid (Nat.le_trans HWl.out hg.size)
      replace HW := Lib.hid hw
      clear hg hw hf ht
      have m4 := (show _ = some (Value.slice ap np cp) from HM.out.cell 4)
      have hx9' : x9 < 4294967296 := hx9
      go_wp2_with fail
      go_region_law ((first
          | (refine step_call2 (by rfl) _ _ 64 3 46 (by rfl) _ _ (by rfl) (by rfl) (enters_of Tryz.func46 (by kernel_rfl) rfl) ((call_ftake C vb b K2 x9 q2' _ (Cu.move HR0.out HG.out HW.out (by omega)) (by omega)).mono ?_); rintro e v3 ⟨t9, K3, q3', rfl, hg, hw, hK3, hf, ht⟩; refine ⟨_, rfl, ?_⟩; have G3 := Lib.hid (And.intro hf ht); have HM3 := Lib.hid (HM.out.grown (w := v2.drew) hg (by simpa using hMC)); have HB3 := Lib.hid (HB.out.grown (w := v2.drew) hg (by have := HRl.out; simp; omega)); have HO3 : Hid (OwnP w.heap.size v3 (.slice ap np cp) L) := Lib.hid (own_keep (w := v2.drew) HO.out (fun u e => hg.block u (HO.out.lt u e).2 (by intro e2; cases e2; exact own_row_ne HO.out HW.out (by decide) e.symm))); have HG3 := Lib.hid (grown_trans HG.out hg); have HWl3 := Lib.hid (Nat.le_trans HWl.out hg.size); have HW3 := Lib.hid hw; clear hg hw hf ht; have m5 := (show _ = some (Value.slice ap np cp) from HM3.out.cell 4); have m6 := keeps_alloc v3 (.cells #[.int .i64 x8, .string (bs t9)] 62) _ _ _ m5; have HA : Hid ((v3.alloc (.cells #[.int .i64 x8, .string (bs t9)] 62)).ownsRow w.heap.size 62 2 (.slice ap np cp) np (pcCells L)) := Lib.hid (by have h := own_below HO3.out (below_alloc1 v3 (.cells #[.int .i64 x8, .string (bs t9)] 62)); rw [HL.out] at h; exact h); have HRm := Lib.hid (Row.new v3 62 [.int .i64 x8, .string (bs t9)]); have HSrc : Hid (∀ j u, (pcCells [⟨(x8 : Int), t9⟩])[j]? = some u → (v3.alloc (.cells #[.int .i64 x8, .string (bs t9)] 62)).cell? ((⟨v3.heap.size, 0, none⟩ : Addr).add j) = some u) := Lib.hid HRm.out.cells; have HBs : Hid (w.heap.size ≤ (v3.alloc (.cells #[.int .i64 x8, .string (bs t9)] 62)).heap.size) := Lib.hid (by rw [alloc_size]; have := HWl3.out; omega); have HM6 := Lib.hid (HM3.out.alloc (.cells #[.int .i64 x8, .string (bs t9)] 62)); have HB6 := Lib.hid (HB3.out.alloc (.cells #[.int .i64 x8, .string (bs t9)] 62)); have HW6 := Lib.hid (HW3.out.alloc (.cells #[.int .i64 x8, .string (bs t9)] 62)); have HG6 := Lib.hid (grown_alloc HG3.out (.cells #[.int .i64 x8, .string (bs t9)] 62)))
          | (refine step_append_lies _ (by rfl) _ _ 56 (by rfl) w.heap.size 62 i1 _ 2 24 Tryz.underlying56 hi1 hz1 hs1 hb1 rfl (by decide) (.slice ap np cp) np (pcCells L) (by rfl) HA.out ⟨v3.heap.size, 0, none⟩ 1 1 (pcCells [⟨(x8 : Int), t9⟩]) (by rfl) rfl HSrc.out (pcCells_one _) (by decide) (by unfold maxLen; omega) (by omega) HBs.out _ rfl ?_; intro g4 c4 v4 h1' h2' h3' h4'; have HV4 := Lib.hid h1'; have HR4 := Lib.hid h2'; have HM7 := Lib.hid (HM6.out.grown h2' (own_row_ne HA.out HM6.out (by decide))); have mz := HM7.out.free 4; have m7 := (show _ = some (Value.slice ap np cp) from HM7.out.cell 4); clear h1' h2' h3' h4')))
      all_goals
        have HFin := Lib.hid (loopF_step HLf.out hlt ⟨fun h => ⟨rfl, (G1.out.1 h).2⟩, G1.out.2⟩ G2.out G3.out)
        have HMf : Hid (Row (v4.setCell ⟨M, 4, none⟩ (.slice (some ⟨g4, 0, none⟩) (np + 1) c4)) M 58 [Value.int .i64 x0, Value.string (bs x5), Value.string (bs x6), Value.int .i64 x3, .slice (some ⟨g4, 0, none⟩) (np + 1) c4]) := Lib.hid (HM7.out.set 4 _)
        have HB7 := Lib.hid (HB6.out.grown HR4.out (own_row_ne HA.out HB6.out (by decide)))
        have HW7 := Lib.hid (HW6.out.grown HR4.out (own_row_ne HA.out HW6.out (by decide)))
        have HG7 := Lib.hid (grown_own HG6.out HR4.out (fun u e => (HA.out.lt u e).1))
        have HBf := Lib.hid (HB7.out.other (a := ⟨M, 4, none⟩) (by simpa using Ne.symm hMZ) (.slice (some ⟨g4, 0, none⟩) (np + 1) c4))
        have HWf := Lib.hid (HW7.out.other (a := ⟨M, 4, none⟩) (by simpa using Ne.symm hMC) (.slice (some ⟨g4, 0, none⟩) (np + 1) c4))
        have HGf := Lib.hid (grown_new HG7.out hMw 4 (.slice (some ⟨g4, 0, none⟩) (np + 1) c4))
        have HOf : Hid (OwnP w.heap.size (v4.setCell ⟨M, 4, none⟩ (.slice (some ⟨g4, 0, none⟩) (np + 1) c4)) (.slice (some ⟨g4, 0, none⟩) (np + 1) c4) (L ++ [⟨(x8 : Int), t9⟩])) := Lib.hid (by
          have h : OwnP w.heap.size v4 (.slice (some ⟨g4, 0, none⟩) (np + 1) c4) (L ++ [⟨(x8 : Int), t9⟩]) := by
            have h := HV4.out
            rw [← pcCells_app] at h
            show World.ownsRow _ _ _ _ _ (L ++ [_]).length _
            rw [List.length_append, HL.out]
            exact h
          exact own_keep h (fun u e => Below.heap_setCell v4 _ _ u (by intro e2; subst e2; exact own_row_ne h HM7.out (by decide) e.symm)))
        clear HA HSrc HM6 HB6 HW6 HG6 HBs HV4 HR4 HM7 HB7 HW7 HG7 mz m7 m4 m5 m6 HM HB HG HW HO HWl HRm HM3 HB3 HO3 HG3 HWl3 HW3 G1 G2 G3 HLf
        go_wp2_with fail
        go_roundw
        case rel => exact ⟨np + 1, L ++ [⟨(x8 : Int), t9⟩], K3, q3', _, by go_num, by omega, HMf.out, HOf.out, by rw [List.length_append, HL.out]; rfl, HWf.out, hK3, HGf.out, HBf.out, HFin.out⟩
        case measure => simp [RowKit.intOf]; omega
    · have hex : q = false → np = x4 := fun e => by
        rcases Nat.lt_or_ge np x4 with h | h
        · exact absurd ⟨h, e⟩ hgo
        · omega
      have HEx := Lib.hid hex
      have hcase : (np < x4 ∧ q = true) ∨ ¬ np < x4 := by
        cases hq : q
        · right; have := hex hq; omega
        · by_cases h : np < x4
          · exact .inl ⟨h, rfl⟩
          · exact .inr h
      clear hex hgo
      have hend : ∀ (A : Act), A = A := fun _ => rfl
      clear hend
      rcases hcase with ⟨hlt, hq⟩ | hlt
      · have e3 : wr.cell? ⟨C, 2, none⟩ = some (Value.bool true) := by rw [e2, hq]
        clear e2 hq
        go_wp2_with fail
        refine (call_fhalf C vb b K q _ (Cu.move HR0.out HG.out HW.out (by omega))).mono ?_
        rintro e v1 ⟨xf, kf, qf, rfl, hxf, hg, hw, hkf, hf, ht⟩
        clear e3
        have HE := Lib.hid (cmem_end HFF.out HLf.out HEx.out (And.intro hf ht))
        have HM1 := Lib.hid (HM.out.grown hg (by simpa using hMC))
        have HB1 := Lib.hid (HB.out.grown hg (by have := HRl.out; simp; omega))
        have HO1 : Hid (OwnP w.heap.size v1 (.slice ap np cp) L) := Lib.hid (own_keep HO.out (fun u e => hg.block u (HO.out.lt u e).2 (by intro e2; cases e2; exact own_row_ne HO.out HW.out (by decide) e.symm)))
        have HG1 := Lib.hid (grown_trans HG.out hg)
        have HW1 := Lib.hid hw
        clear hg hw hf ht HM HB HO HG HW HWl HLf HEx HFF
        go_wp2_with (first
          | refine wpl_load HM1.out rfl 58 _ rfl rfl _ 5 rfl Tryz.underlying58 rfl (by kernel_rfl) ?_
          | refine wpl_store HB1.out rfl 58 _ _ rfl [.int .i64 x0, .string (bs x5), .string (bs x6), .int .i64 x3, .slice ap np cp] rfl rfl 5 rfl rfl (by intro u hu; simp only [List.mem_cons, List.not_mem_nil, or_false] at hu; rcases hu with rfl | rfl | rfl | rfl | rfl <;> rfl) (by kernel_rfl) ?_)
        exact bodyPost_agg (HB1.out.setRow [.int .i64 x0, .string (bs x5), .string (bs x6), .int .i64 x3, .slice ap np cp]) 2 58 rfl _ rfl rfl Tryz.underlying58 rfl (by kernel_rfl) rfl (cmem_done HE.out HB1.out HO1.out HG1.out HW1.out hkf (by have := HRl.out; omega))
      · clear e2
        go_wp2_with fail
        refine (call_fhalf C vb b K q _ (Cu.move HR0.out HG.out HW.out (by omega))).mono ?_
        rintro e v1 ⟨xf, kf, qf, rfl, hxf, hg, hw, hkf, hf, ht⟩
        have HE := Lib.hid (cmem_end HFF.out HLf.out HEx.out (And.intro hf ht))
        have HM1 := Lib.hid (HM.out.grown hg (by simpa using hMC))
        have HB1 := Lib.hid (HB.out.grown hg (by have := HRl.out; simp; omega))
        have HO1 : Hid (OwnP w.heap.size v1 (.slice ap np cp) L) := Lib.hid (own_keep HO.out (fun u e => hg.block u (HO.out.lt u e).2 (by intro e2; cases e2; exact own_row_ne HO.out HW.out (by decide) e.symm)))
        have HG1 := Lib.hid (grown_trans HG.out hg)
        have HW1 := Lib.hid hw
        clear hg hw hf ht HM HB HO HG HW HWl HLf HEx HFF
        go_wp2_with (first
          | refine wpl_load HM1.out rfl 58 _ rfl rfl _ 5 rfl Tryz.underlying58 rfl (by kernel_rfl) ?_
          | refine wpl_store HB1.out rfl 58 _ _ rfl [.int .i64 x0, .string (bs x5), .string (bs x6), .int .i64 x3, .slice ap np cp] rfl rfl 5 rfl rfl (by intro u hu; simp only [List.mem_cons, List.not_mem_nil, or_false] at hu; rcases hu with rfl | rfl | rfl | rfl | rfl <;> rfl) (by kernel_rfl) ?_)
        exact bodyPost_agg (HB1.out.setRow [.int .i64 x0, .string (bs x5), .string (bs x6), .int .i64 x3, .slice ap np cp]) 2 58 rfl _ rfl rfl Tryz.underlying58 rfl (by kernel_rfl) rfl (cmem_done HE.out HB1.out HO1.out HG1.out HW1.out hkf (by have := HRl.out; omega))
end Go.Proofs.YtlecpjfggoehdaaGreatDoor.Ar
