
/- Archive: the law ArchiveOpens, walked. -/
import Derived.Test.YtlecpjfggoehdaaGreatDoorOpR
import Derived.Test.YtlecpjfggoehdaaGreatDoorArTz
set_option linter.unusedVariables false
set_option linter.unusedSimpArgs false
set_option maxRecDepth 100000
namespace Go.Proofs.YtlecpjfggoehdaaGreatDoor.Ar
open Go.RowKit Go.Sort Go.Lib Go.Proofs.YtlecpjfggoehdaaGreatDoor.Rs

section
variable {ops : Array Oper} {rest : List Oper} {o : Oper} {a : Act} {Q : Exit → Act → World → Prop} {W : World}
/-- append([]byte{}, b...), the empty list laid -/
theorem wpl_copyb (hgd : o.guard = none) (s x : Operand) (ho : o.op = .call { callee := .builtin .append, args := #[s, x], argTypes := #[22, 22] }) (hs : a.eval s = .slice (some ⟨W.heap.size, 0, none⟩) 0 0) (vb : Value) (hx : a.eval x = vb) (b : List UInt8) (hb : Sl RByte 1 W vb b) (hnil : NilOk vb) (hl : b.length ≤ 10000000000000)
    (h : ∀ v' w', Own W.heap.size w' v' b → Below W.heap.size W w' → wpList Tryz.prog ops Q rest (a.put o.dst v') w') : wpList Tryz.prog ops Q (o :: rest) a (W.alloc (.cells #[] 5)) := by
  obtain ⟨i0, hi, hz0, hz1, hz2⟩ := info_parts info5
  have ho5 := World.ownsRow_made W #[] 0 (e := 5) (size := 1) (base := W.heap.size) (Nat.le_refl _) (by simp [maxLen]) rfl
  have hb2 := hb.keep RByte.stays (keeps_alloc W (.cells #[] 5))
  obtain ⟨av, bv, ov, cv, e, hav, hcv⟩ := hb2
  refine wpl_many 22 5 i0 _ 1 1 Tryz.underlying22 hi hz0 hz1 hz2 rfl (by decide) (n := 0) (xs := []) (base := W.heap.size) ho5 hgd s x ho hs vb hx (b.map byteV) b.length (by rw [List.length_map, Nat.mul_one]) hnil ⟨av, cv, e, fun h0 => ⟨bv, ov, hav h0, fun j u hj => ?_⟩⟩ (one_bytes _) (by rw [alloc_size]; omega) (by omega) (by decide) (fun v' w' h1 h2 h3 => h v' w' ?_ ?_)
  · rw [List.getElem?_map, Option.map_eq_some_iff] at hj
    obtain ⟨z, hz, rfl⟩ := hj
    have := hcv j z hz
    rw [Nat.mul_one] at this
    exact this
  · show World.ownsRow _ _ _ _ _ _ _
    rw [Nat.zero_add, List.nil_append] at h1
    exact h1
  · exact (below_alloc1 W (.cells #[] 5)).grown h2 (by rw [alloc_size]; omega) (fun r e => by cases e; exact Nat.le_refl _)
end
theorem OpenPost.some_iff {w w' : World} {b : List UInt8} {ms : List Mb} {e : Ending} (h : pOpen b = some ms) : OpenPost w b e w' ↔ Below w.heap.size w w' ∧ ∃ v L, e = .returned (.tuple #[v, .int .i64 0]) ∧ MemS w.heap.size w' v ms L := by unfold OpenPost; rw [h]
theorem OpenPost.none_iff {w w' : World} {b : List UInt8} {e : Ending} (h : pOpen b = none) : OpenPost w b e w' ↔ Below w.heap.size w w' ∧ e = .returned (.tuple #[.slice none 0 0, .int .i64 210]) := by unfold OpenPost; rw [h]
theorem opened_mb {b : List UInt8} {ms : List Mb} (h : pOpen b = some ms) (hb : b.length ≤ 1048576) : ∀ m ∈ ms, MbR m := parseR_mb hb (open_parts h).2
theorem open_sm {b : List UInt8} (hb : b.length ≤ 1048576) : ∀ i pre k m k', i < numN b 8 → parse b i = some (pre, k) → pMem b k = some (m, k') → MbSm m := fun i pre k m k' _ _ h => by
  obtain ⟨K, hK, _⟩ := pMem_raw h
  exact raw_small hK hb
theorem open_short {b : List UInt8} {ms : List Mb} (h : pOpen b = some ms) (hb : b.length ≤ 1048576) : LsSm' ms := by
  have h2 := parseR_count (open_parts h).2
  exact ⟨by omega, fun m hm => (opened_mb h hb m hm).sm.pieces⟩
def tail8 : List UInt8 := [1, 2, 3, 4, 5, 6, 7, 8]
/-- bytes as an argument -/
structure ArgB (w : World) (v : Value) (b : List UInt8) : Prop where
  sl : Sl RByte 1 w v b
  nil : NilOk v
  cap : ∀ a n c, v = .slice a n c → n ≤ c
theorem ArgB.keep {w w' : World} {v : Value} {b : List UInt8} (h : ArgB w v b) (hk : Keeps w w') : ArgB w' v b := ⟨h.sl.keep RByte.stays hk, h.nil, h.cap⟩

theorem own_cap {w : World} {base e size n : Nat} {v : Value} {xs : List Value} (h : w.ownsRow base e size v n xs) : ∀ a k c, v = .slice a k c → k ≤ c := fun a k c e => by
  subst e
  rcases h.2 with ⟨h, hn⟩ | ⟨g, cap, cur, h, _, _, hc, _⟩
  · cases h; exact Nat.le_refl _
  · cases h; exact hc
theorem tail8_get (k : Nat) (h : k < 8) : ∃ x : UInt8, tail8[k]? = some x ∧ (x.toNat : Int) = (k : Int) + 1 := by
  match k, h with
  | 0, _ | 1, _ | 2, _ | 3, _ | 4, _ | 5, _ | 6, _ | 7, _ => exact ⟨_, rfl, rfl⟩
theorem wrap8 (k : Nat) (h : k < 8) : IntKind.u8.wrap ((k : Int) + 1) = (k : Int) + 1 := by
  match k, h with
  | 0, _ | 1, _ | 2, _ | 3, _ | 4, _ | 5, _ | 6, _ | 7, _ => rfl
theorem nil_mb (w : World) : Sl RMb 5 w (.slice none 0 0) [] := ⟨none, 0, 0, 0, rfl, fun h => by simp at h, fun j x hj => by simp at hj⟩
theorem get_two {b t : List UInt8} {j : Nat} {x : UInt8} (hj : (b ++ t)[j]? = some x) : (b.map byteV ++ t.map byteV)[j]? = some (byteV x) := by rw [← List.map_append, List.getElem?_map, hj]; rfl
/-- the bytes with eight more behind them, sliced to what they were -/
structure Full (w : World) (g n c : Nat) (b : List UInt8) : Prop where
  cells : ∀ j x, (b ++ tail8)[j]? = some x → w.cell? ⟨g, j, none⟩ = some (byteV x)
  len : b.length = n
  cap : n + 8 ≤ c
theorem Full.keep {w w' : World} {g n c : Nat} {b : List UInt8} (h : Full w g n c b) (hk : Keeps w w') : Full w' g n c b := ⟨fun j x hj => hk _ _ _ (h.cells j x hj), h.len, h.cap⟩
theorem Full.sl {w : World} {g n c : Nat} {b : List UInt8} (h : Full w g n c b) : Sl RByte 1 w (.slice (some ⟨g, 0, none⟩) n c) b :=
  ⟨_, g, 0, c, by rw [h.len], fun _ => rfl, fun j x hj => by
    rw [Nat.zero_add, Nat.mul_one]
    exact h.cells j x (by rw [List.getElem?_append_left (List.getElem?_eq_some_iff.1 hj).1]; exact hj)⟩
theorem Full.at {w : World} {g n c : Nat} {b : List UInt8} (h : Full w g n c b) {k : Nat} (hk : k < 8) : w.cell? ⟨g, n + k, none⟩ = some (.int .u8 ((k : Int) + 1)) := by
  obtain ⟨x, hx, hv⟩ := tail8_get k hk
  have := h.cells (n + k) x (by rw [List.getElem?_append_right (by have := h.len; omega), h.len, Nat.add_sub_cancel_left]; exact hx)
  rw [this, byteV, hv]

end Go.Proofs.YtlecpjfggoehdaaGreatDoor.Ar
