
/- Archive: numbers in bytes. -/
import Derived.Test.YtgoogbakhhbnhaaGreatDoorRsA
set_option linter.unusedVariables false
set_option linter.unusedSimpArgs false
namespace Go.Proofs.YtgoogbakhhbnhaaGreatDoor.Ar
open Go.RowKit Go.Sort Go.Lib

/-- A byte as the walk has it. -/
def byteV (b : UInt8) : Value := .int .u8 b.toNat
/-- Byte i of a number. -/
def byteAt (v : Int) (i : Nat) : UInt8 := UInt8.ofNat (v / 2 ^ (8 * i) % 256).toNat
def halfB (v : Int) : List UInt8 := [byteAt v 0, byteAt v 1, byteAt v 2, byteAt v 3]
def wordB (v : Int) : List UInt8 := [byteAt v 0, byteAt v 1, byteAt v 2, byteAt v 3, byteAt v 4, byteAt v 5, byteAt v 6, byteAt v 7]

theorem u8_byteAt (v : Int) (i : Nat) : byteV (byteAt v i) = .int .u8 (v / 2 ^ (8 * i) % 256) := by
  unfold byteV byteAt
  have h0 : 0 ≤ v / 2 ^ (8 * i) % 256 := Int.emod_nonneg _ (by omega)
  have h1 : v / 2 ^ (8 * i) % 256 < 256 := Int.emod_lt_of_pos _ (by omega)
  generalize v / 2 ^ (8 * i) % 256 = z at *
  rw [UInt8.toNat_ofNat']
  congr 1
  omega
theorem _root_.Go.Proofs.YtgoogbakhhbnhaaGreatDoor.Row.setRow {w : World} {B T : Nat} {cur : List Value} (h : Row w B T cur) (cs : List Value) : Row (w.setRow B cs.toArray) B T cs := setRow_heap w B cur.toArray cs.toArray T _ h
section
variable {P : Program} {ops : Array Oper} {rest : List Oper} {o : Oper} {a : Act} {Q : Exit → Act → World → Prop} {w : World} {B T : Nat} {cur : List Value}
/-- a whole array (a struct) read out of a block that is known whole -/
theorem wpl_load (hR : Row w B T cur) (hgd : o.guard = none) (ty : TypeId) (x : Operand) (ho : o.op = .load ty x) (hx : a.eval x = .pointer (some ⟨B, 0, none⟩)) (d : TypeDesc) (n : Nat) (hn : cur.length = n)
    (hu : P.underlying ty = some d) (hd : (match d with | .struct _ | .array _ _ => true | _ => false) = true) (hi : (P.info? ty).map (·.size) = some n)
    (h : wpList P ops Q rest (a.put o.dst (.agg cur.toArray)) w) : wpList P ops Q (o :: rest) a w :=
  wpList_load_row hgd ty x ho B hx T cur.toArray (0, 0) d hR hu (by exact hd) (by simpa [hn] using hi) h
theorem wpl_store (hR : Row w B T cur) (hgd : o.guard = none) (ty : TypeId) (x y : Operand) (ho : o.op = .store ty x y) (cs : List Value) (hx : a.eval x = .pointer (some ⟨B, 0, none⟩)) (hy : a.eval y = .agg cs.toArray) (n : Nat) (hn : cur.length = n)
    (hm : cs.length = n) (h1 : ∀ v ∈ cs, v.oneCell' = true) (hi : (P.info? ty).map (·.size) = some n)
    (h : wpList P ops Q rest (a.put o.dst undef) (w.setRow B cs.toArray)) : wpList P ops Q (o :: rest) a w :=
  wpList_plain hgd fun _ hK => wp_store_row ty x y ho B cs.toArray hx hy T cur.toArray hR (by simpa [hm] using hi) (by simp [hn, hm]) (by simpa using h1) (hK _ _ h)
end
theorem below_setRow {N : Nat} {w w1 : World} (h : Below N w w1) {g : Nat} (hN : N ≤ g) (cs : Array Value) : Below N w (w1.setRow g cs) :=
  ⟨h.os, h.tape, h.output, by have := h.size; simpa [World.setRow] using this, fun i hi => (setRow_other w1 g i cs (by omega)).trans (h.block i hi)⟩
theorem bodyPost_agg {P : Program} {fn : Func} {R : Ending → World → Prop} {a : Act} {w : World} {B T n : Nat} {cur : List Value} (hR : Row w B T cur) (p : Tmp) (ty : TypeId) (h : fn.results = #[.cell p ty]) (d : TypeDesc) (hp : a.tmps.getD p undef = .pointer (some ⟨B, 0, none⟩))
    (hn : cur.length = n) (hu : P.underlying ty = some d) (hd : (match d with | .struct _ | .array _ _ => true | _ => false) = true) (hi : (P.info? ty).map (·.size) = some n) (hdef : a.defers = []) (hret : R (.returned (.agg cur.toArray)) w) : bodyPost P fn R .ret a w :=
  bodyPost_ret (results_cell_row h a.tmps w B T cur.toArray (0, 0) d hp hR hu (by exact hd) (by simpa [hn] using hi)) hdef hret
theorem alloc_size (w : World) (o : Obj) : (w.alloc o).heap.size = w.heap.size + 1 := by show (w.heap.push _).size = _; simp
theorem row_new1 (w : World) (o : Obj) (T : TypeId) (cur : List Value) : Row ((w.alloc o).alloc (.cells cur.toArray T)) (w.heap.size + 1) T cur := by
  have h := Row.new (w.alloc o) T cur
  rwa [alloc_size] at h
theorem below_alloc2 (w : World) (o o' : Obj) : Below w.heap.size w ((w.alloc o).alloc o') := ((Below.refl _ _).alloc (Nat.le_refl _) _).alloc (by rw [alloc_size]; omega) _
theorem below_alloc1 (w : World) (o : Obj) : Below w.heap.size w (w.alloc o) := (Below.refl _ _).alloc (Nat.le_refl _) _

set_option maxHeartbeats 1000000 in
set_option maxRecDepth 100000 in
theorem call_lay (x : Int) (h0 : 0 ≤ x) (h1 : x < 18446744073709551616) (w : World) :
    Calls Tryz.prog 31 #[.int .u64 x] w fun e w' => e = .returned (.agg ((wordB x).map byteV).toArray) ∧ Below w.heap.size w w' := by
  go_enter Tryz.func31, Tryz.ntmps31
  go_wp2
  go_loopw [5] (fun i wr => ∃ (k : Nat) (cur : List Value), i = .int .i64 k ∧ k ≤ 8 ∧ Row wr w.heap.size 94 (List.replicate 8 (.int .u8 0)) ∧ Row wr (w.heap.size + 1) 94 cur ∧ cur.length = 8 ∧
      (∀ j, j < k → cur[j]? = some (byteV (byteAt x j))) ∧ Below w.heap.size w wr)
    (fun i _ => 8 - (RowKit.intOf i).toNat)
  case atStart => exact ⟨0, List.replicate 8 (.int .u8 0), rfl, Nat.zero_le _, (Row.new w 94 (List.replicate 8 (.int .u8 0))).alloc _, row_new1 w _ 94 (List.replicate 8 (.int .u8 0)), rfl, fun j h => by omega, below_alloc2 w _ _⟩
  case round =>
    obtain ⟨k, cur, rfl, hk, hr0, hr, hl, hd, hb⟩ := hrel
    by_cases hlt : k < 8
    · have HR0 := Lib.hid hr0
      have HR := Lib.hid hr
      have HD := Lib.hid hd
      have HL := Lib.hid hl
      obtain ⟨v0, hcur⟩ : ∃ v, wr.cell? ⟨w.heap.size + 1, k, none⟩ = some v := ⟨cur[k]'(by omega), by rw [hr.cell]; simp⟩
      have hf := hr.free k
      clear hr0 hr hd hl
      go_wp2
      go_roundw
      case rel =>
        refine ⟨k + 1, _, by go_num, by omega, HR0.out.other (Nat.ne_of_lt (Nat.lt_succ_self _)) _, HR.out.set k _, by simp [HL.out], fun j hj => ?_, hb.setCell (Nat.le_succ _) _⟩
        by_cases e : j = k
        · subst e; rw [List.getElem?_set_self (by have := HL.out; omega), u8_byteAt]
        · rw [List.getElem?_set_ne (by omega)]; exact HD.out j (by omega)
      case measure => simp [RowKit.intOf]; omega
    · obtain rfl : k = 8 := by omega
      have hcur : cur = (wordB x).map byteV := by
        apply List.ext_getElem?
        intro j
        by_cases h : j < 8
        · rw [hd j h]
          match j, h with
          | 0, _ | 1, _ | 2, _ | 3, _ | 4, _ | 5, _ | 6, _ | 7, _ => rfl
        · rw [List.getElem?_eq_none (by omega), List.getElem?_eq_none (by simp [wordB]; omega)]
      subst hcur
      have HR0 := Lib.hid hr0
      have HR := Lib.hid hr
      clear hr0 hr hd hl
      go_wp2_with (first | refine wpl_load HR.out rfl 94 _ rfl rfl _ 8 rfl Tryz.underlying94 rfl (by kernel_rfl) ?_ | refine wpl_store HR0.out rfl 94 _ _ rfl ((wordB x).map byteV) rfl rfl 8 rfl rfl (by intro v hv; obtain ⟨b, _, rfl⟩ := List.mem_map.1 hv; rfl) (by kernel_rfl) ?_)
      exact bodyPost_agg (HR0.out.setRow _) 2 94 rfl _ rfl rfl Tryz.underlying94 rfl (by kernel_rfl) rfl ⟨rfl, below_setRow hb (Nat.le_refl _) _⟩
end Go.Proofs.YtgoogbakhhbnhaaGreatDoor.Ar
