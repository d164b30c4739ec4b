/- RunStates: contracts of run.numbers. -/
import Derived.Test.YtlecpjfggoehdaaDoorShelf
import Derived.WalkKit
import Derived.ProofKit
import Derived.OpenShut
import Derived.Lib.Hide
import Derived.Lib.AppendIntMem
import Derived.Lib.ItoaLen
import Derived.WalkLawsBesides
import Derived.WalkSpells
import Derived.BigQuiet
import Derived.Deep.QuietTactic
import Derived.Test.YtlecpjfggoehdaaDoorRow
import Derived.Test.YtlecpjfggoehdaaDoorRsSpec
set_option linter.unusedVariables false
set_option linter.unusedSimpArgs false
namespace Go.Proofs.YtlecpjfggoehdaaDoor.Rs
open Go.RowKit Go.Sort Go.Lib

theorem info9 : (Tryd.prog.info? 9).map (fun i => (i.zero, i.size, i.bytes)) = some (some (.string ⟨#[]⟩), 1, 16) := by kernel_rfl

/-- what a world behind a pure call keeps -/
theorem bcell {W w1 : World} (hb : Below W.heap.size W w1) : (∀ b o, b < W.heap.size → w1.cell? ⟨b, o, none⟩ = W.cell? ⟨b, o, none⟩) ∧ (∀ b o, b < W.heap.size → w1.frozen? ⟨b, o, none⟩ = W.frozen? ⟨b, o, none⟩) :=
  ⟨fun b o h => hb.cell (p := ⟨b, o, none⟩) h, fun b o h => hb.frozen (p := ⟨b, o, none⟩) h⟩

def Pow (w : World) : Prop := Lib.TabIs Tryd.prog w "internal/strconv.uint64pow10" .u64 Lib.pow10Tab

theorem below_grow {w : World} (k : Nat) (os : Array Obj) : Below w.heap.size w (grow (w.drewN k) os) :=
  ⟨rfl, rfl, rfl, by show w.heap.size ≤ (w.heap ++ os).size; simp, fun i hi => by show (w.heap ++ os)[i]? = _; rw [Array.getElem?_append, if_pos hi]⟩

theorem Pow.below {w w' : World} (h : Pow w) (hb : Below w.heap.size w w') : Pow w' := tabBelow_of_tabIs h w' hb

/-- strconv.Itoa, as a call that makes memory alone. -/
theorem call_itoa (n : Int) (h0 : -9223372036854775808 ≤ n) (h1 : n ≤ 9223372036854775807) (w : World) (hp : Pow w) :
    Calls Tryd.prog 32 #[.int .i64 n] w fun e w' => e = .returned (.string (bs (Lib.itoa n))) ∧ Below w.heap.size w w' :=
  (Tryd.strconv_Itoa n h0 h1 w hp).mono fun e w' h => by
    obtain ⟨he, k, os, rfl⟩ := h
    exact ⟨he, below_grow k os⟩

/-- strings.Join of texts that lie in a row of the call's own. -/
theorem join_row {w : World} {B T cap n : Nat} {ys : List (List UInt8)} {sep : List UInt8} (hn : ys.length = n) (hr : Row w B T (ys.map fun y => .string (bs y))) (hcap : n ≤ cap)
    (hN : n ≤ 1073741824) (hs : sep.length * n + lens ys ≤ 140737488355328) :
    Calls Tryd.prog 35 #[.slice (some ⟨B, 0, none⟩) n cap, .string (bs sep)] w fun e w' => e = .returned (.string (bs (join ys sep))) ∧ Below w.heap.size w w' := by
  have e : (ys.map bs).map (·.data.toList) = ys := by simp [Function.comp_def, bs]
  have h := Tryd.strings_Join B 0 cap (ys.map bs) (bs sep) w (fun j x hx => by
      rw [Nat.zero_add, hr.cell]
      simp only [List.getElem?_map, Option.map_eq_some_iff] at hx ⊢
      obtain ⟨y, hy, rfl⟩ := hx
      exact ⟨y, hy, rfl⟩) hr.lt (by simp; omega) (by simp; omega) (by
      rw [e]
      have := join_le ys sep
      simp only [bs]
      rw [hn] at this
      omega)
  rw [e] at h
  simp only [List.length_map, hn] at h
  exact h

/-- An int64 cell. -/
def RInt (w : World) (b o : Nat) (x : Int) : Prop := w.cell? ⟨b, o, none⟩ = some (.int .i64 x) ∧ I64 x
theorem RInt.stays : Stays RInt := fun _ _ hk _ _ _ h => ⟨hk _ _ _ h.1, h.2⟩

set_option maxHeartbeats 1000000 in
set_option maxRecDepth 100000 in
theorem call_numbers (v : Value) (xs : List Int) (w : World) (hs : Sl RInt 1 w v xs) (hl : xs.length ≤ 1048576) (hp : Pow w) :
    Calls Tryd.prog 33 #[v] w fun e w' => e = .returned (.string (bs (numStr xs))) ∧ Below w.heap.size w w' := by
  obtain ⟨a, b, o, cap, rfl, ha, hc⟩ := hs
  obtain ⟨n, hn⟩ : ∃ n, xs.length = n := ⟨_, rfl⟩
  rw [hn] at ha hl ⊢
  obtain ⟨i0, hi, hz0, hz1, hz2⟩ := info_parts info9
  have hmk : ∀ u : World, (Instr.makeSlice 74 (.int .i64 (n : Int)) (.int .i64 (n : Int))).run Tryd.prog u =
      .ok (.slice (some ⟨u.heap.size, 0, none⟩) n n) (u.alloc (.cells (List.replicate n (.string ⟨#[]⟩)).toArray 9)) := fun u => by
    have h := run_make (P := Tryd.prog) u 74 9 i0 (.string ⟨#[]⟩) Tryd.underlying74 hi hz0 .i64 .i64 (n : Int) (n : Int) (by omega) (Int.le_refl _) (by rw [hz2]; omega) (by omega)
    simpa [hz1, Value.cells, madeOne] using h
  have R0 := Lib.hid (Row.new w 9 (List.replicate n (.string ⟨#[]⟩)))
  go_enter Tryd.func33, Tryd.ntmps33
  go_wp2
  go_loopw [11] (fun i wr => ∃ (k : Nat) (cur : List Value), i = .int .i64 k ∧ k ≤ n ∧ Row wr w.heap.size 9 cur ∧ cur.length = n ∧
      (∀ j, j < k → cur[j]? = some (.string (bs (Lib.itoa (xs.getD j 0))))) ∧ Below w.heap.size w wr)
    (fun i _ => n - (RowKit.intOf i).toNat)
  case atStart => exact ⟨0, _, rfl, Nat.zero_le _, R0.out, by simp, fun j hj => by omega, (Below.refl _ _).alloc (Nat.le_refl _) _⟩
  case round =>
    obtain ⟨k, cur, rfl, hk, hrow, hcl, hdone, hb⟩ := hrel
    by_cases hlt : k < n
    · obtain ⟨x, hx⟩ : ∃ x, xs.getD k 0 = x := ⟨_, rfl⟩
      have hxk : xs[k]? = some x := by rw [← hx]; simp [List.getD, hn, hlt]
      obtain ⟨hcw, hr1, hr2⟩ := hc k x hxk
      rw [Nat.mul_one] at hcw
      have hcell : wr.cell? ⟨b, o + k, none⟩ = some (.int .i64 x) := (hb.cell (by exact World.block_lt_of_cell? w _ hcw)).trans hcw
      have ha' := ha (by omega)
      subst ha'
      obtain ⟨v0, hcur⟩ : ∃ v, wr.cell? ⟨w.heap.size, k, none⟩ = some v := ⟨cur[k]'(by omega), by rw [hrow.cell]; simp⟩
      have H := Lib.hid (hp.below hb)
      have HR := Lib.hid hrow
      have HD := Lib.hid hdone
      have HL := Lib.hid hcl
      have HX := Lib.hid hx
      clear hrow hdone hcl hc ha hmk hx hn hxk hcw
      go_wp2_with (go_at_call 32; refine (call_itoa _ hr1 hr2 _ H.out).mono ?_; rintro e w1 ⟨rfl, hb1⟩; have HR1 := HR.out.below hb1 HR.out.lt; have hc1 := (HR1.cell k).trans ((HR.out.cell k).symm.trans hcur); have hf1 := HR1.free k; have HR1 := Lib.hid HR1)
      go_roundw
      case rel =>
        refine ⟨k + 1, cur.set k (.string (bs (Lib.itoa x))), by go_num, by omega, HR1.out.set k _, by simp [HL.out], fun j hj => ?_, ?_⟩
        · by_cases e : j = k
          · subst e; rw [List.getElem?_set_self (by have := HL.out; omega), HX.out]
          · rw [List.getElem?_set_ne (by omega)]; exact HD.out j (by omega)
        · exact (below_then hb hb.size hb1).setCell (Nat.le_refl _) _
      case measure => simp [RowKit.intOf]; omega
    · obtain rfl : k = n := by omega
      have H := Lib.hid (hp.below hb)
      have hcur : cur = ((xs.map Lib.itoa).map fun x => .string (bs x)) := by
        apply List.ext_getElem?
        intro j
        by_cases h : j < k
        · rw [hdone j h]; simp [List.getD, hn, h]
        · rw [List.getElem?_eq_none (by omega), List.getElem?_eq_none (by simp; omega)]
      subst hcur
      have HR := Lib.hid hrow
      have HN := Lib.hid hn
      have HJ : Hid (Calls Tryd.prog 35 #[.slice (some ⟨w.heap.size, 0, none⟩) k k, .string (bs [32])] wr fun e w' => e = .returned (.string (bs (join (xs.map Lib.itoa) [32]))) ∧ Below wr.heap.size wr w') :=
        Lib.hid (join_row (by simpa using hn) hrow (Nat.le_refl _) (by omega) (by
          have := lens_le (l := xs.map Lib.itoa) (m := 21) (fun x hx => by
            obtain ⟨z, hz, rfl⟩ := List.mem_map.1 hx
            obtain ⟨j, hj, rfl⟩ := List.getElem_of_mem hz
            exact itoa_le (hc j _ (List.getElem?_eq_getElem hj)).2)
          simp only [List.length_map, hn, List.length_cons, List.length_nil] at this ⊢
          omega))
      clear hrow hcl hdone hc hn hmk ha H HR
      go_wp2_with (go_at_call 35; refine HJ.out.mono ?_; rintro e w1 ⟨rfl, hb1⟩)
      go_ret
      exact ⟨rfl, below_then hb hb.size hb1⟩
end Go.Proofs.YtlecpjfggoehdaaDoor.Rs
