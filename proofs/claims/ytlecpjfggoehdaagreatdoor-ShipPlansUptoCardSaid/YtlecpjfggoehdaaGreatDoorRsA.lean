
/- RunStates: contracts of run.numbers. -/
import Derived.Test.YtlecpjfggoehdaaGreatDoorShelf
import Derived.WalkKit
import Derived.ProofKit
import Derived.OpenShut
import Derived.Lib.Hide
import Derived.Lib.AppendIntMem
import Derived.Lib.ItoaLen
import Derived.WalkLawsBesides
import Derived.WalkSpells
import Derived.BigQuiet
import Derived.Deep.QuietTactic
import Derived.Test.YtlecpjfggoehdaaGreatDoorRow
import Derived.Test.YtlecpjfggoehdaaGreatDoorRsSpec
set_option linter.unusedVariables false
set_option linter.unusedSimpArgs false
namespace Go.Proofs.YtlecpjfggoehdaaGreatDoor.Rs
open Go.RowKit Go.Sort Go.Lib

theorem info9 : (Tryz.prog.info? 9).map (fun i => (i.zero, i.size, i.bytes)) = some (some (.string ⟨#[]⟩), 1, 16) := by kernel_rfl

/-- what a world behind a pure call keeps -/
theorem bcell {W w1 : World} (hb : Below W.heap.size W w1) : (∀ b o, b < W.heap.size → w1.cell? ⟨b, o, none⟩ = W.cell? ⟨b, o, none⟩) ∧ (∀ b o, b < W.heap.size → w1.frozen? ⟨b, o, none⟩ = W.frozen? ⟨b, o, none⟩) :=
  ⟨fun b o h => hb.cell (p := ⟨b, o, none⟩) h, fun b o h => hb.frozen (p := ⟨b, o, none⟩) h⟩

def Pow (w : World) : Prop := Lib.TabIs Tryz.prog w "internal/strconv.uint64pow10" .u64 Lib.pow10Tab

theorem below_grow {w : World} (k : Nat) (os : Array Obj) : Below w.heap.size w (grow (w.drewN k) os) :=
  ⟨rfl, rfl, rfl, by show w.heap.size ≤ (w.heap ++ os).size; simp, fun i hi => by show (w.heap ++ os)[i]? = _; rw [Array.getElem?_append, if_pos hi]⟩

theorem Pow.below {w w' : World} (h : Pow w) (hb : Below w.heap.size w w') : Pow w' := tabBelow_of_tabIs h w' hb

/-- strings.Join of texts that lie in a row of the call's own. -/
theorem join_row {w : World} {B T cap n : Nat} {ys : List (List UInt8)} {sep : List UInt8} (hn : ys.length = n) (hr : Row w B T (ys.map fun y => .string (bs y))) (hcap : n ≤ cap)
    (hN : n ≤ 1073741824) (hs : sep.length * n + lens ys ≤ 140737488355328) :
    Calls Tryz.prog 44 #[.slice (some ⟨B, 0, none⟩) n cap, .string (bs sep)] w fun e w' => e = .returned (.string (bs (join ys sep))) ∧ Below w.heap.size w w' := by
  have e : (ys.map bs).map (·.data.toList) = ys := by simp [Function.comp_def, bs]
  have h := Tryz.strings_Join B 0 cap (ys.map bs) (bs sep) w (fun j x hx => by
      rw [Nat.zero_add, hr.cell]
      simp only [List.getElem?_map, Option.map_eq_some_iff] at hx ⊢
      obtain ⟨y, hy, rfl⟩ := hx
      exact ⟨y, hy, rfl⟩) hr.lt (by simp; omega) (by simp; omega) (by
      rw [e]
      have := join_le ys sep
      simp only [bs]
      rw [hn] at this
      omega)
  rw [e] at h
  simp only [List.length_map, hn] at h
  exact h

/-- An int64 cell. -/
def RInt (w : World) (b o : Nat) (x : Int) : Prop := w.cell? ⟨b, o, none⟩ = some (.int .i64 x) ∧ I64 x
theorem RInt.stays : Stays RInt := fun _ _ hk _ _ _ h => ⟨hk _ _ _ h.1, h.2⟩

end Go.Proofs.YtlecpjfggoehdaaGreatDoor.Rs
