/- RunStates: kindWord, node. -/
import Derived.Test.YtlecpjfggoehdaaDoorRsA
import Derived.Deep.RegionHeld3
import Derived.Deep.DeepCutAuto
set_option linter.unusedVariables false
set_option linter.unusedSimpArgs false
namespace Go.Proofs.YtlecpjfggoehdaaDoor.Rs
open Go.RowKit Go.Sort Go.Lib

def KindTab (w : World) : Prop := w.cell? ⟨0, 0, none⟩ = some (.string (bs [102, 114, 101, 101])) ∧ w.cell? ⟨0, 1, none⟩ = some (.string (bs [102, 105, 108, 101])) ∧ w.cell? ⟨0, 2, none⟩ = some (.string (bs [100, 105, 114]))
theorem KindTab.below {w w' : World} (h : KindTab w) (hb : Below w.heap.size w w') : KindTab w' := by
  have hz : 0 < w.heap.size := World.block_lt_of_cell? w _ h.1
  exact ⟨(hb.cell (by exact hz)).trans h.1, (hb.cell (by exact hz)).trans h.2.1, (hb.cell (by exact hz)).trans h.2.2⟩

set_option maxRecDepth 100000 in
theorem call_kindWord (k : Int) (w : World) (ht : KindTab w) : Calls Tryd.prog 59 #[.int .i64 k] w fun e w' => e = .returned (.string (bs (kindB k))) ∧ Below w.heap.size w w' := by
  obtain ⟨t0, t1, t2⟩ := ht
  by_cases h1 : k = 1
  · subst h1
    go_enter Tryd.func59, Tryd.ntmps59
    go_wp2
    go_ret
    exact ⟨rfl, by repeat (first | exact Below.refl _ _ | apply Below.drew)⟩
  · by_cases h2 : k = 2
    · subst h2
      go_enter Tryd.func59, Tryd.ntmps59
      go_wp2
      go_ret
      exact ⟨rfl, by repeat (first | exact Below.refl _ _ | apply Below.drew)⟩
    · have b1 : ((k : Int) == 1) = false := by simp [h1]
      have b2 : ((k : Int) == 2) = false := by simp [h2]
      have e : kindB k = [102, 114, 101, 101] := by simp [kindB, h1, h2]
      rw [e]
      clear h1 h2 e
      go_enter Tryd.func59, Tryd.ntmps59
      go_wp2
      go_ret
      exact ⟨rfl, by repeat (first | exact Below.refl _ _ | apply Below.drew)⟩
end Go.Proofs.YtlecpjfggoehdaaDoor.Rs
