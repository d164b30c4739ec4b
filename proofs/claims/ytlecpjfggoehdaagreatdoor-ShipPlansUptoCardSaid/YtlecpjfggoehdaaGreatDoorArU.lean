
/- Archive: the maps of a list. -/
import Derived.Test.YtlecpjfggoehdaaGreatDoorArT
import Derived.Maps.Own
import Derived.Maps.OwnSet
import Derived.Maps.OwnOps
import Derived.Maps.Views
import Derived.StringKeys
import Derived.Maps.Keyed
set_option linter.unusedVariables false
set_option linter.unusedSimpArgs false
set_option maxRecDepth 100000
namespace Go.Proofs.YtlecpjfggoehdaaGreatDoor.Ar
open Go.RowKit Go.Sort Go.Lib Go.Proofs.YtlecpjfggoehdaaGreatDoor.Rs

/-- The block b is a map of texts to numbers, of the call's own: it reads as f (0 where nothing was laid). -/
def MapI (w : World) (b n : Nat) (f : List UInt8 → Int) : Prop := ∃ D : DataW Unit, w.ownsMap Tryz.prog 9 (plainElem Tryz.prog 3) b n D ∧ ∀ key, D.atKey (.string key) (.lit (.int .i64 0)) = .lit (.int .i64 (f key))
theorem MapI.made (w : World) : MapI (w.alloc (.map #[] 0)) w.heap.size 0 (fun _ => 0) := ⟨.map [], World.ownsMap_made w _ _ _, fun key => rfl⟩
theorem MapI.kept {w w' : World} {b n : Nat} {f : List UInt8 → Int} (h : MapI w b n f) (he : w'.heap[b]? = w.heap[b]?) : MapI w' b n f := by
  obtain ⟨D, ⟨es, clock, hb, F, hs, hD⟩, hf⟩ := h
  exact ⟨D, ⟨es, clock, he.trans hb, F, hs, hD⟩, hf⟩
theorem MapI.lt {w : World} {b n : Nat} {f : List UInt8 → Int} (h : MapI w b n f) : b < w.heap.size := by
  obtain ⟨D, h, _⟩ := h
  exact h.lt
theorem key_bs {key : List UInt8} (hk : key.length ≤ 1048576) : keyOf Tryz.prog 9 (.string (bs key)) = some (.string key) := by
  have h := WideMaps.keyOf_string_mk (P := Tryz.prog) (k := 9) (s := bs key) Tryz.underlying9 (by rw [bs_size]; simp only [maxLen]; omega)
  simpa [bs] using h
/-- m[k]: an equation for the walk -/
theorem MapI.look {w : World} {b n : Nat} {f : List UInt8 → Int} (h : MapI w b n f) {key : List UInt8} (hk : key.length ≤ 1048576) : (Instr.lookup 45 (.map (some b)) (.string (bs key)) false).run Tryz.prog w = .ok (.int .i64 (f key)) w := by
  obtain ⟨D, h, hf⟩ := h
  obtain ⟨c, hrun, hat, _⟩ := h.lookup_int (Go.Maps.string_keyed Tryz.underlying9) Tryz.underlying45 Tryz.underlying3 (by rfl) (key_bs hk)
  rw [hf key] at hat
  cases hat
  exact hrun
/-- m[k] = v -/
theorem MapI.put {w : World} {b n : Nat} {f : List UInt8 → Int} (h : MapI w b n f) {key : List UInt8} (hk : key.length ≤ 1048576) (hn : n < 1000000) (x : Int) (hx : I64 x) :
    ∃ w', (Instr.mapUpdate 45 (.map (some b)) (.string (bs key)) (.int .i64 x)).run Tryz.prog w = .ok () w' ∧ MapI w' b (n + 1) (fun q => if q = key then x else f q) ∧ w.grownBy w' (some b) := by
  obtain ⟨D, h, hf⟩ := h
  have hp : plainElem (H := Unit) Tryz.prog 3 (.int .i64 x) = some (.lit (.int .i64 x), []) := plainElem_int Tryz.underlying3 (by have h1 := hx.1; have h2 := hx.2; simp [Lit.wf, IntKind.min, IntKind.max, IntKind.bits, IntKind.signed]; omega)
  obtain ⟨w', hrun, h1, h2⟩ := h.update (Go.Maps.string_keyed Tryz.underlying9) Tryz.underlying45 (by simp only [maxLen]; omega) (key_bs hk) hp
  refine ⟨w', hrun, ⟨_, h1, fun q => ?_⟩, h2⟩
  by_cases e : q = key
  · subst e
    show _ = DataW.lit (Lit.int .i64 (if q = q then x else f q))
    rw [if_pos rfl, Go.Maps.atKey_put_same h.isMap (by trivial)]
  · show _ = DataW.lit (Lit.int .i64 (if q = key then x else f q))
    rw [if_neg e, Go.Maps.atKey_put_other (by intro h; cases h; exact e rfl), hf q]
end Go.Proofs.YtlecpjfggoehdaaGreatDoor.Ar
