
/- Archive, the law's own: alike, same, marked, where they say yes. -/
import Derived.Test.YtlecpjfggoehdaaGreatDoorArP
import Derived.IntWalk
import Derived.Deep.DeepCutAuto
set_option linter.unusedVariables false
set_option linter.unusedSimpArgs false
set_option maxRecDepth 100000
namespace Go.Proofs.YtlecpjfggoehdaaGreatDoor.Ar
open Go.RowKit Go.Sort Go.Lib Go.Proofs.YtlecpjfggoehdaaGreatDoor.Rs

theorem below_after {w w1 w2 : World} (h : Below w.heap.size w w1) (k : Below w1.heap.size w1 w2) : Below w.heap.size w w2 := below_then h h.size k
theorem Below.drewN' {N : Nat} {w w' : World} (h : Below N w w') (n : Nat) : Below N w (w'.drewN n) := ⟨h.os, h.tape, h.output, h.size, h.block⟩
def LsSm' (l : List Mb) : Prop := l.length ≤ 1048576 ∧ ∀ m ∈ l, m.pieces.length ≤ 1048576
/-- a slice of pieces -/
def RPcs (w : World) (b o : Nat) (ps : List Pc) : Prop := ∃ vp, w.cell? ⟨b, o, none⟩ = some vp ∧ Sl RPc 2 w vp ps
theorem RPcs.stays : Stays RPcs := fun _ _ hk _ _ _ h => by
  obtain ⟨vp, h0, h1⟩ := h
  exact ⟨vp, hk _ _ _ h0, h1.keep RPc.stays hk⟩
def markP : Pc := ⟨-7, [109, 97, 114, 107]⟩

/-- what 'same' knows of two members' boxes -/
abbrev SmS (w0 : World) (B1 B2 : Nat) (m : Mb) (va vb : Value) (w' : World) : Prop :=
  w'.cell? ⟨B1, 4, none⟩ = some va ∧ w'.cell? ⟨B2, 4, none⟩ = some vb ∧ Hid (Row w' B1 58 (mbCells m va) ∧ Row w' B2 58 (mbCells m vb) ∧ Below w0.heap.size w0 w')

end Go.Proofs.YtlecpjfggoehdaaGreatDoor.Ar
