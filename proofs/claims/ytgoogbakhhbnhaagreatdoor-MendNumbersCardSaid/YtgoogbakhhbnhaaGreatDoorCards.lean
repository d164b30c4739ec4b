/-
  DERIVED. GIVEN WITH THE SEED: THE CARDS: each row of YtgoogbakhhbnhaaGreatDoorRows.lean that lists a variable, with what it lists TIED to the program's text (the seventh form; the later family's looks); each row that meets fmt, with fmt's text TOLD by the authors' own Lean function (tested against real Go, not proved from fmt's source: count such statements apart). THE CARD IS WHAT COUNTS. Prove the row's statement (the work); the ties are given (YtgoogbakhhbnhaaGreatDoorTie.lean); close each card by the builder's one call (the guide's Derived/Test/ToyasCard.lean, 'card_holds'). Laid BY PROGRAM, IN A SANDBOX (cutbox-door.mjs). By AI agents, Wed Nov 11 2026. No macro, syntax, notation, axiom, sorry.
-/
import Derived.Test.YtgoogbakhhbnhaaGreatDoorRows
import GoSem.ClaimSeven
namespace Go.Proofs.YtgoogbakhhbnhaaGreatDoor
namespace Rows

/-- THE TIED CARD OF 'furrowlaw22.MendNumbers'. -/
def mendNumbersCard : Claim7 := { stood := { row := mendNumbersRow, standIns := [], harness := (true, "425101554ba5a6516d35ad1d8d376b94dea59e70d5942c55b202889828b98c8d"), looks := true }, kinds := [], alts := [], goes := true, laidByText := true, laidKinds := [.data, .data, .data, .data, .data, .pinned], laidTests := true, laidLooks := .later }
def MendNumbersCardSaid : Prop := Claim7.holds Tryz.pinned (.plain (OpenSpec.ofChange mendNumbersSpec)) mendNumbersCard

/-- THE SECOND FORM's CARD OF 'furrowlaw22.MendNumbers'. -/
def mendNumbersUptoCard : Claim7 := { stood := { row := mendNumbersUptoRow, standIns := [], harness := (true, "425101554ba5a6516d35ad1d8d376b94dea59e70d5942c55b202889828b98c8d"), looks := true }, kinds := [], alts := [], goes := true, laidByText := true, laidKinds := [.data, .data, .data, .data, .data, .pinned], laidTests := true, laidLooks := .later }
def MendNumbersUptoCardSaid : Prop := Claim7.holds Tryz.pinned (.plain (OpenSpec.upto mendNumbersSpec)) mendNumbersUptoCard
end Rows
end Go.Proofs.YtgoogbakhhbnhaaGreatDoor
