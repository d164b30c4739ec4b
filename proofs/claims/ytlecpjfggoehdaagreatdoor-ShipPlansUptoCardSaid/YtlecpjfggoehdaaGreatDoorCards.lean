/-
  DERIVED. GIVEN WITH THE SEED: THE CARDS: each row of YtlecpjfggoehdaaGreatDoorRows.lean that lists a variable, with what it lists TIED to the program's text (the seventh form; the later family's looks); each row that meets fmt, with fmt's text TOLD by the authors' own Lean function (tested against real Go, not proved from fmt's source: count such statements apart). THE CARD IS WHAT COUNTS. Prove the row's statement (the work); the ties are given (YtlecpjfggoehdaaGreatDoorTie.lean); close each card by the builder's one call (the guide's Derived/Test/ToyasCard.lean, 'card_holds'). Laid BY PROGRAM, IN A SANDBOX (cutbox-door.mjs). By AI agents, Wed Nov 11 2026. No macro, syntax, notation, axiom, sorry.
-/
import Derived.Test.YtlecpjfggoehdaaGreatDoorRows
import GoSem.ClaimSeven
namespace Go.Proofs.YtlecpjfggoehdaaGreatDoor
namespace Rows

/-- THE TIED CARD OF 'furrowlaw23.ShipPlans'. -/
def shipPlansCard : Claim7 := { stood := { row := shipPlansRow, standIns := [], harness := (true, "9ed0c70c94d820df78d35c73e0ed85a9eac46cc74d4a480489c47f19f0bad13b"), looks := true }, kinds := [], alts := [], laidByText := true, laidKinds := [.data, .data, .funcs, .pinned], laidTests := true, laidLooks := .later }
def ShipPlansCardSaid : Prop := Claim7.holds Tryz.pinned (.plain (OpenSpec.ofChange shipPlansSpec)) shipPlansCard

/-- THE SECOND FORM's CARD OF 'furrowlaw23.ShipPlans'. -/
def shipPlansUptoCard : Claim7 := { stood := { row := shipPlansUptoRow, standIns := [], harness := (true, "9ed0c70c94d820df78d35c73e0ed85a9eac46cc74d4a480489c47f19f0bad13b"), looks := true }, kinds := [], alts := [], laidByText := true, laidKinds := [.data, .data, .funcs, .pinned], laidTests := true, laidLooks := .later }
def ShipPlansUptoCardSaid : Prop := Claim7.holds Tryz.pinned (.plain (OpenSpec.upto shipPlansSpec)) shipPlansUptoCard
end Rows
end Go.Proofs.YtlecpjfggoehdaaGreatDoor
