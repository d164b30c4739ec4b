/-
  DERIVED. GIVEN WITH THE SEED: THE CARDS: each row of YtlecpjfggoehdaaDoorRows.lean that lists a variable, with what it lists TIED to the program's text (the seventh form; the later family's looks); each row that meets fmt, with fmt's text TOLD by the authors' own Lean function (tested against real Go, not proved from fmt's source: count such statements apart). THE CARD IS WHAT COUNTS. Prove the row's statement (the work); the ties are given (YtlecpjfggoehdaaDoorTie.lean); close each card by the builder's one call (the guide's Derived/Test/ToyasCard.lean, 'card_holds'). Laid BY PROGRAM, IN A SANDBOX (cutbox-door.mjs). By AI agents, Wed Nov 11 2026. No macro, syntax, notation, axiom, sorry.
-/
import Derived.Test.YtlecpjfggoehdaaDoorRows
import GoSem.ClaimSeven
namespace Go.Proofs.YtlecpjfggoehdaaDoor
namespace Rows

/-- THE TIED CARD OF 'furrowlaw20.RunStates'. -/
def runStatesCard : Claim7 := { stood := { row := runStatesRow, standIns := [], harness := (true, "a073b7c79cdb155d34bba01f8894cb7932ec0bf659fd2c94258c99c669307fc9"), looks := true }, kinds := [], alts := [], laidByText := true, laidKinds := [.data, .data, .data, .data], laidTests := true, laidLooks := .later }
def RunStatesCardSaid : Prop := Claim7.holds Tryd.pinned (.plain (OpenSpec.ofChange runStatesSpec)) runStatesCard

/-- THE TIED CARD OF 'furrowlaw21.ArchiveMakes'. -/
def archiveMakesCard : Claim7 := { stood := { row := archiveMakesRow, standIns := [], harness := (true, "a073b7c79cdb155d34bba01f8894cb7932ec0bf659fd2c94258c99c669307fc9"), looks := true }, kinds := [], alts := [], laidByText := true, laidKinds := [.data, .data, .pinned], laidTests := true, laidLooks := .later }
def ArchiveMakesCardSaid : Prop := Claim7.holds Tryd.pinned (.plain (OpenSpec.ofChange archiveMakesSpec)) archiveMakesCard

/-- THE TIED CARD OF 'furrowlaw21.ArchiveOpens'. -/
def archiveOpensCard : Claim7 := { stood := { row := archiveOpensRow, standIns := [], harness := (true, "a073b7c79cdb155d34bba01f8894cb7932ec0bf659fd2c94258c99c669307fc9"), looks := true }, kinds := [], alts := [], laidByText := true, laidKinds := [.data, .data, .pinned], laidTests := true, laidLooks := .later }
def ArchiveOpensCardSaid : Prop := Claim7.holds Tryd.pinned (.plain (OpenSpec.ofChange archiveOpensSpec)) archiveOpensCard

/-- THE TIED CARD OF 'furrowlaw21.ArchiveBack'. -/
def archiveBackCard : Claim7 := { stood := { row := archiveBackRow, standIns := [], harness := (true, "a073b7c79cdb155d34bba01f8894cb7932ec0bf659fd2c94258c99c669307fc9"), looks := true }, kinds := [], alts := [], laidByText := true, laidKinds := [.data, .data, .pinned], laidTests := true, laidLooks := .later }
def ArchiveBackCardSaid : Prop := Claim7.holds Tryd.pinned (.plain (OpenSpec.ofChange archiveBackSpec)) archiveBackCard

/-- THE TIED CARD OF 'furrowlaw21.ArchiveTold'. -/
def archiveToldCard : Claim7 := { stood := { row := archiveToldRow, standIns := [], harness := (true, "a073b7c79cdb155d34bba01f8894cb7932ec0bf659fd2c94258c99c669307fc9"), looks := true }, kinds := [], alts := [], laidByText := true, laidKinds := [.data, .data, .pinned], laidTests := true, laidLooks := .later }
def ArchiveToldCardSaid : Prop := Claim7.holds Tryd.pinned (.plain (OpenSpec.ofChange archiveToldSpec)) archiveToldCard

/-- THE TIED CARD OF 'furrowlaw21.ArchiveWhole'. -/
def archiveWholeCard : Claim7 := { stood := { row := archiveWholeRow, standIns := [], harness := (true, "a073b7c79cdb155d34bba01f8894cb7932ec0bf659fd2c94258c99c669307fc9"), looks := true }, kinds := [], alts := [], laidByText := true, laidKinds := [.data, .data, .pinned], laidTests := true, laidLooks := .later }
def ArchiveWholeCardSaid : Prop := Claim7.holds Tryd.pinned (.plain (OpenSpec.ofChange archiveWholeSpec)) archiveWholeCard

/-- THE TIED CARD OF 'furrowlaw21.ArchiveFresh'. -/
def archiveFreshCard : Claim7 := { stood := { row := archiveFreshRow, standIns := [], harness := (true, "a073b7c79cdb155d34bba01f8894cb7932ec0bf659fd2c94258c99c669307fc9"), looks := true }, kinds := [], alts := [], laidByText := true, laidKinds := [.data, .data, .pinned], laidTests := true, laidLooks := .later }
def ArchiveFreshCardSaid : Prop := Claim7.holds Tryd.pinned (.plain (OpenSpec.ofChange archiveFreshSpec)) archiveFreshCard

/-- THE TIED CARD OF 'furrowlaw23.ShipRooms'. -/
def shipRoomsCard : Claim7 := { stood := { row := shipRoomsRow, standIns := [], harness := (true, "a073b7c79cdb155d34bba01f8894cb7932ec0bf659fd2c94258c99c669307fc9"), looks := true }, kinds := [], alts := [], laidByText := true, laidKinds := [.data, .data, .funcs, .pinned], laidTests := true, laidLooks := .later }
def ShipRoomsCardSaid : Prop := Claim7.holds Tryd.pinned (.plain (OpenSpec.ofChange shipRoomsSpec)) shipRoomsCard

/-- THE SECOND FORM's CARD OF 'furrowlaw20.RunStates'. -/
def runStatesUptoCard : Claim7 := { stood := { row := runStatesUptoRow, standIns := [], harness := (true, "a073b7c79cdb155d34bba01f8894cb7932ec0bf659fd2c94258c99c669307fc9"), looks := true }, kinds := [], alts := [], laidByText := true, laidKinds := [.data, .data, .data, .data], laidTests := true, laidLooks := .later }
def RunStatesUptoCardSaid : Prop := Claim7.holds Tryd.pinned (.plain (OpenSpec.upto runStatesSpec)) runStatesUptoCard

/-- THE SECOND FORM's CARD OF 'furrowlaw21.ArchiveMakes'. -/
def archiveMakesUptoCard : Claim7 := { stood := { row := archiveMakesUptoRow, standIns := [], harness := (true, "a073b7c79cdb155d34bba01f8894cb7932ec0bf659fd2c94258c99c669307fc9"), looks := true }, kinds := [], alts := [], laidByText := true, laidKinds := [.data, .data, .pinned], laidTests := true, laidLooks := .later }
def ArchiveMakesUptoCardSaid : Prop := Claim7.holds Tryd.pinned (.plain (OpenSpec.upto archiveMakesSpec)) archiveMakesUptoCard

/-- THE SECOND FORM's CARD OF 'furrowlaw21.ArchiveOpens'. -/
def archiveOpensUptoCard : Claim7 := { stood := { row := archiveOpensUptoRow, standIns := [], harness := (true, "a073b7c79cdb155d34bba01f8894cb7932ec0bf659fd2c94258c99c669307fc9"), looks := true }, kinds := [], alts := [], laidByText := true, laidKinds := [.data, .data, .pinned], laidTests := true, laidLooks := .later }
def ArchiveOpensUptoCardSaid : Prop := Claim7.holds Tryd.pinned (.plain (OpenSpec.upto archiveOpensSpec)) archiveOpensUptoCard

/-- THE SECOND FORM's CARD OF 'furrowlaw21.ArchiveBack'. -/
def archiveBackUptoCard : Claim7 := { stood := { row := archiveBackUptoRow, standIns := [], harness := (true, "a073b7c79cdb155d34bba01f8894cb7932ec0bf659fd2c94258c99c669307fc9"), looks := true }, kinds := [], alts := [], laidByText := true, laidKinds := [.data, .data, .pinned], laidTests := true, laidLooks := .later }
def ArchiveBackUptoCardSaid : Prop := Claim7.holds Tryd.pinned (.plain (OpenSpec.upto archiveBackSpec)) archiveBackUptoCard

/-- THE SECOND FORM's CARD OF 'furrowlaw21.ArchiveTold'. -/
def archiveToldUptoCard : Claim7 := { stood := { row := archiveToldUptoRow, standIns := [], harness := (true, "a073b7c79cdb155d34bba01f8894cb7932ec0bf659fd2c94258c99c669307fc9"), looks := true }, kinds := [], alts := [], laidByText := true, laidKinds := [.data, .data, .pinned], laidTests := true, laidLooks := .later }
def ArchiveToldUptoCardSaid : Prop := Claim7.holds Tryd.pinned (.plain (OpenSpec.upto archiveToldSpec)) archiveToldUptoCard

/-- THE SECOND FORM's CARD OF 'furrowlaw21.ArchiveWhole'. -/
def archiveWholeUptoCard : Claim7 := { stood := { row := archiveWholeUptoRow, standIns := [], harness := (true, "a073b7c79cdb155d34bba01f8894cb7932ec0bf659fd2c94258c99c669307fc9"), looks := true }, kinds := [], alts := [], laidByText := true, laidKinds := [.data, .data, .pinned], laidTests := true, laidLooks := .later }
def ArchiveWholeUptoCardSaid : Prop := Claim7.holds Tryd.pinned (.plain (OpenSpec.upto archiveWholeSpec)) archiveWholeUptoCard

/-- THE SECOND FORM's CARD OF 'furrowlaw21.ArchiveFresh'. -/
def archiveFreshUptoCard : Claim7 := { stood := { row := archiveFreshUptoRow, standIns := [], harness := (true, "a073b7c79cdb155d34bba01f8894cb7932ec0bf659fd2c94258c99c669307fc9"), looks := true }, kinds := [], alts := [], laidByText := true, laidKinds := [.data, .data, .pinned], laidTests := true, laidLooks := .later }
def ArchiveFreshUptoCardSaid : Prop := Claim7.holds Tryd.pinned (.plain (OpenSpec.upto archiveFreshSpec)) archiveFreshUptoCard

/-- THE SECOND FORM's CARD OF 'furrowlaw23.ShipRooms'. -/
def shipRoomsUptoCard : Claim7 := { stood := { row := shipRoomsUptoRow, standIns := [], harness := (true, "a073b7c79cdb155d34bba01f8894cb7932ec0bf659fd2c94258c99c669307fc9"), looks := true }, kinds := [], alts := [], laidByText := true, laidKinds := [.data, .data, .funcs, .pinned], laidTests := true, laidLooks := .later }
def ShipRoomsUptoCardSaid : Prop := Claim7.holds Tryd.pinned (.plain (OpenSpec.upto shipRoomsSpec)) shipRoomsUptoCard
end Rows
end Go.Proofs.YtlecpjfggoehdaaDoor
