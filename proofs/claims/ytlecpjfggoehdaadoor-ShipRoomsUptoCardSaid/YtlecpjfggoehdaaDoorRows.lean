/-
  NARROWER THAN 'FOR EVERY INPUT', by the rows' own cells (each row's printed sentence says how): RunStates: laid · ArchiveMakes: laid · ArchiveOpens: laid · ArchiveBack: laid · ArchiveTold: laid · ArchiveWhole: laid · ArchiveFresh: laid · ShipRooms: laid.
  DERIVED. THE GIVEN ROWS OF THIS SEAT. 8 by the template 'for every input the law returns true; each argument reads behind the call as it read before'; 0 by the template 'total and deterministic' (their statements: YtlecpjfggoehdaaDoorTotals.lean).
  GIVEN WITH THE SEED: the statements are not yours to turn. If you find one false, say at which input.
  Laid BY PROGRAM, IN A SANDBOX (cutbox-rows.mjs): the forced cells as the released guide's own fill.sh prints them over the translation fe8760806c31fb47… (all of the seat's roots in one cut). By AI agents, Wed Nov 11 2026. No macro, syntax, notation, axiom, sorry.
-/
import Derived.Test.YtlecpjfggoehdaaDoorChecked
import GoSem.PinnedTables
import GoSem.Claim
import GoSem.ClaimJoined
import GoSem.ClaimMapViews
import Derived.JoinedTies
import Derived.KernelRfl
namespace Go.Proofs.YtlecpjfggoehdaaDoor
/- THE CELL 'sum', in the pinned program and in every row, IS THE sha256 OF THE DUMP (.gsa) THAT YtlecpjfggoehdaaDoorProg.lean LOADS. Nothing in Lean hashes anything: it is a label: what it is worth is what the hold of that sum in a sandbox is worth. -/
noncomputable def Tryd.pinned : Pinned := { name := "ytlecpjfggoehdaadoor", sum := "fe8760806c31fb47dda0ae969b682d3be6b3baf39c769879edc164728da82c38", checked := Tryd.checked }
namespace Rows
def none {H : Type} : Left H := { results := [], args := [] }

/- WHAT THE LISTED PACKAGE-LEVEL VARIABLES READ AS WHEN THE CALL BEGINS. Each datum BY PROGRAM (the guide's laid-datum.mjs) off the statement by which the dump's own 'gosem.cut.vars' lays the variable. In a bare row this is a premise. The card (YtlecpjfggoehdaaDoorCards.lean) ties it to the program's text. -/
def laid_math_bits_deBruijn32tab {H : Type} : DataW H := .agg [.lit (.int .u8 0), .lit (.int .u8 1), .lit (.int .u8 28), .lit (.int .u8 2), .lit (.int .u8 29), .lit (.int .u8 14), .lit (.int .u8 24), .lit (.int .u8 3), .lit (.int .u8 30), .lit (.int .u8 22), .lit (.int .u8 20), .lit (.int .u8 15), .lit (.int .u8 25), .lit (.int .u8 17), .lit (.int .u8 4), .lit (.int .u8 8), .lit (.int .u8 31), .lit (.int .u8 27), .lit (.int .u8 13), .lit (.int .u8 23), .lit (.int .u8 21), .lit (.int .u8 19), .lit (.int .u8 16), .lit (.int .u8 7), .lit (.int .u8 26), .lit (.int .u8 12), .lit (.int .u8 18), .lit (.int .u8 6), .lit (.int .u8 11), .lit (.int .u8 5), .lit (.int .u8 10), .lit (.int .u8 9)]
def laid_math_bits_deBruijn64tab {H : Type} : DataW H := .agg [.lit (.int .u8 0), .lit (.int .u8 1), .lit (.int .u8 56), .lit (.int .u8 2), .lit (.int .u8 57), .lit (.int .u8 49), .lit (.int .u8 28), .lit (.int .u8 3), .lit (.int .u8 61), .lit (.int .u8 58), .lit (.int .u8 42), .lit (.int .u8 50), .lit (.int .u8 38), .lit (.int .u8 29), .lit (.int .u8 17), .lit (.int .u8 4), .lit (.int .u8 62), .lit (.int .u8 47), .lit (.int .u8 59), .lit (.int .u8 36), .lit (.int .u8 45), .lit (.int .u8 43), .lit (.int .u8 51), .lit (.int .u8 22), .lit (.int .u8 53), .lit (.int .u8 39), .lit (.int .u8 33), .lit (.int .u8 30), .lit (.int .u8 24), .lit (.int .u8 18), .lit (.int .u8 12), .lit (.int .u8 5), .lit (.int .u8 63), .lit (.int .u8 55), .lit (.int .u8 48), .lit (.int .u8 27), .lit (.int .u8 60), .lit (.int .u8 41), .lit (.int .u8 37), .lit (.int .u8 16), .lit (.int .u8 46), .lit (.int .u8 35), .lit (.int .u8 44), .lit (.int .u8 21), .lit (.int .u8 52), .lit (.int .u8 32), .lit (.int .u8 23), .lit (.int .u8 11), .lit (.int .u8 54), .lit (.int .u8 26), .lit (.int .u8 40), .lit (.int .u8 15), .lit (.int .u8 34), .lit (.int .u8 20), .lit (.int .u8 31), .lit (.int .u8 10), .lit (.int .u8 25), .lit (.int .u8 14), .lit (.int .u8 19), .lit (.int .u8 9), .lit (.int .u8 13), .lit (.int .u8 8), .lit (.int .u8 7), .lit (.int .u8 6)]
def laid_internal_strconv_uint64pow10 {H : Type} : DataW H := .agg [.lit (.int .u64 1), .lit (.int .u64 10), .lit (.int .u64 100), .lit (.int .u64 1000), .lit (.int .u64 10000), .lit (.int .u64 100000), .lit (.int .u64 1000000), .lit (.int .u64 10000000), .lit (.int .u64 100000000), .lit (.int .u64 1000000000), .lit (.int .u64 10000000000), .lit (.int .u64 100000000000), .lit (.int .u64 1000000000000), .lit (.int .u64 10000000000000), .lit (.int .u64 100000000000000), .lit (.int .u64 1000000000000000), .lit (.int .u64 10000000000000000), .lit (.int .u64 100000000000000000), .lit (.int .u64 1000000000000000000), .lit (.int .u64 10000000000000000000)]
def laid_furrow_run_kinds {H : Type} : DataW H := .agg [.lit (.string [102, 114, 101, 101]), .lit (.string [102, 105, 108, 101]), .lit (.string [100, 105, 114])]
def laid_unicode_utf8_acceptRanges {H : Type} : DataW H := .agg [.agg [.lit (.int .u8 128), .lit (.int .u8 191)], .agg [.lit (.int .u8 160), .lit (.int .u8 191)], .agg [.lit (.int .u8 128), .lit (.int .u8 159)], .agg [.lit (.int .u8 144), .lit (.int .u8 191)], .agg [.lit (.int .u8 128), .lit (.int .u8 143)], .agg [.lit (.int .u8 0), .lit (.int .u8 0)], .agg [.lit (.int .u8 0), .lit (.int .u8 0)], .agg [.lit (.int .u8 0), .lit (.int .u8 0)], .agg [.lit (.int .u8 0), .lit (.int .u8 0)], .agg [.lit (.int .u8 0), .lit (.int .u8 0)], .agg [.lit (.int .u8 0), .lit (.int .u8 0)], .agg [.lit (.int .u8 0), .lit (.int .u8 0)], .agg [.lit (.int .u8 0), .lit (.int .u8 0)], .agg [.lit (.int .u8 0), .lit (.int .u8 0)], .agg [.lit (.int .u8 0), .lit (.int .u8 0)], .agg [.lit (.int .u8 0), .lit (.int .u8 0)]]
def laid_furrow_codec_steps {H : Type} : DataW H := .agg [.lit (.int .u32 0), .lit (.int .u32 498536548), .lit (.int .u32 997073096), .lit (.int .u32 651767980), .lit (.int .u32 1994146192), .lit (.int .u32 1802195444), .lit (.int .u32 1303535960), .lit (.int .u32 1342533948), .lit (.int .u32 3988292384), .lit (.int .u32 4027552580), .lit (.int .u32 3604390888), .lit (.int .u32 3412177804), .lit (.int .u32 2607071920), .lit (.int .u32 2262029012), .lit (.int .u32 2685067896), .lit (.int .u32 3183342108)]
/-- One of Go's own tables, pinned by name: the form's constant. -/
def laid_unicode_utf8_first : DataW Unit := Go.Pinned.utf8First
def laid_furrow_ship_rules {H : Type} : DataW H := .iface "func table" (.agg [.agg [.lit (.int .i64 0), .nil, .lit (.bool false)], .agg [.lit (.int .i64 6), .iface "func" (.lit (.string [102, 117, 114, 114, 111, 119, 47, 115, 104, 105, 112, 46, 114, 117, 108, 101, 115, 36, 50])), .lit (.bool true)], .agg [.lit (.int .i64 7), .iface "func" (.lit (.string [102, 117, 114, 114, 111, 119, 47, 115, 104, 105, 112, 46, 114, 117, 108, 101, 115, 36, 49])), .lit (.bool false)], .agg [.lit (.int .i64 6), .iface "func" (.lit (.string [102, 117, 114, 114, 111, 119, 47, 115, 104, 105, 112, 46, 114, 117, 108, 101, 115, 36, 51])), .lit (.bool false)]])

/-- 'furrowlaw20.RunStates': WHATEVER THE INPUT: true; the input reads as it did. -/
def runStatesSpec : ChangeSpec := { name := "runStates", fn := fun _ => fun
  | [d] => { results := [.lit (.bool true)], args := [d] }
  | _ => none }
def runStatesRow : OpenClaim := { program := "ytlecpjfggoehdaadoor", sum := "fe8760806c31fb47dda0ae969b682d3be6b3baf39c769879edc164728da82c38", func := "furrow/furrowlaw20.RunStates", spec := "runStates", inPlace := ["internal/abi.NoEscape", "internal/bytealg.MakeNoZero"], named := ["internal/strconv.uint64pow10", "math/bits.deBruijn32tab", "math/bits.deBruijn64tab", "furrow/run.kinds"], apart := false, laid := [("math/bits.deBruijn32tab", laid_math_bits_deBruijn32tab), ("math/bits.deBruijn64tab", laid_math_bits_deBruijn64tab), ("internal/strconv.uint64pow10", laid_internal_strconv_uint64pow10), ("furrow/run.kinds", laid_furrow_run_kinds)] }
def RunStatesSaid : Prop := runStatesRow.holds Tryd.pinned (OpenSpec.ofChange runStatesSpec)

/-- ITS FALSE NEIGHBOUR: 'it returns false'. Refute it at one input. -/
def runStatesWrong : ChangeSpec := { name := "runStates", fn := fun _ => fun
  | [d] => { results := [.lit (.bool false)], args := [d] }
  | _ => none }
def RunStatesWrongFalsely : Prop := runStatesRow.holds Tryd.pinned (OpenSpec.ofChange runStatesWrong)

/-- 'furrowlaw21.ArchiveMakes': WHATEVER THE INPUT: true; the input reads as it did. -/
def archiveMakesSpec : ChangeSpec := { name := "archiveMakes", fn := fun _ => fun
  | [d] => { results := [.lit (.bool true)], args := [d] }
  | _ => none }
def archiveMakesRow : OpenClaim := { program := "ytlecpjfggoehdaadoor", sum := "fe8760806c31fb47dda0ae969b682d3be6b3baf39c769879edc164728da82c38", func := "furrow/furrowlaw21.ArchiveMakes", spec := "archiveMakes", inPlace := ["internal/bytealg.CountString", "internal/bytealg.IndexByteString", "internal/bytealg.IndexString", "internal/abi.NoEscape", "internal/bytealg.MakeNoZero"], unfollowed := true, recurses := true, named := ["furrow/codec.steps", "unicode/utf8.first", "unicode/utf8.acceptRanges", "internal/bytealg.MaxLen"], apart := false, laid := [("unicode/utf8.acceptRanges", laid_unicode_utf8_acceptRanges), ("furrow/codec.steps", laid_furrow_codec_steps), ("unicode/utf8.first", laid_unicode_utf8_first)] }
def ArchiveMakesSaid : Prop := archiveMakesRow.holds Tryd.pinned (OpenSpec.ofChange archiveMakesSpec)

/-- ITS FALSE NEIGHBOUR: 'it returns false'. Refute it at one input. -/
def archiveMakesWrong : ChangeSpec := { name := "archiveMakes", fn := fun _ => fun
  | [d] => { results := [.lit (.bool false)], args := [d] }
  | _ => none }
def ArchiveMakesWrongFalsely : Prop := archiveMakesRow.holds Tryd.pinned (OpenSpec.ofChange archiveMakesWrong)

/-- 'furrowlaw21.ArchiveOpens': WHATEVER THE INPUT: true; the input reads as it did. -/
def archiveOpensSpec : ChangeSpec := { name := "archiveOpens", fn := fun _ => fun
  | [d] => { results := [.lit (.bool true)], args := [d] }
  | _ => none }
def archiveOpensRow : OpenClaim := { program := "ytlecpjfggoehdaadoor", sum := "fe8760806c31fb47dda0ae969b682d3be6b3baf39c769879edc164728da82c38", func := "furrow/furrowlaw21.ArchiveOpens", spec := "archiveOpens", inPlace := ["internal/bytealg.CountString", "internal/bytealg.IndexByteString", "internal/bytealg.IndexString", "internal/abi.NoEscape", "internal/bytealg.MakeNoZero"], unfollowed := true, recurses := true, named := ["furrow/codec.steps", "unicode/utf8.first", "unicode/utf8.acceptRanges", "internal/bytealg.MaxLen"], apart := false, laid := [("unicode/utf8.acceptRanges", laid_unicode_utf8_acceptRanges), ("furrow/codec.steps", laid_furrow_codec_steps), ("unicode/utf8.first", laid_unicode_utf8_first)] }
def ArchiveOpensSaid : Prop := archiveOpensRow.holds Tryd.pinned (OpenSpec.ofChange archiveOpensSpec)

/-- ITS FALSE NEIGHBOUR: 'it returns false'. Refute it at one input. -/
def archiveOpensWrong : ChangeSpec := { name := "archiveOpens", fn := fun _ => fun
  | [d] => { results := [.lit (.bool false)], args := [d] }
  | _ => none }
def ArchiveOpensWrongFalsely : Prop := archiveOpensRow.holds Tryd.pinned (OpenSpec.ofChange archiveOpensWrong)

/-- 'furrowlaw21.ArchiveBack': WHATEVER THE INPUT: true; the input reads as it did. -/
def archiveBackSpec : ChangeSpec := { name := "archiveBack", fn := fun _ => fun
  | [d1, d2] => { results := [.lit (.bool true)], args := [d1, d2] }
  | _ => none }
def archiveBackRow : OpenClaim := { program := "ytlecpjfggoehdaadoor", sum := "fe8760806c31fb47dda0ae969b682d3be6b3baf39c769879edc164728da82c38", func := "furrow/furrowlaw21.ArchiveBack", spec := "archiveBack", inPlace := ["internal/bytealg.CountString", "internal/bytealg.IndexByteString", "internal/bytealg.IndexString", "internal/abi.NoEscape", "internal/bytealg.MakeNoZero"], unfollowed := true, recurses := true, named := ["furrow/codec.steps", "unicode/utf8.first", "unicode/utf8.acceptRanges", "internal/bytealg.MaxLen"], apart := false, laid := [("unicode/utf8.acceptRanges", laid_unicode_utf8_acceptRanges), ("furrow/codec.steps", laid_furrow_codec_steps), ("unicode/utf8.first", laid_unicode_utf8_first)] }
def ArchiveBackSaid : Prop := archiveBackRow.holds Tryd.pinned (OpenSpec.ofChange archiveBackSpec)

/-- ITS FALSE NEIGHBOUR: 'it returns false'. Refute it at one input. -/
def archiveBackWrong : ChangeSpec := { name := "archiveBack", fn := fun _ => fun
  | [d1, d2] => { results := [.lit (.bool false)], args := [d1, d2] }
  | _ => none }
def ArchiveBackWrongFalsely : Prop := archiveBackRow.holds Tryd.pinned (OpenSpec.ofChange archiveBackWrong)

/-- 'furrowlaw21.ArchiveTold': WHATEVER THE INPUT: true; the input reads as it did. -/
def archiveToldSpec : ChangeSpec := { name := "archiveTold", fn := fun _ => fun
  | [d1, d2, d3] => { results := [.lit (.bool true)], args := [d1, d2, d3] }
  | _ => none }
def archiveToldRow : OpenClaim := { program := "ytlecpjfggoehdaadoor", sum := "fe8760806c31fb47dda0ae969b682d3be6b3baf39c769879edc164728da82c38", func := "furrow/furrowlaw21.ArchiveTold", spec := "archiveTold", inPlace := ["internal/bytealg.CountString", "internal/bytealg.IndexByteString", "internal/bytealg.IndexString", "internal/abi.NoEscape", "internal/bytealg.MakeNoZero"], unfollowed := true, recurses := true, named := ["furrow/codec.steps", "unicode/utf8.first", "unicode/utf8.acceptRanges", "internal/bytealg.MaxLen"], apart := false, laid := [("unicode/utf8.acceptRanges", laid_unicode_utf8_acceptRanges), ("furrow/codec.steps", laid_furrow_codec_steps), ("unicode/utf8.first", laid_unicode_utf8_first)] }
def ArchiveToldSaid : Prop := archiveToldRow.holds Tryd.pinned (OpenSpec.ofChange archiveToldSpec)

/-- ITS FALSE NEIGHBOUR: 'it returns false'. Refute it at one input. -/
def archiveToldWrong : ChangeSpec := { name := "archiveTold", fn := fun _ => fun
  | [d1, d2, d3] => { results := [.lit (.bool false)], args := [d1, d2, d3] }
  | _ => none }
def ArchiveToldWrongFalsely : Prop := archiveToldRow.holds Tryd.pinned (OpenSpec.ofChange archiveToldWrong)

/-- 'furrowlaw21.ArchiveWhole': WHATEVER THE INPUT: true; the input reads as it did. -/
def archiveWholeSpec : ChangeSpec := { name := "archiveWhole", fn := fun _ => fun
  | [d1, d2, d3] => { results := [.lit (.bool true)], args := [d1, d2, d3] }
  | _ => none }
def archiveWholeRow : OpenClaim := { program := "ytlecpjfggoehdaadoor", sum := "fe8760806c31fb47dda0ae969b682d3be6b3baf39c769879edc164728da82c38", func := "furrow/furrowlaw21.ArchiveWhole", spec := "archiveWhole", inPlace := ["internal/bytealg.CountString", "internal/bytealg.IndexByteString", "internal/bytealg.IndexString", "internal/abi.NoEscape", "internal/bytealg.MakeNoZero"], unfollowed := true, recurses := true, named := ["furrow/codec.steps", "unicode/utf8.first", "unicode/utf8.acceptRanges", "internal/bytealg.MaxLen"], apart := false, laid := [("unicode/utf8.acceptRanges", laid_unicode_utf8_acceptRanges), ("furrow/codec.steps", laid_furrow_codec_steps), ("unicode/utf8.first", laid_unicode_utf8_first)] }
def ArchiveWholeSaid : Prop := archiveWholeRow.holds Tryd.pinned (OpenSpec.ofChange archiveWholeSpec)

/-- ITS FALSE NEIGHBOUR: 'it returns false'. Refute it at one input. -/
def archiveWholeWrong : ChangeSpec := { name := "archiveWhole", fn := fun _ => fun
  | [d1, d2, d3] => { results := [.lit (.bool false)], args := [d1, d2, d3] }
  | _ => none }
def ArchiveWholeWrongFalsely : Prop := archiveWholeRow.holds Tryd.pinned (OpenSpec.ofChange archiveWholeWrong)

/-- 'furrowlaw21.ArchiveFresh': WHATEVER THE INPUT: true; the input reads as it did. -/
def archiveFreshSpec : ChangeSpec := { name := "archiveFresh", fn := fun _ => fun
  | [d] => { results := [.lit (.bool true)], args := [d] }
  | _ => none }
def archiveFreshRow : OpenClaim := { program := "ytlecpjfggoehdaadoor", sum := "fe8760806c31fb47dda0ae969b682d3be6b3baf39c769879edc164728da82c38", func := "furrow/furrowlaw21.ArchiveFresh", spec := "archiveFresh", inPlace := ["internal/bytealg.CountString", "internal/bytealg.IndexByteString", "internal/bytealg.IndexString", "internal/abi.NoEscape", "internal/bytealg.MakeNoZero"], unfollowed := true, recurses := true, named := ["furrow/codec.steps", "unicode/utf8.first", "unicode/utf8.acceptRanges", "internal/bytealg.MaxLen"], apart := false, laid := [("unicode/utf8.acceptRanges", laid_unicode_utf8_acceptRanges), ("furrow/codec.steps", laid_furrow_codec_steps), ("unicode/utf8.first", laid_unicode_utf8_first)] }
def ArchiveFreshSaid : Prop := archiveFreshRow.holds Tryd.pinned (OpenSpec.ofChange archiveFreshSpec)

/-- ITS FALSE NEIGHBOUR: 'it returns false'. Refute it at one input. -/
def archiveFreshWrong : ChangeSpec := { name := "archiveFresh", fn := fun _ => fun
  | [d] => { results := [.lit (.bool false)], args := [d] }
  | _ => none }
def ArchiveFreshWrongFalsely : Prop := archiveFreshRow.holds Tryd.pinned (OpenSpec.ofChange archiveFreshWrong)

/-- 'furrowlaw23.ShipRooms': WHATEVER THE INPUT: true; the input reads as it did. -/
def shipRoomsSpec : ChangeSpec := { name := "shipRooms", fn := fun _ => fun
  | [d] => { results := [.lit (.bool true)], args := [d] }
  | _ => none }
def shipRoomsRow : OpenClaim := { program := "ytlecpjfggoehdaadoor", sum := "fe8760806c31fb47dda0ae969b682d3be6b3baf39c769879edc164728da82c38", func := "furrow/furrowlaw23.ShipRooms", spec := "shipRooms", inPlace := ["internal/bytealg.CountString", "internal/bytealg.IndexByteString", "internal/bytealg.IndexString", "internal/abi.NoEscape", "internal/bytealg.MakeNoZero"], unfollowed := true, recurses := true, named := ["furrow/codec.steps", "unicode/utf8.first", "unicode/utf8.acceptRanges", "internal/bytealg.MaxLen", "furrow/ship.rules"], apart := false, laid := [("unicode/utf8.acceptRanges", laid_unicode_utf8_acceptRanges), ("furrow/codec.steps", laid_furrow_codec_steps), ("furrow/ship.rules", laid_furrow_ship_rules), ("unicode/utf8.first", laid_unicode_utf8_first)] }
def ShipRoomsSaid : Prop := shipRoomsRow.holds Tryd.pinned (OpenSpec.ofChange shipRoomsSpec)

/-- ITS FALSE NEIGHBOUR: 'it returns false'. Refute it at one input. -/
def shipRoomsWrong : ChangeSpec := { name := "shipRooms", fn := fun _ => fun
  | [d] => { results := [.lit (.bool false)], args := [d] }
  | _ => none }
def ShipRoomsWrongFalsely : Prop := shipRoomsRow.holds Tryd.pinned (OpenSpec.ofChange shipRoomsWrong)

/- THE SECOND FORM. 'bulk': how many values and letters a reading holds, each counted each time it is reached (what is shared counts as often as it is met; a slice's spare places count too). A statement '..UptoSaid' is the law's where the arguments, and the package variables that the reading takes, are together of bulk at most 1048576: NARROWER than '..Said'. Prove '..Said' where nothing that the law and all that it calls make is longer than what came in: it says more and counts as full. Else prove '..UptoSaid'. A law counts once. -/
mutual
def uptoBulk {H : Type} : DataW H → Nat
  | .lit (.string bytes) => bytes.length + 1
  | .lit _ => 1
  | .nil => 1
  | .ptr d => uptoBulk d + 1
  | .slice elems spare => uptoBulkAll elems + uptoBulkAll spare + 1
  | .agg parts => uptoBulkAll parts + 1
  | .iface _ d => uptoBulk d + 1
  | .map entries => uptoBulkEntries entries + 1
  | .held _ => 1
def uptoBulkAll {H : Type} : List (DataW H) → Nat
  | [] => 0
  | d :: r => uptoBulk d + uptoBulkAll r
def uptoBulkEntries {H : Type} : List (Lit × DataW H) → Nat
  | [] => 0
  | x :: r => uptoBulkEntry x + uptoBulkEntries r
def uptoBulkEntry {H : Type} : Lit × DataW H → Nat
  | (.string bytes, d) => bytes.length + uptoBulk d + 1
  | (_, d) => uptoBulk d + 1
 end
def uptoSmall : (H : Type) → List (DataW H) → Bool := fun _ ds => decide (uptoBulkAll ds ≤ 1048576)
def OpenSpec.upto (s : _root_.Go.ChangeSpec) : _root_.Go.OpenSpec := { _root_.Go.OpenSpec.ofChange s with cond := some uptoSmall }

/-- 'furrowlaw20.RunStates', WHERE WHAT IT READS IS OF BULK AT MOST 1048576: true; the input reads as it did. -/
def runStatesUptoRow : OpenClaim := { program := "ytlecpjfggoehdaadoor", sum := "fe8760806c31fb47dda0ae969b682d3be6b3baf39c769879edc164728da82c38", func := "furrow/furrowlaw20.RunStates", spec := "runStates", inPlace := ["internal/abi.NoEscape", "internal/bytealg.MakeNoZero"], named := ["internal/strconv.uint64pow10", "math/bits.deBruijn32tab", "math/bits.deBruijn64tab", "furrow/run.kinds"], apart := false, laid := [("math/bits.deBruijn32tab", laid_math_bits_deBruijn32tab), ("math/bits.deBruijn64tab", laid_math_bits_deBruijn64tab), ("internal/strconv.uint64pow10", laid_internal_strconv_uint64pow10), ("furrow/run.kinds", laid_furrow_run_kinds)], narrowed := true }
def RunStatesUptoSaid : Prop := runStatesUptoRow.holds Tryd.pinned (OpenSpec.upto runStatesSpec)

/-- 'furrowlaw21.ArchiveMakes', WHERE WHAT IT READS IS OF BULK AT MOST 1048576: true; the input reads as it did. -/
def archiveMakesUptoRow : OpenClaim := { program := "ytlecpjfggoehdaadoor", sum := "fe8760806c31fb47dda0ae969b682d3be6b3baf39c769879edc164728da82c38", func := "furrow/furrowlaw21.ArchiveMakes", spec := "archiveMakes", inPlace := ["internal/bytealg.CountString", "internal/bytealg.IndexByteString", "internal/bytealg.IndexString", "internal/abi.NoEscape", "internal/bytealg.MakeNoZero"], unfollowed := true, recurses := true, named := ["furrow/codec.steps", "unicode/utf8.first", "unicode/utf8.acceptRanges", "internal/bytealg.MaxLen"], apart := false, laid := [("unicode/utf8.acceptRanges", laid_unicode_utf8_acceptRanges), ("furrow/codec.steps", laid_furrow_codec_steps), ("unicode/utf8.first", laid_unicode_utf8_first)], narrowed := true }
def ArchiveMakesUptoSaid : Prop := archiveMakesUptoRow.holds Tryd.pinned (OpenSpec.upto archiveMakesSpec)

/-- 'furrowlaw21.ArchiveOpens', WHERE WHAT IT READS IS OF BULK AT MOST 1048576: true; the input reads as it did. -/
def archiveOpensUptoRow : OpenClaim := { program := "ytlecpjfggoehdaadoor", sum := "fe8760806c31fb47dda0ae969b682d3be6b3baf39c769879edc164728da82c38", func := "furrow/furrowlaw21.ArchiveOpens", spec := "archiveOpens", inPlace := ["internal/bytealg.CountString", "internal/bytealg.IndexByteString", "internal/bytealg.IndexString", "internal/abi.NoEscape", "internal/bytealg.MakeNoZero"], unfollowed := true, recurses := true, named := ["furrow/codec.steps", "unicode/utf8.first", "unicode/utf8.acceptRanges", "internal/bytealg.MaxLen"], apart := false, laid := [("unicode/utf8.acceptRanges", laid_unicode_utf8_acceptRanges), ("furrow/codec.steps", laid_furrow_codec_steps), ("unicode/utf8.first", laid_unicode_utf8_first)], narrowed := true }
def ArchiveOpensUptoSaid : Prop := archiveOpensUptoRow.holds Tryd.pinned (OpenSpec.upto archiveOpensSpec)

/-- 'furrowlaw21.ArchiveBack', WHERE WHAT IT READS IS OF BULK AT MOST 1048576: true; the input reads as it did. -/
def archiveBackUptoRow : OpenClaim := { program := "ytlecpjfggoehdaadoor", sum := "fe8760806c31fb47dda0ae969b682d3be6b3baf39c769879edc164728da82c38", func := "furrow/furrowlaw21.ArchiveBack", spec := "archiveBack", inPlace := ["internal/bytealg.CountString", "internal/bytealg.IndexByteString", "internal/bytealg.IndexString", "internal/abi.NoEscape", "internal/bytealg.MakeNoZero"], unfollowed := true, recurses := true, named := ["furrow/codec.steps", "unicode/utf8.first", "unicode/utf8.acceptRanges", "internal/bytealg.MaxLen"], apart := false, laid := [("unicode/utf8.acceptRanges", laid_unicode_utf8_acceptRanges), ("furrow/codec.steps", laid_furrow_codec_steps), ("unicode/utf8.first", laid_unicode_utf8_first)], narrowed := true }
def ArchiveBackUptoSaid : Prop := archiveBackUptoRow.holds Tryd.pinned (OpenSpec.upto archiveBackSpec)

/-- 'furrowlaw21.ArchiveTold', WHERE WHAT IT READS IS OF BULK AT MOST 1048576: true; the input reads as it did. -/
def archiveToldUptoRow : OpenClaim := { program := "ytlecpjfggoehdaadoor", sum := "fe8760806c31fb47dda0ae969b682d3be6b3baf39c769879edc164728da82c38", func := "furrow/furrowlaw21.ArchiveTold", spec := "archiveTold", inPlace := ["internal/bytealg.CountString", "internal/bytealg.IndexByteString", "internal/bytealg.IndexString", "internal/abi.NoEscape", "internal/bytealg.MakeNoZero"], unfollowed := true, recurses := true, named := ["furrow/codec.steps", "unicode/utf8.first", "unicode/utf8.acceptRanges", "internal/bytealg.MaxLen"], apart := false, laid := [("unicode/utf8.acceptRanges", laid_unicode_utf8_acceptRanges), ("furrow/codec.steps", laid_furrow_codec_steps), ("unicode/utf8.first", laid_unicode_utf8_first)], narrowed := true }
def ArchiveToldUptoSaid : Prop := archiveToldUptoRow.holds Tryd.pinned (OpenSpec.upto archiveToldSpec)

/-- 'furrowlaw21.ArchiveWhole', WHERE WHAT IT READS IS OF BULK AT MOST 1048576: true; the input reads as it did. -/
def archiveWholeUptoRow : OpenClaim := { program := "ytlecpjfggoehdaadoor", sum := "fe8760806c31fb47dda0ae969b682d3be6b3baf39c769879edc164728da82c38", func := "furrow/furrowlaw21.ArchiveWhole", spec := "archiveWhole", inPlace := ["internal/bytealg.CountString", "internal/bytealg.IndexByteString", "internal/bytealg.IndexString", "internal/abi.NoEscape", "internal/bytealg.MakeNoZero"], unfollowed := true, recurses := true, named := ["furrow/codec.steps", "unicode/utf8.first", "unicode/utf8.acceptRanges", "internal/bytealg.MaxLen"], apart := false, laid := [("unicode/utf8.acceptRanges", laid_unicode_utf8_acceptRanges), ("furrow/codec.steps", laid_furrow_codec_steps), ("unicode/utf8.first", laid_unicode_utf8_first)], narrowed := true }
def ArchiveWholeUptoSaid : Prop := archiveWholeUptoRow.holds Tryd.pinned (OpenSpec.upto archiveWholeSpec)

/-- 'furrowlaw21.ArchiveFresh', WHERE WHAT IT READS IS OF BULK AT MOST 1048576: true; the input reads as it did. -/
def archiveFreshUptoRow : OpenClaim := { program := "ytlecpjfggoehdaadoor", sum := "fe8760806c31fb47dda0ae969b682d3be6b3baf39c769879edc164728da82c38", func := "furrow/furrowlaw21.ArchiveFresh", spec := "archiveFresh", inPlace := ["internal/bytealg.CountString", "internal/bytealg.IndexByteString", "internal/bytealg.IndexString", "internal/abi.NoEscape", "internal/bytealg.MakeNoZero"], unfollowed := true, recurses := true, named := ["furrow/codec.steps", "unicode/utf8.first", "unicode/utf8.acceptRanges", "internal/bytealg.MaxLen"], apart := false, laid := [("unicode/utf8.acceptRanges", laid_unicode_utf8_acceptRanges), ("furrow/codec.steps", laid_furrow_codec_steps), ("unicode/utf8.first", laid_unicode_utf8_first)], narrowed := true }
def ArchiveFreshUptoSaid : Prop := archiveFreshUptoRow.holds Tryd.pinned (OpenSpec.upto archiveFreshSpec)

/-- 'furrowlaw23.ShipRooms', WHERE WHAT IT READS IS OF BULK AT MOST 1048576: true; the input reads as it did. -/
def shipRoomsUptoRow : OpenClaim := { program := "ytlecpjfggoehdaadoor", sum := "fe8760806c31fb47dda0ae969b682d3be6b3baf39c769879edc164728da82c38", func := "furrow/furrowlaw23.ShipRooms", spec := "shipRooms", inPlace := ["internal/bytealg.CountString", "internal/bytealg.IndexByteString", "internal/bytealg.IndexString", "internal/abi.NoEscape", "internal/bytealg.MakeNoZero"], unfollowed := true, recurses := true, named := ["furrow/codec.steps", "unicode/utf8.first", "unicode/utf8.acceptRanges", "internal/bytealg.MaxLen", "furrow/ship.rules"], apart := false, laid := [("unicode/utf8.acceptRanges", laid_unicode_utf8_acceptRanges), ("furrow/codec.steps", laid_furrow_codec_steps), ("furrow/ship.rules", laid_furrow_ship_rules), ("unicode/utf8.first", laid_unicode_utf8_first)], narrowed := true }
def ShipRoomsUptoSaid : Prop := shipRoomsUptoRow.holds Tryd.pinned (OpenSpec.upto shipRoomsSpec)

end Rows
end Go.Proofs.YtlecpjfggoehdaaDoor
