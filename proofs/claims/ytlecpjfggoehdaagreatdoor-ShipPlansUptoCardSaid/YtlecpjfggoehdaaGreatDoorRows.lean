/-
  NARROWER THAN 'FOR EVERY INPUT', by the rows' own cells (each row's printed sentence says how): ShipPlans: laid.
  DERIVED. THE GIVEN ROWS OF THIS SEAT. 1 by the template 'for every input the law returns true; each argument reads behind the call as it read before'; 0 by the template 'total and deterministic' (their statements: YtlecpjfggoehdaaGreatDoorTotals.lean).
  GIVEN WITH THE SEED: the statements are not yours to turn. If you find one false, say at which input.
  Laid BY PROGRAM, IN A SANDBOX (cutbox-rows.mjs): the forced cells as the released guide's own fill.sh prints them over the translation 6e8d43c5cbf4be24… (all of the seat's roots in one cut). By AI agents, Wed Nov 11 2026. No macro, syntax, notation, axiom, sorry.
-/
import Derived.Test.YtlecpjfggoehdaaGreatDoorChecked
import GoSem.PinnedTables
import GoSem.Claim
import GoSem.ClaimJoined
import GoSem.ClaimMapViews
import Derived.JoinedTies
import Derived.KernelRfl
namespace Go.Proofs.YtlecpjfggoehdaaGreatDoor
/- THE CELL 'sum', in the pinned program and in every row, IS THE sha256 OF THE DUMP (.gsa) THAT YtlecpjfggoehdaaGreatDoorProg.lean LOADS. Nothing in Lean hashes anything: it is a label: what it is worth is what the hold of that sum in a sandbox is worth. -/
noncomputable def Tryz.pinned : Pinned := { name := "ytlecpjfggoehdaagreatdoor", sum := "6e8d43c5cbf4be2403414db27c022b2969edf694b6412d8ece7da6663db09279", checked := Tryz.checked }
namespace Rows
def none {H : Type} : Left H := { results := [], args := [] }

/- WHAT THE LISTED PACKAGE-LEVEL VARIABLES READ AS WHEN THE CALL BEGINS. Each datum BY PROGRAM (the guide's laid-datum.mjs) off the statement by which the dump's own 'gosem.cut.vars' lays the variable. In a bare row this is a premise. The card (YtlecpjfggoehdaaGreatDoorCards.lean) ties it to the program's text. -/
def laid_unicode_utf8_acceptRanges {H : Type} : DataW H := .agg [.agg [.lit (.int .u8 128), .lit (.int .u8 191)], .agg [.lit (.int .u8 160), .lit (.int .u8 191)], .agg [.lit (.int .u8 128), .lit (.int .u8 159)], .agg [.lit (.int .u8 144), .lit (.int .u8 191)], .agg [.lit (.int .u8 128), .lit (.int .u8 143)], .agg [.lit (.int .u8 0), .lit (.int .u8 0)], .agg [.lit (.int .u8 0), .lit (.int .u8 0)], .agg [.lit (.int .u8 0), .lit (.int .u8 0)], .agg [.lit (.int .u8 0), .lit (.int .u8 0)], .agg [.lit (.int .u8 0), .lit (.int .u8 0)], .agg [.lit (.int .u8 0), .lit (.int .u8 0)], .agg [.lit (.int .u8 0), .lit (.int .u8 0)], .agg [.lit (.int .u8 0), .lit (.int .u8 0)], .agg [.lit (.int .u8 0), .lit (.int .u8 0)], .agg [.lit (.int .u8 0), .lit (.int .u8 0)], .agg [.lit (.int .u8 0), .lit (.int .u8 0)]]
def laid_furrow_codec_steps {H : Type} : DataW H := .agg [.lit (.int .u32 0), .lit (.int .u32 498536548), .lit (.int .u32 997073096), .lit (.int .u32 651767980), .lit (.int .u32 1994146192), .lit (.int .u32 1802195444), .lit (.int .u32 1303535960), .lit (.int .u32 1342533948), .lit (.int .u32 3988292384), .lit (.int .u32 4027552580), .lit (.int .u32 3604390888), .lit (.int .u32 3412177804), .lit (.int .u32 2607071920), .lit (.int .u32 2262029012), .lit (.int .u32 2685067896), .lit (.int .u32 3183342108)]
def laid_furrow_ship_rules {H : Type} : DataW H := .iface "func table" (.agg [.agg [.lit (.int .i64 0), .nil, .lit (.bool false)], .agg [.lit (.int .i64 6), .iface "func" (.lit (.string [102, 117, 114, 114, 111, 119, 47, 115, 104, 105, 112, 46, 114, 117, 108, 101, 115, 36, 50])), .lit (.bool true)], .agg [.lit (.int .i64 7), .iface "func" (.lit (.string [102, 117, 114, 114, 111, 119, 47, 115, 104, 105, 112, 46, 114, 117, 108, 101, 115, 36, 49])), .lit (.bool false)], .agg [.lit (.int .i64 6), .iface "func" (.lit (.string [102, 117, 114, 114, 111, 119, 47, 115, 104, 105, 112, 46, 114, 117, 108, 101, 115, 36, 51])), .lit (.bool false)]])
/-- One of Go's own tables, pinned by name: the form's constant. -/
def laid_unicode_utf8_first : DataW Unit := Go.Pinned.utf8First

/-- 'furrowlaw23.ShipPlans': WHATEVER THE INPUT: true; the input reads as it did. -/
def shipPlansSpec : ChangeSpec := { name := "shipPlans", fn := fun _ => fun
  | [d1, d2] => { results := [.lit (.bool true)], args := [d1, d2] }
  | _ => none }
def shipPlansRow : OpenClaim := { program := "ytlecpjfggoehdaagreatdoor", sum := "6e8d43c5cbf4be2403414db27c022b2969edf694b6412d8ece7da6663db09279", func := "furrow/furrowlaw23.ShipPlans", spec := "shipPlans", inPlace := ["internal/bytealg.CountString", "internal/bytealg.IndexByteString", "internal/bytealg.IndexString", "internal/abi.NoEscape", "internal/bytealg.MakeNoZero"], unfollowed := true, recurses := true, named := ["furrow/codec.steps", "unicode/utf8.first", "unicode/utf8.acceptRanges", "internal/bytealg.MaxLen", "furrow/ship.rules"], apart := false, laid := [("unicode/utf8.acceptRanges", laid_unicode_utf8_acceptRanges), ("furrow/codec.steps", laid_furrow_codec_steps), ("furrow/ship.rules", laid_furrow_ship_rules), ("unicode/utf8.first", laid_unicode_utf8_first)] }
def ShipPlansSaid : Prop := shipPlansRow.holds Tryz.pinned (OpenSpec.ofChange shipPlansSpec)

/-- ITS FALSE NEIGHBOUR: 'it returns false'. Refute it at one input. -/
def shipPlansWrong : ChangeSpec := { name := "shipPlans", fn := fun _ => fun
  | [d1, d2] => { results := [.lit (.bool false)], args := [d1, d2] }
  | _ => none }
def ShipPlansWrongFalsely : Prop := shipPlansRow.holds Tryz.pinned (OpenSpec.ofChange shipPlansWrong)

/- THE SECOND FORM. 'bulk': how many values and letters a reading holds, each counted each time it is reached (what is shared counts as often as it is met; a slice's spare places count too). A statement '..UptoSaid' is the law's where the arguments, and the package variables that the reading takes, are together of bulk at most 1048576: NARROWER than '..Said'. Prove '..Said' where nothing that the law and all that it calls make is longer than what came in: it says more and counts as full. Else prove '..UptoSaid'. A law counts once. -/
mutual
def uptoBulk {H : Type} : DataW H → Nat
  | .lit (.string bytes) => bytes.length + 1
  | .lit _ => 1
  | .nil => 1
  | .ptr d => uptoBulk d + 1
  | .slice elems spare => uptoBulkAll elems + uptoBulkAll spare + 1
  | .agg parts => uptoBulkAll parts + 1
  | .iface _ d => uptoBulk d + 1
  | .map entries => uptoBulkEntries entries + 1
  | .held _ => 1
def uptoBulkAll {H : Type} : List (DataW H) → Nat
  | [] => 0
  | d :: r => uptoBulk d + uptoBulkAll r
def uptoBulkEntries {H : Type} : List (Lit × DataW H) → Nat
  | [] => 0
  | x :: r => uptoBulkEntry x + uptoBulkEntries r
def uptoBulkEntry {H : Type} : Lit × DataW H → Nat
  | (.string bytes, d) => bytes.length + uptoBulk d + 1
  | (_, d) => uptoBulk d + 1
 end
def uptoSmall : (H : Type) → List (DataW H) → Bool := fun _ ds => decide (uptoBulkAll ds ≤ 1048576)
def OpenSpec.upto (s : _root_.Go.ChangeSpec) : _root_.Go.OpenSpec := { _root_.Go.OpenSpec.ofChange s with cond := some uptoSmall }

/-- 'furrowlaw23.ShipPlans', WHERE WHAT IT READS IS OF BULK AT MOST 1048576: true; the input reads as it did. -/
def shipPlansUptoRow : OpenClaim := { program := "ytlecpjfggoehdaagreatdoor", sum := "6e8d43c5cbf4be2403414db27c022b2969edf694b6412d8ece7da6663db09279", func := "furrow/furrowlaw23.ShipPlans", spec := "shipPlans", inPlace := ["internal/bytealg.CountString", "internal/bytealg.IndexByteString", "internal/bytealg.IndexString", "internal/abi.NoEscape", "internal/bytealg.MakeNoZero"], unfollowed := true, recurses := true, named := ["furrow/codec.steps", "unicode/utf8.first", "unicode/utf8.acceptRanges", "internal/bytealg.MaxLen", "furrow/ship.rules"], apart := false, laid := [("unicode/utf8.acceptRanges", laid_unicode_utf8_acceptRanges), ("furrow/codec.steps", laid_furrow_codec_steps), ("furrow/ship.rules", laid_furrow_ship_rules), ("unicode/utf8.first", laid_unicode_utf8_first)], narrowed := true }
def ShipPlansUptoSaid : Prop := shipPlansUptoRow.holds Tryz.pinned (OpenSpec.upto shipPlansSpec)

end Rows
end Go.Proofs.YtlecpjfggoehdaaGreatDoor
