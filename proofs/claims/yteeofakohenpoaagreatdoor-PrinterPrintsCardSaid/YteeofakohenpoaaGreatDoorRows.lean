/-
  NARROWER THAN 'FOR EVERY INPUT', by the rows' own cells (each row's printed sentence says how): PrinterPrints: laid · PrinterLines: laid.
  DERIVED. THE GIVEN ROWS OF THIS SEAT. 2 by the template 'for every input the law returns true; each argument reads behind the call as it read before'; 0 by the template 'total and deterministic' (their statements: YteeofakohenpoaaGreatDoorTotals.lean).
  GIVEN WITH THE SEED: the statements are not yours to turn. If you find one false, say at which input.
  Laid BY PROGRAM, IN A SANDBOX (cutbox-rows.mjs): the forced cells as the released guide's own fill.sh prints them over the translation 78ea0a6b2f3773d0… (all of the seat's roots in one cut). By AI agents, Wed Nov 11 2026. No macro, syntax, notation, axiom, sorry.
-/
import Derived.Test.YteeofakohenpoaaGreatDoorChecked
import GoSem.PinnedTables
import GoSem.Claim
import GoSem.ClaimJoined
import GoSem.ClaimMapViews
import Derived.JoinedTies
import Derived.KernelRfl
namespace Go.Proofs.YteeofakohenpoaaGreatDoor
/- THE CELL 'sum', in the pinned program and in every row, IS THE sha256 OF THE DUMP (.gsa) THAT YteeofakohenpoaaGreatDoorProg.lean LOADS. Nothing in Lean hashes anything: it is a label: what it is worth is what the hold of that sum in a sandbox is worth. -/
noncomputable def Tryz.pinned : Pinned := { name := "yteeofakohenpoaagreatdoor", sum := "78ea0a6b2f3773d0d8806ba0de5f5f43ceac71e9d69eae10d6b392e34c472e24", checked := Tryz.checked }
namespace Rows
def none {H : Type} : Left H := { results := [], args := [] }

/- WHAT THE LISTED PACKAGE-LEVEL VARIABLES READ AS WHEN THE CALL BEGINS. Each datum BY PROGRAM (the guide's laid-datum.mjs) off the statement by which the dump's own 'gosem.cut.vars' lays the variable. In a bare row this is a premise. The card (YteeofakohenpoaaGreatDoorCards.lean) ties it to the program's text. -/
def laid_interdict_arith_names {H : Type} : DataW H := .agg [.lit (.string []), .lit (.string [97, 100, 100]), .lit (.string [115, 117, 98]), .lit (.string [109, 117, 108]), .lit (.string [100, 105, 118]), .lit (.string [109, 111, 100]), .lit (.string [97, 110, 100]), .lit (.string [111, 114]), .lit (.string [120, 111, 114]), .lit (.string [115, 104, 108]), .lit (.string [115, 104, 114]), .lit (.string [101, 113]), .lit (.string [108, 101, 115, 115])]
def laid_unicode_utf8_acceptRanges {H : Type} : DataW H := .agg [.agg [.lit (.int .u8 128), .lit (.int .u8 191)], .agg [.lit (.int .u8 160), .lit (.int .u8 191)], .agg [.lit (.int .u8 128), .lit (.int .u8 159)], .agg [.lit (.int .u8 144), .lit (.int .u8 191)], .agg [.lit (.int .u8 128), .lit (.int .u8 143)], .agg [.lit (.int .u8 0), .lit (.int .u8 0)], .agg [.lit (.int .u8 0), .lit (.int .u8 0)], .agg [.lit (.int .u8 0), .lit (.int .u8 0)], .agg [.lit (.int .u8 0), .lit (.int .u8 0)], .agg [.lit (.int .u8 0), .lit (.int .u8 0)], .agg [.lit (.int .u8 0), .lit (.int .u8 0)], .agg [.lit (.int .u8 0), .lit (.int .u8 0)], .agg [.lit (.int .u8 0), .lit (.int .u8 0)], .agg [.lit (.int .u8 0), .lit (.int .u8 0)], .agg [.lit (.int .u8 0), .lit (.int .u8 0)], .agg [.lit (.int .u8 0), .lit (.int .u8 0)]]
/-- One of Go's own tables, pinned by name: the form's constant. -/
def laid_unicode_utf8_first : DataW Unit := Go.Pinned.utf8First

/-- 'interdictlaw08.PrinterPrints': WHATEVER THE INPUT: true; the input reads as it did. -/
def printerPrintsSpec : ChangeSpec := { name := "printerPrints", fn := fun _ => fun
  | [d] => { results := [.lit (.bool true)], args := [d] }
  | _ => none }
def printerPrintsRow : OpenClaim := { program := "yteeofakohenpoaagreatdoor", sum := "78ea0a6b2f3773d0d8806ba0de5f5f43ceac71e9d69eae10d6b392e34c472e24", func := "interdict/interdictlaw08.PrinterPrints", spec := "printerPrints", inPlace := ["internal/abi.NoEscape", "internal/bytealg.MakeNoZero", "internal/bytealg.IndexByteString"], unfollowed := true, recurses := true, named := ["interdict/arith.names", "unicode/utf8.first", "unicode/utf8.acceptRanges"], apart := false, laid := [("interdict/arith.names", laid_interdict_arith_names), ("unicode/utf8.acceptRanges", laid_unicode_utf8_acceptRanges), ("unicode/utf8.first", laid_unicode_utf8_first)] }
def PrinterPrintsSaid : Prop := printerPrintsRow.holds Tryz.pinned (OpenSpec.ofChange printerPrintsSpec)

/-- ITS FALSE NEIGHBOUR: 'it returns false'. Refute it at one input. -/
def printerPrintsWrong : ChangeSpec := { name := "printerPrints", fn := fun _ => fun
  | [d] => { results := [.lit (.bool false)], args := [d] }
  | _ => none }
def PrinterPrintsWrongFalsely : Prop := printerPrintsRow.holds Tryz.pinned (OpenSpec.ofChange printerPrintsWrong)

/-- 'interdictlaw08.PrinterLines': WHATEVER THE INPUT: true; the input reads as it did. -/
def printerLinesSpec : ChangeSpec := { name := "printerLines", fn := fun _ => fun
  | [d] => { results := [.lit (.bool true)], args := [d] }
  | _ => none }
def printerLinesRow : OpenClaim := { program := "yteeofakohenpoaagreatdoor", sum := "78ea0a6b2f3773d0d8806ba0de5f5f43ceac71e9d69eae10d6b392e34c472e24", func := "interdict/interdictlaw08.PrinterLines", spec := "printerLines", inPlace := ["internal/abi.NoEscape", "internal/bytealg.MakeNoZero", "internal/bytealg.IndexByteString"], unfollowed := true, recurses := true, named := ["interdict/arith.names", "unicode/utf8.first", "unicode/utf8.acceptRanges"], apart := false, laid := [("interdict/arith.names", laid_interdict_arith_names), ("unicode/utf8.acceptRanges", laid_unicode_utf8_acceptRanges), ("unicode/utf8.first", laid_unicode_utf8_first)] }
def PrinterLinesSaid : Prop := printerLinesRow.holds Tryz.pinned (OpenSpec.ofChange printerLinesSpec)

/-- ITS FALSE NEIGHBOUR: 'it returns false'. Refute it at one input. -/
def printerLinesWrong : ChangeSpec := { name := "printerLines", fn := fun _ => fun
  | [d] => { results := [.lit (.bool false)], args := [d] }
  | _ => none }
def PrinterLinesWrongFalsely : Prop := printerLinesRow.holds Tryz.pinned (OpenSpec.ofChange printerLinesWrong)

/- THE SECOND FORM. 'bulk': how many values and letters a reading holds, each counted each time it is reached (what is shared counts as often as it is met; a slice's spare places count too). A statement '..UptoSaid' is the law's where the arguments, and the package variables that the reading takes, are together of bulk at most 1048576: NARROWER than '..Said'. Prove '..Said' where nothing that the law and all that it calls make is longer than what came in: it says more and counts as full. Else prove '..UptoSaid'. A law counts once. -/
mutual
def uptoBulk {H : Type} : DataW H → Nat
  | .lit (.string bytes) => bytes.length + 1
  | .lit _ => 1
  | .nil => 1
  | .ptr d => uptoBulk d + 1
  | .slice elems spare => uptoBulkAll elems + uptoBulkAll spare + 1
  | .agg parts => uptoBulkAll parts + 1
  | .iface _ d => uptoBulk d + 1
  | .map entries => uptoBulkEntries entries + 1
  | .held _ => 1
def uptoBulkAll {H : Type} : List (DataW H) → Nat
  | [] => 0
  | d :: r => uptoBulk d + uptoBulkAll r
def uptoBulkEntries {H : Type} : List (Lit × DataW H) → Nat
  | [] => 0
  | x :: r => uptoBulkEntry x + uptoBulkEntries r
def uptoBulkEntry {H : Type} : Lit × DataW H → Nat
  | (.string bytes, d) => bytes.length + uptoBulk d + 1
  | (_, d) => uptoBulk d + 1
 end
def uptoSmall : (H : Type) → List (DataW H) → Bool := fun _ ds => decide (uptoBulkAll ds ≤ 1048576)
def OpenSpec.upto (s : _root_.Go.ChangeSpec) : _root_.Go.OpenSpec := { _root_.Go.OpenSpec.ofChange s with cond := some uptoSmall }

/-- 'interdictlaw08.PrinterPrints', WHERE WHAT IT READS IS OF BULK AT MOST 1048576: true; the input reads as it did. -/
def printerPrintsUptoRow : OpenClaim := { program := "yteeofakohenpoaagreatdoor", sum := "78ea0a6b2f3773d0d8806ba0de5f5f43ceac71e9d69eae10d6b392e34c472e24", func := "interdict/interdictlaw08.PrinterPrints", spec := "printerPrints", inPlace := ["internal/abi.NoEscape", "internal/bytealg.MakeNoZero", "internal/bytealg.IndexByteString"], unfollowed := true, recurses := true, named := ["interdict/arith.names", "unicode/utf8.first", "unicode/utf8.acceptRanges"], apart := false, laid := [("interdict/arith.names", laid_interdict_arith_names), ("unicode/utf8.acceptRanges", laid_unicode_utf8_acceptRanges), ("unicode/utf8.first", laid_unicode_utf8_first)], narrowed := true }
def PrinterPrintsUptoSaid : Prop := printerPrintsUptoRow.holds Tryz.pinned (OpenSpec.upto printerPrintsSpec)

/-- 'interdictlaw08.PrinterLines', WHERE WHAT IT READS IS OF BULK AT MOST 1048576: true; the input reads as it did. -/
def printerLinesUptoRow : OpenClaim := { program := "yteeofakohenpoaagreatdoor", sum := "78ea0a6b2f3773d0d8806ba0de5f5f43ceac71e9d69eae10d6b392e34c472e24", func := "interdict/interdictlaw08.PrinterLines", spec := "printerLines", inPlace := ["internal/abi.NoEscape", "internal/bytealg.MakeNoZero", "internal/bytealg.IndexByteString"], unfollowed := true, recurses := true, named := ["interdict/arith.names", "unicode/utf8.first", "unicode/utf8.acceptRanges"], apart := false, laid := [("interdict/arith.names", laid_interdict_arith_names), ("unicode/utf8.acceptRanges", laid_unicode_utf8_acceptRanges), ("unicode/utf8.first", laid_unicode_utf8_first)], narrowed := true }
def PrinterLinesUptoSaid : Prop := printerLinesUptoRow.holds Tryz.pinned (OpenSpec.upto printerLinesSpec)

end Rows
end Go.Proofs.YteeofakohenpoaaGreatDoor
