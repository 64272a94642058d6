/-
  NARROWER THAN 'FOR EVERY INPUT', by the rows' own cells (each row's printed sentence says how): TreeParses: laid · TreeJoins: laid · TreeSpaces: laid · TreePlaces: laid.
  DERIVED. THE GIVEN ROWS OF THIS SEAT. 4 by the template 'for every input the law returns true; each argument reads behind the call as it read before'; 0 by the template 'total and deterministic' (their statements: YtikkppdihepmdaaDoorTotals.lean).
  GIVEN WITH THE SEED: the statements are not yours to turn. If you find one false, say at which input.
  Laid BY PROGRAM, IN A SANDBOX (cutbox-rows.mjs): the forced cells as the released guide's own fill.sh prints them over the translation 4aa83b4a616ac381… (all of the seat's roots in one cut). By AI agents, Wed Nov 11 2026. No macro, syntax, notation, axiom, sorry.
-/
import Derived.Test.YtikkppdihepmdaaDoorChecked
import GoSem.PinnedTables
import GoSem.Claim
import GoSem.ClaimJoined
import GoSem.ClaimMapViews
import Derived.JoinedTies
import Derived.KernelRfl
namespace Go.Proofs.YtikkppdihepmdaaDoor
/- THE CELL 'sum', in the pinned program and in every row, IS THE sha256 OF THE DUMP (.gsa) THAT YtikkppdihepmdaaDoorProg.lean LOADS. Nothing in Lean hashes anything: it is a label: what it is worth is what the hold of that sum in a sandbox is worth. -/
noncomputable def Tryd.pinned : Pinned := { name := "ytikkppdihepmdaadoor", sum := "4aa83b4a616ac3813d5cb458dd0a7774972dfd8fa351175afc7154d21e8f5d2f", checked := Tryd.checked }
namespace Rows
def none {H : Type} : Left H := { results := [], args := [] }

/- WHAT THE LISTED PACKAGE-LEVEL VARIABLES READ AS WHEN THE CALL BEGINS. Each datum BY PROGRAM (the guide's laid-datum.mjs) off the statement by which the dump's own 'gosem.cut.vars' lays the variable. In a bare row this is a premise. The card (YtikkppdihepmdaaDoorCards.lean) ties it to the program's text. -/
def laid_interdict_arith_names {H : Type} : DataW H := .agg [.lit (.string []), .lit (.string [97, 100, 100]), .lit (.string [115, 117, 98]), .lit (.string [109, 117, 108]), .lit (.string [100, 105, 118]), .lit (.string [109, 111, 100]), .lit (.string [97, 110, 100]), .lit (.string [111, 114]), .lit (.string [120, 111, 114]), .lit (.string [115, 104, 108]), .lit (.string [115, 104, 114]), .lit (.string [101, 113]), .lit (.string [108, 101, 115, 115])]
def laid_unicode_utf8_acceptRanges {H : Type} : DataW H := .agg [.agg [.lit (.int .u8 128), .lit (.int .u8 191)], .agg [.lit (.int .u8 160), .lit (.int .u8 191)], .agg [.lit (.int .u8 128), .lit (.int .u8 159)], .agg [.lit (.int .u8 144), .lit (.int .u8 191)], .agg [.lit (.int .u8 128), .lit (.int .u8 143)], .agg [.lit (.int .u8 0), .lit (.int .u8 0)], .agg [.lit (.int .u8 0), .lit (.int .u8 0)], .agg [.lit (.int .u8 0), .lit (.int .u8 0)], .agg [.lit (.int .u8 0), .lit (.int .u8 0)], .agg [.lit (.int .u8 0), .lit (.int .u8 0)], .agg [.lit (.int .u8 0), .lit (.int .u8 0)], .agg [.lit (.int .u8 0), .lit (.int .u8 0)], .agg [.lit (.int .u8 0), .lit (.int .u8 0)], .agg [.lit (.int .u8 0), .lit (.int .u8 0)], .agg [.lit (.int .u8 0), .lit (.int .u8 0)], .agg [.lit (.int .u8 0), .lit (.int .u8 0)]]
/-- One of Go's own tables, pinned by name: the form's constant. -/
def laid_unicode_utf8_first : DataW Unit := Go.Pinned.utf8First

/-- 'interdictlaw07.TreeParses': WHATEVER THE INPUT: true; the input reads as it did. -/
def treeParsesSpec : ChangeSpec := { name := "treeParses", fn := fun _ => fun
  | [d] => { results := [.lit (.bool true)], args := [d] }
  | _ => none }
def treeParsesRow : OpenClaim := { program := "ytikkppdihepmdaadoor", sum := "4aa83b4a616ac3813d5cb458dd0a7774972dfd8fa351175afc7154d21e8f5d2f", func := "interdict/interdictlaw07.TreeParses", spec := "treeParses", inPlace := ["internal/bytealg.IndexByteString"], unfollowed := true, recurses := true, named := ["unicode/utf8.first", "unicode/utf8.acceptRanges", "interdict/arith.names"], apart := false, laid := [("interdict/arith.names", laid_interdict_arith_names), ("unicode/utf8.acceptRanges", laid_unicode_utf8_acceptRanges), ("unicode/utf8.first", laid_unicode_utf8_first)] }
def TreeParsesSaid : Prop := treeParsesRow.holds Tryd.pinned (OpenSpec.ofChange treeParsesSpec)

/-- ITS FALSE NEIGHBOUR: 'it returns false'. Refute it at one input. -/
def treeParsesWrong : ChangeSpec := { name := "treeParses", fn := fun _ => fun
  | [d] => { results := [.lit (.bool false)], args := [d] }
  | _ => none }
def TreeParsesWrongFalsely : Prop := treeParsesRow.holds Tryd.pinned (OpenSpec.ofChange treeParsesWrong)

/-- 'interdictlaw07.TreeJoins': WHATEVER THE INPUT: true; the input reads as it did. -/
def treeJoinsSpec : ChangeSpec := { name := "treeJoins", fn := fun _ => fun
  | [d1, d2] => { results := [.lit (.bool true)], args := [d1, d2] }
  | _ => none }
def treeJoinsRow : OpenClaim := { program := "ytikkppdihepmdaadoor", sum := "4aa83b4a616ac3813d5cb458dd0a7774972dfd8fa351175afc7154d21e8f5d2f", func := "interdict/interdictlaw07.TreeJoins", spec := "treeJoins", inPlace := ["internal/bytealg.IndexByteString"], unfollowed := true, recurses := true, named := ["unicode/utf8.first", "unicode/utf8.acceptRanges", "interdict/arith.names"], apart := false, laid := [("interdict/arith.names", laid_interdict_arith_names), ("unicode/utf8.acceptRanges", laid_unicode_utf8_acceptRanges), ("unicode/utf8.first", laid_unicode_utf8_first)] }
def TreeJoinsSaid : Prop := treeJoinsRow.holds Tryd.pinned (OpenSpec.ofChange treeJoinsSpec)

/-- ITS FALSE NEIGHBOUR: 'it returns false'. Refute it at one input. -/
def treeJoinsWrong : ChangeSpec := { name := "treeJoins", fn := fun _ => fun
  | [d1, d2] => { results := [.lit (.bool false)], args := [d1, d2] }
  | _ => none }
def TreeJoinsWrongFalsely : Prop := treeJoinsRow.holds Tryd.pinned (OpenSpec.ofChange treeJoinsWrong)

/-- 'interdictlaw07.TreeSpaces': WHATEVER THE INPUT: true; the input reads as it did. -/
def treeSpacesSpec : ChangeSpec := { name := "treeSpaces", fn := fun _ => fun
  | [d] => { results := [.lit (.bool true)], args := [d] }
  | _ => none }
def treeSpacesRow : OpenClaim := { program := "ytikkppdihepmdaadoor", sum := "4aa83b4a616ac3813d5cb458dd0a7774972dfd8fa351175afc7154d21e8f5d2f", func := "interdict/interdictlaw07.TreeSpaces", spec := "treeSpaces", inPlace := ["internal/bytealg.IndexByteString"], unfollowed := true, recurses := true, named := ["unicode/utf8.first", "unicode/utf8.acceptRanges", "interdict/arith.names"], apart := false, laid := [("interdict/arith.names", laid_interdict_arith_names), ("unicode/utf8.acceptRanges", laid_unicode_utf8_acceptRanges), ("unicode/utf8.first", laid_unicode_utf8_first)] }
def TreeSpacesSaid : Prop := treeSpacesRow.holds Tryd.pinned (OpenSpec.ofChange treeSpacesSpec)

/-- ITS FALSE NEIGHBOUR: 'it returns false'. Refute it at one input. -/
def treeSpacesWrong : ChangeSpec := { name := "treeSpaces", fn := fun _ => fun
  | [d] => { results := [.lit (.bool false)], args := [d] }
  | _ => none }
def TreeSpacesWrongFalsely : Prop := treeSpacesRow.holds Tryd.pinned (OpenSpec.ofChange treeSpacesWrong)

/-- 'interdictlaw07.TreePlaces': WHATEVER THE INPUT: true; the input reads as it did. -/
def treePlacesSpec : ChangeSpec := { name := "treePlaces", fn := fun _ => fun
  | [d] => { results := [.lit (.bool true)], args := [d] }
  | _ => none }
def treePlacesRow : OpenClaim := { program := "ytikkppdihepmdaadoor", sum := "4aa83b4a616ac3813d5cb458dd0a7774972dfd8fa351175afc7154d21e8f5d2f", func := "interdict/interdictlaw07.TreePlaces", spec := "treePlaces", inPlace := ["internal/bytealg.IndexByteString"], unfollowed := true, recurses := true, named := ["unicode/utf8.first", "unicode/utf8.acceptRanges", "interdict/arith.names"], apart := false, laid := [("interdict/arith.names", laid_interdict_arith_names), ("unicode/utf8.acceptRanges", laid_unicode_utf8_acceptRanges), ("unicode/utf8.first", laid_unicode_utf8_first)] }
def TreePlacesSaid : Prop := treePlacesRow.holds Tryd.pinned (OpenSpec.ofChange treePlacesSpec)

/-- ITS FALSE NEIGHBOUR: 'it returns false'. Refute it at one input. -/
def treePlacesWrong : ChangeSpec := { name := "treePlaces", fn := fun _ => fun
  | [d] => { results := [.lit (.bool false)], args := [d] }
  | _ => none }
def TreePlacesWrongFalsely : Prop := treePlacesRow.holds Tryd.pinned (OpenSpec.ofChange treePlacesWrong)

/- THE SECOND FORM. 'bulk': how many values and letters a reading holds, each counted each time it is reached (what is shared counts as often as it is met; a slice's spare places count too). A statement '..UptoSaid' is the law's where the arguments, and the package variables that the reading takes, are together of bulk at most 1048576: NARROWER than '..Said'. Prove '..Said' where nothing that the law and all that it calls make is longer than what came in: it says more and counts as full. Else prove '..UptoSaid'. A law counts once. -/
mutual
def uptoBulk {H : Type} : DataW H → Nat
  | .lit (.string bytes) => bytes.length + 1
  | .lit _ => 1
  | .nil => 1
  | .ptr d => uptoBulk d + 1
  | .slice elems spare => uptoBulkAll elems + uptoBulkAll spare + 1
  | .agg parts => uptoBulkAll parts + 1
  | .iface _ d => uptoBulk d + 1
  | .map entries => uptoBulkEntries entries + 1
  | .held _ => 1
def uptoBulkAll {H : Type} : List (DataW H) → Nat
  | [] => 0
  | d :: r => uptoBulk d + uptoBulkAll r
def uptoBulkEntries {H : Type} : List (Lit × DataW H) → Nat
  | [] => 0
  | x :: r => uptoBulkEntry x + uptoBulkEntries r
def uptoBulkEntry {H : Type} : Lit × DataW H → Nat
  | (.string bytes, d) => bytes.length + uptoBulk d + 1
  | (_, d) => uptoBulk d + 1
 end
def uptoSmall : (H : Type) → List (DataW H) → Bool := fun _ ds => decide (uptoBulkAll ds ≤ 1048576)
def OpenSpec.upto (s : _root_.Go.ChangeSpec) : _root_.Go.OpenSpec := { _root_.Go.OpenSpec.ofChange s with cond := some uptoSmall }

/-- 'interdictlaw07.TreeParses', WHERE WHAT IT READS IS OF BULK AT MOST 1048576: true; the input reads as it did. -/
def treeParsesUptoRow : OpenClaim := { program := "ytikkppdihepmdaadoor", sum := "4aa83b4a616ac3813d5cb458dd0a7774972dfd8fa351175afc7154d21e8f5d2f", func := "interdict/interdictlaw07.TreeParses", spec := "treeParses", inPlace := ["internal/bytealg.IndexByteString"], unfollowed := true, recurses := true, named := ["unicode/utf8.first", "unicode/utf8.acceptRanges", "interdict/arith.names"], apart := false, laid := [("interdict/arith.names", laid_interdict_arith_names), ("unicode/utf8.acceptRanges", laid_unicode_utf8_acceptRanges), ("unicode/utf8.first", laid_unicode_utf8_first)], narrowed := true }
def TreeParsesUptoSaid : Prop := treeParsesUptoRow.holds Tryd.pinned (OpenSpec.upto treeParsesSpec)

/-- 'interdictlaw07.TreeJoins', WHERE WHAT IT READS IS OF BULK AT MOST 1048576: true; the input reads as it did. -/
def treeJoinsUptoRow : OpenClaim := { program := "ytikkppdihepmdaadoor", sum := "4aa83b4a616ac3813d5cb458dd0a7774972dfd8fa351175afc7154d21e8f5d2f", func := "interdict/interdictlaw07.TreeJoins", spec := "treeJoins", inPlace := ["internal/bytealg.IndexByteString"], unfollowed := true, recurses := true, named := ["unicode/utf8.first", "unicode/utf8.acceptRanges", "interdict/arith.names"], apart := false, laid := [("interdict/arith.names", laid_interdict_arith_names), ("unicode/utf8.acceptRanges", laid_unicode_utf8_acceptRanges), ("unicode/utf8.first", laid_unicode_utf8_first)], narrowed := true }
def TreeJoinsUptoSaid : Prop := treeJoinsUptoRow.holds Tryd.pinned (OpenSpec.upto treeJoinsSpec)

/-- 'interdictlaw07.TreeSpaces', WHERE WHAT IT READS IS OF BULK AT MOST 1048576: true; the input reads as it did. -/
def treeSpacesUptoRow : OpenClaim := { program := "ytikkppdihepmdaadoor", sum := "4aa83b4a616ac3813d5cb458dd0a7774972dfd8fa351175afc7154d21e8f5d2f", func := "interdict/interdictlaw07.TreeSpaces", spec := "treeSpaces", inPlace := ["internal/bytealg.IndexByteString"], unfollowed := true, recurses := true, named := ["unicode/utf8.first", "unicode/utf8.acceptRanges", "interdict/arith.names"], apart := false, laid := [("interdict/arith.names", laid_interdict_arith_names), ("unicode/utf8.acceptRanges", laid_unicode_utf8_acceptRanges), ("unicode/utf8.first", laid_unicode_utf8_first)], narrowed := true }
def TreeSpacesUptoSaid : Prop := treeSpacesUptoRow.holds Tryd.pinned (OpenSpec.upto treeSpacesSpec)

/-- 'interdictlaw07.TreePlaces', WHERE WHAT IT READS IS OF BULK AT MOST 1048576: true; the input reads as it did. -/
def treePlacesUptoRow : OpenClaim := { program := "ytikkppdihepmdaadoor", sum := "4aa83b4a616ac3813d5cb458dd0a7774972dfd8fa351175afc7154d21e8f5d2f", func := "interdict/interdictlaw07.TreePlaces", spec := "treePlaces", inPlace := ["internal/bytealg.IndexByteString"], unfollowed := true, recurses := true, named := ["unicode/utf8.first", "unicode/utf8.acceptRanges", "interdict/arith.names"], apart := false, laid := [("interdict/arith.names", laid_interdict_arith_names), ("unicode/utf8.acceptRanges", laid_unicode_utf8_acceptRanges), ("unicode/utf8.first", laid_unicode_utf8_first)], narrowed := true }
def TreePlacesUptoSaid : Prop := treePlacesUptoRow.holds Tryd.pinned (OpenSpec.upto treePlacesSpec)

end Rows
end Go.Proofs.YtikkppdihepmdaaDoor
