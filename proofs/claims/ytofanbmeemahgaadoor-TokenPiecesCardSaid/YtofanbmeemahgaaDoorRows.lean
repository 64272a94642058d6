/-
  NARROWER THAN 'FOR EVERY INPUT', by the rows' own cells (each row's printed sentence says how): TokenWords: laid · TokenOnes: laid · TokenAlls: laid · TokenPieces: laid · TokenJoins: laid · TokenRemarks: laid.
  DERIVED. THE GIVEN ROWS OF THIS SEAT. 6 by the template 'for every input the law returns true; each argument reads behind the call as it read before'; 0 by the template 'total and deterministic' (their statements: YtofanbmeemahgaaDoorTotals.lean).
  GIVEN WITH THE SEED: the statements are not yours to turn. If you find one false, say at which input.
  Laid BY PROGRAM, IN A SANDBOX (cutbox-rows.mjs): the forced cells as the released guide's own fill.sh prints them over the translation bafcad14da7f588e… (all of the seat's roots in one cut). By AI agents, Wed Nov 11 2026. No macro, syntax, notation, axiom, sorry.
-/
import Derived.Test.YtofanbmeemahgaaDoorChecked
import GoSem.PinnedTables
import GoSem.Claim
import GoSem.ClaimJoined
import GoSem.ClaimMapViews
import Derived.JoinedTies
import Derived.KernelRfl
namespace Go.Proofs.YtofanbmeemahgaaDoor
/- THE CELL 'sum', in the pinned program and in every row, IS THE sha256 OF THE DUMP (.gsa) THAT YtofanbmeemahgaaDoorProg.lean LOADS. Nothing in Lean hashes anything: it is a label: what it is worth is what the hold of that sum in a sandbox is worth. -/
noncomputable def Tryd.pinned : Pinned := { name := "ytofanbmeemahgaadoor", sum := "bafcad14da7f588e8c0f176be59082308cfb818e6ad4eea2f757a7dd9e62d71d", checked := Tryd.checked }
namespace Rows
def none {H : Type} : Left H := { results := [], args := [] }

/- WHAT THE LISTED PACKAGE-LEVEL VARIABLES READ AS WHEN THE CALL BEGINS. Each datum BY PROGRAM (the guide's laid-datum.mjs) off the statement by which the dump's own 'gosem.cut.vars' lays the variable. In a bare row this is a premise. The card (YtofanbmeemahgaaDoorCards.lean) ties it to the program's text. -/
def laid_unicode_utf8_acceptRanges {H : Type} : DataW H := .agg [.agg [.lit (.int .u8 128), .lit (.int .u8 191)], .agg [.lit (.int .u8 160), .lit (.int .u8 191)], .agg [.lit (.int .u8 128), .lit (.int .u8 159)], .agg [.lit (.int .u8 144), .lit (.int .u8 191)], .agg [.lit (.int .u8 128), .lit (.int .u8 143)], .agg [.lit (.int .u8 0), .lit (.int .u8 0)], .agg [.lit (.int .u8 0), .lit (.int .u8 0)], .agg [.lit (.int .u8 0), .lit (.int .u8 0)], .agg [.lit (.int .u8 0), .lit (.int .u8 0)], .agg [.lit (.int .u8 0), .lit (.int .u8 0)], .agg [.lit (.int .u8 0), .lit (.int .u8 0)], .agg [.lit (.int .u8 0), .lit (.int .u8 0)], .agg [.lit (.int .u8 0), .lit (.int .u8 0)], .agg [.lit (.int .u8 0), .lit (.int .u8 0)], .agg [.lit (.int .u8 0), .lit (.int .u8 0)], .agg [.lit (.int .u8 0), .lit (.int .u8 0)]]
/-- One of Go's own tables, pinned by name: the form's constant. -/
def laid_unicode_utf8_first : DataW Unit := Go.Pinned.utf8First

/-- 'interdictlaw03.TokenWords': WHATEVER THE INPUT: true; the input reads as it did. -/
def tokenWordsSpec : ChangeSpec := { name := "tokenWords", fn := fun _ => fun
  | [d] => { results := [.lit (.bool true)], args := [d] }
  | _ => none }
def tokenWordsRow : OpenClaim := { program := "ytofanbmeemahgaadoor", sum := "bafcad14da7f588e8c0f176be59082308cfb818e6ad4eea2f757a7dd9e62d71d", func := "interdict/interdictlaw03.TokenWords", spec := "tokenWords", inPlace := ["internal/bytealg.IndexByteString"], unfollowed := true, recurses := true, named := ["unicode/utf8.first", "unicode/utf8.acceptRanges"], apart := false, laid := [("unicode/utf8.acceptRanges", laid_unicode_utf8_acceptRanges), ("unicode/utf8.first", laid_unicode_utf8_first)] }
def TokenWordsSaid : Prop := tokenWordsRow.holds Tryd.pinned (OpenSpec.ofChange tokenWordsSpec)

/-- ITS FALSE NEIGHBOUR: 'it returns false'. Refute it at one input. -/
def tokenWordsWrong : ChangeSpec := { name := "tokenWords", fn := fun _ => fun
  | [d] => { results := [.lit (.bool false)], args := [d] }
  | _ => none }
def TokenWordsWrongFalsely : Prop := tokenWordsRow.holds Tryd.pinned (OpenSpec.ofChange tokenWordsWrong)

/-- 'interdictlaw03.TokenOnes': WHATEVER THE INPUT: true; the input reads as it did. -/
def tokenOnesSpec : ChangeSpec := { name := "tokenOnes", fn := fun _ => fun
  | [d1, d2] => { results := [.lit (.bool true)], args := [d1, d2] }
  | _ => none }
def tokenOnesRow : OpenClaim := { program := "ytofanbmeemahgaadoor", sum := "bafcad14da7f588e8c0f176be59082308cfb818e6ad4eea2f757a7dd9e62d71d", func := "interdict/interdictlaw03.TokenOnes", spec := "tokenOnes", inPlace := ["internal/bytealg.IndexByteString"], unfollowed := true, recurses := true, named := ["unicode/utf8.first", "unicode/utf8.acceptRanges"], apart := false, laid := [("unicode/utf8.acceptRanges", laid_unicode_utf8_acceptRanges), ("unicode/utf8.first", laid_unicode_utf8_first)] }
def TokenOnesSaid : Prop := tokenOnesRow.holds Tryd.pinned (OpenSpec.ofChange tokenOnesSpec)

/-- ITS FALSE NEIGHBOUR: 'it returns false'. Refute it at one input. -/
def tokenOnesWrong : ChangeSpec := { name := "tokenOnes", fn := fun _ => fun
  | [d1, d2] => { results := [.lit (.bool false)], args := [d1, d2] }
  | _ => none }
def TokenOnesWrongFalsely : Prop := tokenOnesRow.holds Tryd.pinned (OpenSpec.ofChange tokenOnesWrong)

/-- 'interdictlaw03.TokenAlls': WHATEVER THE INPUT: true; the input reads as it did. -/
def tokenAllsSpec : ChangeSpec := { name := "tokenAlls", fn := fun _ => fun
  | [d] => { results := [.lit (.bool true)], args := [d] }
  | _ => none }
def tokenAllsRow : OpenClaim := { program := "ytofanbmeemahgaadoor", sum := "bafcad14da7f588e8c0f176be59082308cfb818e6ad4eea2f757a7dd9e62d71d", func := "interdict/interdictlaw03.TokenAlls", spec := "tokenAlls", inPlace := ["internal/bytealg.IndexByteString"], unfollowed := true, recurses := true, named := ["unicode/utf8.first", "unicode/utf8.acceptRanges"], apart := false, laid := [("unicode/utf8.acceptRanges", laid_unicode_utf8_acceptRanges), ("unicode/utf8.first", laid_unicode_utf8_first)] }
def TokenAllsSaid : Prop := tokenAllsRow.holds Tryd.pinned (OpenSpec.ofChange tokenAllsSpec)

/-- ITS FALSE NEIGHBOUR: 'it returns false'. Refute it at one input. -/
def tokenAllsWrong : ChangeSpec := { name := "tokenAlls", fn := fun _ => fun
  | [d] => { results := [.lit (.bool false)], args := [d] }
  | _ => none }
def TokenAllsWrongFalsely : Prop := tokenAllsRow.holds Tryd.pinned (OpenSpec.ofChange tokenAllsWrong)

/-- 'interdictlaw03.TokenPieces': WHATEVER THE INPUT: true; the input reads as it did. -/
def tokenPiecesSpec : ChangeSpec := { name := "tokenPieces", fn := fun _ => fun
  | [d] => { results := [.lit (.bool true)], args := [d] }
  | _ => none }
def tokenPiecesRow : OpenClaim := { program := "ytofanbmeemahgaadoor", sum := "bafcad14da7f588e8c0f176be59082308cfb818e6ad4eea2f757a7dd9e62d71d", func := "interdict/interdictlaw03.TokenPieces", spec := "tokenPieces", inPlace := ["internal/bytealg.IndexByteString"], unfollowed := true, recurses := true, named := ["unicode/utf8.first", "unicode/utf8.acceptRanges"], apart := false, laid := [("unicode/utf8.acceptRanges", laid_unicode_utf8_acceptRanges), ("unicode/utf8.first", laid_unicode_utf8_first)] }
def TokenPiecesSaid : Prop := tokenPiecesRow.holds Tryd.pinned (OpenSpec.ofChange tokenPiecesSpec)

/-- ITS FALSE NEIGHBOUR: 'it returns false'. Refute it at one input. -/
def tokenPiecesWrong : ChangeSpec := { name := "tokenPieces", fn := fun _ => fun
  | [d] => { results := [.lit (.bool false)], args := [d] }
  | _ => none }
def TokenPiecesWrongFalsely : Prop := tokenPiecesRow.holds Tryd.pinned (OpenSpec.ofChange tokenPiecesWrong)

/-- 'interdictlaw03.TokenJoins': WHATEVER THE INPUT: true; the input reads as it did. -/
def tokenJoinsSpec : ChangeSpec := { name := "tokenJoins", fn := fun _ => fun
  | [d1, d2] => { results := [.lit (.bool true)], args := [d1, d2] }
  | _ => none }
def tokenJoinsRow : OpenClaim := { program := "ytofanbmeemahgaadoor", sum := "bafcad14da7f588e8c0f176be59082308cfb818e6ad4eea2f757a7dd9e62d71d", func := "interdict/interdictlaw03.TokenJoins", spec := "tokenJoins", inPlace := ["internal/bytealg.IndexByteString"], unfollowed := true, recurses := true, named := ["unicode/utf8.first", "unicode/utf8.acceptRanges"], apart := false, laid := [("unicode/utf8.acceptRanges", laid_unicode_utf8_acceptRanges), ("unicode/utf8.first", laid_unicode_utf8_first)] }
def TokenJoinsSaid : Prop := tokenJoinsRow.holds Tryd.pinned (OpenSpec.ofChange tokenJoinsSpec)

/-- ITS FALSE NEIGHBOUR: 'it returns false'. Refute it at one input. -/
def tokenJoinsWrong : ChangeSpec := { name := "tokenJoins", fn := fun _ => fun
  | [d1, d2] => { results := [.lit (.bool false)], args := [d1, d2] }
  | _ => none }
def TokenJoinsWrongFalsely : Prop := tokenJoinsRow.holds Tryd.pinned (OpenSpec.ofChange tokenJoinsWrong)

/-- 'interdictlaw03.TokenRemarks': WHATEVER THE INPUT: true; the input reads as it did. -/
def tokenRemarksSpec : ChangeSpec := { name := "tokenRemarks", fn := fun _ => fun
  | [d1, d2] => { results := [.lit (.bool true)], args := [d1, d2] }
  | _ => none }
def tokenRemarksRow : OpenClaim := { program := "ytofanbmeemahgaadoor", sum := "bafcad14da7f588e8c0f176be59082308cfb818e6ad4eea2f757a7dd9e62d71d", func := "interdict/interdictlaw03.TokenRemarks", spec := "tokenRemarks", inPlace := ["internal/bytealg.IndexByteString"], unfollowed := true, recurses := true, named := ["unicode/utf8.first", "unicode/utf8.acceptRanges"], apart := false, laid := [("unicode/utf8.acceptRanges", laid_unicode_utf8_acceptRanges), ("unicode/utf8.first", laid_unicode_utf8_first)] }
def TokenRemarksSaid : Prop := tokenRemarksRow.holds Tryd.pinned (OpenSpec.ofChange tokenRemarksSpec)

/-- ITS FALSE NEIGHBOUR: 'it returns false'. Refute it at one input. -/
def tokenRemarksWrong : ChangeSpec := { name := "tokenRemarks", fn := fun _ => fun
  | [d1, d2] => { results := [.lit (.bool false)], args := [d1, d2] }
  | _ => none }
def TokenRemarksWrongFalsely : Prop := tokenRemarksRow.holds Tryd.pinned (OpenSpec.ofChange tokenRemarksWrong)

/- THE SECOND FORM. 'bulk': how many values and letters a reading holds, each counted each time it is reached (what is shared counts as often as it is met; a slice's spare places count too). A statement '..UptoSaid' is the law's where the arguments, and the package variables that the reading takes, are together of bulk at most 1048576: NARROWER than '..Said'. Prove '..Said' where nothing that the law and all that it calls make is longer than what came in: it says more and counts as full. Else prove '..UptoSaid'. A law counts once. -/
mutual
def uptoBulk {H : Type} : DataW H → Nat
  | .lit (.string bytes) => bytes.length + 1
  | .lit _ => 1
  | .nil => 1
  | .ptr d => uptoBulk d + 1
  | .slice elems spare => uptoBulkAll elems + uptoBulkAll spare + 1
  | .agg parts => uptoBulkAll parts + 1
  | .iface _ d => uptoBulk d + 1
  | .map entries => uptoBulkEntries entries + 1
  | .held _ => 1
def uptoBulkAll {H : Type} : List (DataW H) → Nat
  | [] => 0
  | d :: r => uptoBulk d + uptoBulkAll r
def uptoBulkEntries {H : Type} : List (Lit × DataW H) → Nat
  | [] => 0
  | x :: r => uptoBulkEntry x + uptoBulkEntries r
def uptoBulkEntry {H : Type} : Lit × DataW H → Nat
  | (.string bytes, d) => bytes.length + uptoBulk d + 1
  | (_, d) => uptoBulk d + 1
 end
def uptoSmall : (H : Type) → List (DataW H) → Bool := fun _ ds => decide (uptoBulkAll ds ≤ 1048576)
def OpenSpec.upto (s : _root_.Go.ChangeSpec) : _root_.Go.OpenSpec := { _root_.Go.OpenSpec.ofChange s with cond := some uptoSmall }

/-- 'interdictlaw03.TokenWords', WHERE WHAT IT READS IS OF BULK AT MOST 1048576: true; the input reads as it did. -/
def tokenWordsUptoRow : OpenClaim := { program := "ytofanbmeemahgaadoor", sum := "bafcad14da7f588e8c0f176be59082308cfb818e6ad4eea2f757a7dd9e62d71d", func := "interdict/interdictlaw03.TokenWords", spec := "tokenWords", inPlace := ["internal/bytealg.IndexByteString"], unfollowed := true, recurses := true, named := ["unicode/utf8.first", "unicode/utf8.acceptRanges"], apart := false, laid := [("unicode/utf8.acceptRanges", laid_unicode_utf8_acceptRanges), ("unicode/utf8.first", laid_unicode_utf8_first)], narrowed := true }
def TokenWordsUptoSaid : Prop := tokenWordsUptoRow.holds Tryd.pinned (OpenSpec.upto tokenWordsSpec)

/-- 'interdictlaw03.TokenOnes', WHERE WHAT IT READS IS OF BULK AT MOST 1048576: true; the input reads as it did. -/
def tokenOnesUptoRow : OpenClaim := { program := "ytofanbmeemahgaadoor", sum := "bafcad14da7f588e8c0f176be59082308cfb818e6ad4eea2f757a7dd9e62d71d", func := "interdict/interdictlaw03.TokenOnes", spec := "tokenOnes", inPlace := ["internal/bytealg.IndexByteString"], unfollowed := true, recurses := true, named := ["unicode/utf8.first", "unicode/utf8.acceptRanges"], apart := false, laid := [("unicode/utf8.acceptRanges", laid_unicode_utf8_acceptRanges), ("unicode/utf8.first", laid_unicode_utf8_first)], narrowed := true }
def TokenOnesUptoSaid : Prop := tokenOnesUptoRow.holds Tryd.pinned (OpenSpec.upto tokenOnesSpec)

/-- 'interdictlaw03.TokenAlls', WHERE WHAT IT READS IS OF BULK AT MOST 1048576: true; the input reads as it did. -/
def tokenAllsUptoRow : OpenClaim := { program := "ytofanbmeemahgaadoor", sum := "bafcad14da7f588e8c0f176be59082308cfb818e6ad4eea2f757a7dd9e62d71d", func := "interdict/interdictlaw03.TokenAlls", spec := "tokenAlls", inPlace := ["internal/bytealg.IndexByteString"], unfollowed := true, recurses := true, named := ["unicode/utf8.first", "unicode/utf8.acceptRanges"], apart := false, laid := [("unicode/utf8.acceptRanges", laid_unicode_utf8_acceptRanges), ("unicode/utf8.first", laid_unicode_utf8_first)], narrowed := true }
def TokenAllsUptoSaid : Prop := tokenAllsUptoRow.holds Tryd.pinned (OpenSpec.upto tokenAllsSpec)

/-- 'interdictlaw03.TokenPieces', WHERE WHAT IT READS IS OF BULK AT MOST 1048576: true; the input reads as it did. -/
def tokenPiecesUptoRow : OpenClaim := { program := "ytofanbmeemahgaadoor", sum := "bafcad14da7f588e8c0f176be59082308cfb818e6ad4eea2f757a7dd9e62d71d", func := "interdict/interdictlaw03.TokenPieces", spec := "tokenPieces", inPlace := ["internal/bytealg.IndexByteString"], unfollowed := true, recurses := true, named := ["unicode/utf8.first", "unicode/utf8.acceptRanges"], apart := false, laid := [("unicode/utf8.acceptRanges", laid_unicode_utf8_acceptRanges), ("unicode/utf8.first", laid_unicode_utf8_first)], narrowed := true }
def TokenPiecesUptoSaid : Prop := tokenPiecesUptoRow.holds Tryd.pinned (OpenSpec.upto tokenPiecesSpec)

/-- 'interdictlaw03.TokenJoins', WHERE WHAT IT READS IS OF BULK AT MOST 1048576: true; the input reads as it did. -/
def tokenJoinsUptoRow : OpenClaim := { program := "ytofanbmeemahgaadoor", sum := "bafcad14da7f588e8c0f176be59082308cfb818e6ad4eea2f757a7dd9e62d71d", func := "interdict/interdictlaw03.TokenJoins", spec := "tokenJoins", inPlace := ["internal/bytealg.IndexByteString"], unfollowed := true, recurses := true, named := ["unicode/utf8.first", "unicode/utf8.acceptRanges"], apart := false, laid := [("unicode/utf8.acceptRanges", laid_unicode_utf8_acceptRanges), ("unicode/utf8.first", laid_unicode_utf8_first)], narrowed := true }
def TokenJoinsUptoSaid : Prop := tokenJoinsUptoRow.holds Tryd.pinned (OpenSpec.upto tokenJoinsSpec)

/-- 'interdictlaw03.TokenRemarks', WHERE WHAT IT READS IS OF BULK AT MOST 1048576: true; the input reads as it did. -/
def tokenRemarksUptoRow : OpenClaim := { program := "ytofanbmeemahgaadoor", sum := "bafcad14da7f588e8c0f176be59082308cfb818e6ad4eea2f757a7dd9e62d71d", func := "interdict/interdictlaw03.TokenRemarks", spec := "tokenRemarks", inPlace := ["internal/bytealg.IndexByteString"], unfollowed := true, recurses := true, named := ["unicode/utf8.first", "unicode/utf8.acceptRanges"], apart := false, laid := [("unicode/utf8.acceptRanges", laid_unicode_utf8_acceptRanges), ("unicode/utf8.first", laid_unicode_utf8_first)], narrowed := true }
def TokenRemarksUptoSaid : Prop := tokenRemarksUptoRow.holds Tryd.pinned (OpenSpec.upto tokenRemarksSpec)

end Rows
end Go.Proofs.YtofanbmeemahgaaDoor
