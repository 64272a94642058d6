/-
  No cell of these rows narrows 'for every input' (looked for: loops, veiled, ifaces, maps, wideKeys, modest, calm, conditions, laid).
  DERIVED. THE GIVEN ROWS OF THIS SEAT. 7 by the template 'for every input the law returns true; each argument reads behind the call as it read before'; 0 by the template 'total and deterministic' (their statements: YtgibncjbojocoaaTotals.lean).
  GIVEN WITH THE SEED: the statements are not yours to turn. If you find one false, say at which input.
  Laid BY PROGRAM, IN A SANDBOX (cutbox-rows.mjs): the forced cells as the released guide's own fill.sh prints them over the translation afdffba4c746b98a… (all of the seat's roots in one cut). By AI agents, Wed Nov 11 2026. No macro, syntax, notation, axiom, sorry.
-/
import Derived.Test.YtgibncjbojocoaaChecked
import GoSem.Claim
import GoSem.ClaimJoined
import GoSem.ClaimMapViews
import Derived.JoinedTies
import Derived.KernelRfl
namespace Go.Proofs.Ytgibncjbojocoaa
/- THE CELL 'sum', in the pinned program and in every row, IS THE sha256 OF THE DUMP (.gsa) THAT YtgibncjbojocoaaProg.lean LOADS. Nothing in Lean hashes anything: it is a label: what it is worth is what the hold of that sum in a sandbox is worth. -/
noncomputable def Try.pinned : Pinned := { name := "ytgibncjbojocoaa", sum := "afdffba4c746b98ad90d70ee94054f41e90a352afbe55fd20dbea111acc6eb5a", checked := Try.checked }
namespace Rows
def none {H : Type} : Left H := { results := [], args := [] }

/-- 'interdictlaw01.TextLetters': WHATEVER THE INPUT: true; the input reads as it did. -/
def textLettersSpec : ChangeSpec := { name := "textLetters", fn := fun _ => fun
  | [d] => { results := [.lit (.bool true)], args := [d] }
  | _ => none }
def textLettersRow : OpenClaim := { program := "ytgibncjbojocoaa", sum := "afdffba4c746b98ad90d70ee94054f41e90a352afbe55fd20dbea111acc6eb5a", func := "interdict/interdictlaw01.TextLetters", spec := "textLetters", unfollowed := true, recurses := true, apart := false }
def TextLettersSaid : Prop := textLettersRow.holds Try.pinned (OpenSpec.ofChange textLettersSpec)

/-- ITS FALSE NEIGHBOUR: 'it returns false'. Refute it at one input. -/
def textLettersWrong : ChangeSpec := { name := "textLetters", fn := fun _ => fun
  | [d] => { results := [.lit (.bool false)], args := [d] }
  | _ => none }
def TextLettersWrongFalsely : Prop := textLettersRow.holds Try.pinned (OpenSpec.ofChange textLettersWrong)

/-- 'interdictlaw01.TextPlaces': WHATEVER THE INPUT: true; the input reads as it did. -/
def textPlacesSpec : ChangeSpec := { name := "textPlaces", fn := fun _ => fun
  | [d1, d2] => { results := [.lit (.bool true)], args := [d1, d2] }
  | _ => none }
def textPlacesRow : OpenClaim := { program := "ytgibncjbojocoaa", sum := "afdffba4c746b98ad90d70ee94054f41e90a352afbe55fd20dbea111acc6eb5a", func := "interdict/interdictlaw01.TextPlaces", spec := "textPlaces", apart := false }
def TextPlacesSaid : Prop := textPlacesRow.holds Try.pinned (OpenSpec.ofChange textPlacesSpec)

/-- ITS FALSE NEIGHBOUR: 'it returns false'. Refute it at one input. -/
def textPlacesWrong : ChangeSpec := { name := "textPlaces", fn := fun _ => fun
  | [d1, d2] => { results := [.lit (.bool false)], args := [d1, d2] }
  | _ => none }
def TextPlacesWrongFalsely : Prop := textPlacesRow.holds Try.pinned (OpenSpec.ofChange textPlacesWrong)

/-- 'interdictlaw01.TextNames': WHATEVER THE INPUT: true; the input reads as it did. -/
def textNamesSpec : ChangeSpec := { name := "textNames", fn := fun _ => fun
  | [d] => { results := [.lit (.bool true)], args := [d] }
  | _ => none }
def textNamesRow : OpenClaim := { program := "ytgibncjbojocoaa", sum := "afdffba4c746b98ad90d70ee94054f41e90a352afbe55fd20dbea111acc6eb5a", func := "interdict/interdictlaw01.TextNames", spec := "textNames", unfollowed := true, recurses := true, apart := false }
def TextNamesSaid : Prop := textNamesRow.holds Try.pinned (OpenSpec.ofChange textNamesSpec)

/-- ITS FALSE NEIGHBOUR: 'it returns false'. Refute it at one input. -/
def textNamesWrong : ChangeSpec := { name := "textNames", fn := fun _ => fun
  | [d] => { results := [.lit (.bool false)], args := [d] }
  | _ => none }
def TextNamesWrongFalsely : Prop := textNamesRow.holds Try.pinned (OpenSpec.ofChange textNamesWrong)

/-- 'interdictlaw01.TextShows': WHATEVER THE INPUT: true; the input reads as it did. -/
def textShowsSpec : ChangeSpec := { name := "textShows", fn := fun _ => fun
  | [d] => { results := [.lit (.bool true)], args := [d] }
  | _ => none }
def textShowsRow : OpenClaim := { program := "ytgibncjbojocoaa", sum := "afdffba4c746b98ad90d70ee94054f41e90a352afbe55fd20dbea111acc6eb5a", func := "interdict/interdictlaw01.TextShows", spec := "textShows", recurses := true, apart := false }
def TextShowsSaid : Prop := textShowsRow.holds Try.pinned (OpenSpec.ofChange textShowsSpec)

/-- ITS FALSE NEIGHBOUR: 'it returns false'. Refute it at one input. -/
def textShowsWrong : ChangeSpec := { name := "textShows", fn := fun _ => fun
  | [d] => { results := [.lit (.bool false)], args := [d] }
  | _ => none }
def TextShowsWrongFalsely : Prop := textShowsRow.holds Try.pinned (OpenSpec.ofChange textShowsWrong)

/-- 'interdictlaw01.TextNumbers': WHATEVER THE INPUT: true; the input reads as it did. -/
def textNumbersSpec : ChangeSpec := { name := "textNumbers", fn := fun _ => fun
  | [d] => { results := [.lit (.bool true)], args := [d] }
  | _ => none }
def textNumbersRow : OpenClaim := { program := "ytgibncjbojocoaa", sum := "afdffba4c746b98ad90d70ee94054f41e90a352afbe55fd20dbea111acc6eb5a", func := "interdict/interdictlaw01.TextNumbers", spec := "textNumbers", recurses := true, apart := false }
def TextNumbersSaid : Prop := textNumbersRow.holds Try.pinned (OpenSpec.ofChange textNumbersSpec)

/-- ITS FALSE NEIGHBOUR: 'it returns false'. Refute it at one input. -/
def textNumbersWrong : ChangeSpec := { name := "textNumbers", fn := fun _ => fun
  | [d] => { results := [.lit (.bool false)], args := [d] }
  | _ => none }
def TextNumbersWrongFalsely : Prop := textNumbersRow.holds Try.pinned (OpenSpec.ofChange textNumbersWrong)

/-- 'interdictlaw01.TextLines': WHATEVER THE INPUT: true; the input reads as it did. -/
def textLinesSpec : ChangeSpec := { name := "textLines", fn := fun _ => fun
  | [d1, d2, d3] => { results := [.lit (.bool true)], args := [d1, d2, d3] }
  | _ => none }
def textLinesRow : OpenClaim := { program := "ytgibncjbojocoaa", sum := "afdffba4c746b98ad90d70ee94054f41e90a352afbe55fd20dbea111acc6eb5a", func := "interdict/interdictlaw01.TextLines", spec := "textLines", apart := false }
def TextLinesSaid : Prop := textLinesRow.holds Try.pinned (OpenSpec.ofChange textLinesSpec)

/-- ITS FALSE NEIGHBOUR: 'it returns false'. Refute it at one input. -/
def textLinesWrong : ChangeSpec := { name := "textLines", fn := fun _ => fun
  | [d1, d2, d3] => { results := [.lit (.bool false)], args := [d1, d2, d3] }
  | _ => none }
def TextLinesWrongFalsely : Prop := textLinesRow.holds Try.pinned (OpenSpec.ofChange textLinesWrong)

/-- 'interdictlaw01.TextBack': WHATEVER THE INPUT: true; the input reads as it did. -/
def textBackSpec : ChangeSpec := { name := "textBack", fn := fun _ => fun
  | [d] => { results := [.lit (.bool true)], args := [d] }
  | _ => none }
def textBackRow : OpenClaim := { program := "ytgibncjbojocoaa", sum := "afdffba4c746b98ad90d70ee94054f41e90a352afbe55fd20dbea111acc6eb5a", func := "interdict/interdictlaw01.TextBack", spec := "textBack", apart := false }
def TextBackSaid : Prop := textBackRow.holds Try.pinned (OpenSpec.ofChange textBackSpec)

/-- ITS FALSE NEIGHBOUR: 'it returns false'. Refute it at one input. -/
def textBackWrong : ChangeSpec := { name := "textBack", fn := fun _ => fun
  | [d] => { results := [.lit (.bool false)], args := [d] }
  | _ => none }
def TextBackWrongFalsely : Prop := textBackRow.holds Try.pinned (OpenSpec.ofChange textBackWrong)

/- THE SECOND FORM. 'bulk': how many values and letters a reading holds, each counted each time it is reached (what is shared counts as often as it is met; a slice's spare places count too). A statement '..UptoSaid' is the law's where the arguments, and the package variables that the reading takes, are together of bulk at most 1048576: NARROWER than '..Said'. Prove '..Said' where nothing that the law and all that it calls make is longer than what came in: it says more and counts as full. Else prove '..UptoSaid'. A law counts once. -/
mutual
def uptoBulk {H : Type} : DataW H → Nat
  | .lit (.string bytes) => bytes.length + 1
  | .lit _ => 1
  | .nil => 1
  | .ptr d => uptoBulk d + 1
  | .slice elems spare => uptoBulkAll elems + uptoBulkAll spare + 1
  | .agg parts => uptoBulkAll parts + 1
  | .iface _ d => uptoBulk d + 1
  | .map entries => uptoBulkEntries entries + 1
  | .held _ => 1
def uptoBulkAll {H : Type} : List (DataW H) → Nat
  | [] => 0
  | d :: r => uptoBulk d + uptoBulkAll r
def uptoBulkEntries {H : Type} : List (Lit × DataW H) → Nat
  | [] => 0
  | x :: r => uptoBulkEntry x + uptoBulkEntries r
def uptoBulkEntry {H : Type} : Lit × DataW H → Nat
  | (.string bytes, d) => bytes.length + uptoBulk d + 1
  | (_, d) => uptoBulk d + 1
 end
def uptoSmall : (H : Type) → List (DataW H) → Bool := fun _ ds => decide (uptoBulkAll ds ≤ 1048576)
def OpenSpec.upto (s : _root_.Go.ChangeSpec) : _root_.Go.OpenSpec := { _root_.Go.OpenSpec.ofChange s with cond := some uptoSmall }

/-- 'interdictlaw01.TextLetters', WHERE WHAT IT READS IS OF BULK AT MOST 1048576: true; the input reads as it did. -/
def textLettersUptoRow : OpenClaim := { program := "ytgibncjbojocoaa", sum := "afdffba4c746b98ad90d70ee94054f41e90a352afbe55fd20dbea111acc6eb5a", func := "interdict/interdictlaw01.TextLetters", spec := "textLetters", unfollowed := true, recurses := true, apart := false, narrowed := true }
def TextLettersUptoSaid : Prop := textLettersUptoRow.holds Try.pinned (OpenSpec.upto textLettersSpec)

/-- 'interdictlaw01.TextPlaces', WHERE WHAT IT READS IS OF BULK AT MOST 1048576: true; the input reads as it did. -/
def textPlacesUptoRow : OpenClaim := { program := "ytgibncjbojocoaa", sum := "afdffba4c746b98ad90d70ee94054f41e90a352afbe55fd20dbea111acc6eb5a", func := "interdict/interdictlaw01.TextPlaces", spec := "textPlaces", apart := false, narrowed := true }
def TextPlacesUptoSaid : Prop := textPlacesUptoRow.holds Try.pinned (OpenSpec.upto textPlacesSpec)

/-- 'interdictlaw01.TextNames', WHERE WHAT IT READS IS OF BULK AT MOST 1048576: true; the input reads as it did. -/
def textNamesUptoRow : OpenClaim := { program := "ytgibncjbojocoaa", sum := "afdffba4c746b98ad90d70ee94054f41e90a352afbe55fd20dbea111acc6eb5a", func := "interdict/interdictlaw01.TextNames", spec := "textNames", unfollowed := true, recurses := true, apart := false, narrowed := true }
def TextNamesUptoSaid : Prop := textNamesUptoRow.holds Try.pinned (OpenSpec.upto textNamesSpec)

/-- 'interdictlaw01.TextShows', WHERE WHAT IT READS IS OF BULK AT MOST 1048576: true; the input reads as it did. -/
def textShowsUptoRow : OpenClaim := { program := "ytgibncjbojocoaa", sum := "afdffba4c746b98ad90d70ee94054f41e90a352afbe55fd20dbea111acc6eb5a", func := "interdict/interdictlaw01.TextShows", spec := "textShows", recurses := true, apart := false, narrowed := true }
def TextShowsUptoSaid : Prop := textShowsUptoRow.holds Try.pinned (OpenSpec.upto textShowsSpec)

/-- 'interdictlaw01.TextNumbers', WHERE WHAT IT READS IS OF BULK AT MOST 1048576: true; the input reads as it did. -/
def textNumbersUptoRow : OpenClaim := { program := "ytgibncjbojocoaa", sum := "afdffba4c746b98ad90d70ee94054f41e90a352afbe55fd20dbea111acc6eb5a", func := "interdict/interdictlaw01.TextNumbers", spec := "textNumbers", recurses := true, apart := false, narrowed := true }
def TextNumbersUptoSaid : Prop := textNumbersUptoRow.holds Try.pinned (OpenSpec.upto textNumbersSpec)

/-- 'interdictlaw01.TextLines', WHERE WHAT IT READS IS OF BULK AT MOST 1048576: true; the input reads as it did. -/
def textLinesUptoRow : OpenClaim := { program := "ytgibncjbojocoaa", sum := "afdffba4c746b98ad90d70ee94054f41e90a352afbe55fd20dbea111acc6eb5a", func := "interdict/interdictlaw01.TextLines", spec := "textLines", apart := false, narrowed := true }
def TextLinesUptoSaid : Prop := textLinesUptoRow.holds Try.pinned (OpenSpec.upto textLinesSpec)

/-- 'interdictlaw01.TextBack', WHERE WHAT IT READS IS OF BULK AT MOST 1048576: true; the input reads as it did. -/
def textBackUptoRow : OpenClaim := { program := "ytgibncjbojocoaa", sum := "afdffba4c746b98ad90d70ee94054f41e90a352afbe55fd20dbea111acc6eb5a", func := "interdict/interdictlaw01.TextBack", spec := "textBack", apart := false, narrowed := true }
def TextBackUptoSaid : Prop := textBackUptoRow.holds Try.pinned (OpenSpec.upto textBackSpec)

end Rows
end Go.Proofs.Ytgibncjbojocoaa
