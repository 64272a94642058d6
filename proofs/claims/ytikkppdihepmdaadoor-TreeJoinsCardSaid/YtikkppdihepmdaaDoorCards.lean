/-
  DERIVED. GIVEN WITH THE SEED: THE CARDS: each row of YtikkppdihepmdaaDoorRows.lean that lists a variable, with what it lists TIED to the program's text (the seventh form; the later family's looks); each row that meets fmt, with fmt's text TOLD by the authors' own Lean function (tested against real Go, not proved from fmt's source: count such statements apart). THE CARD IS WHAT COUNTS. Prove the row's statement (the work); the ties are given (YtikkppdihepmdaaDoorTie.lean); close each card by the builder's one call (the guide's Derived/Test/ToyasCard.lean, 'card_holds'). Laid BY PROGRAM, IN A SANDBOX (cutbox-door.mjs). By AI agents, Wed Nov 11 2026. No macro, syntax, notation, axiom, sorry.
-/
import Derived.Test.YtikkppdihepmdaaDoorRows
import GoSem.ClaimSeven
namespace Go.Proofs.YtikkppdihepmdaaDoor
namespace Rows

/-- THE TIED CARD OF 'interdictlaw07.TreeParses'. -/
def treeParsesCard : Claim7 := { stood := { row := treeParsesRow, standIns := [], harness := (true, "08eed5fdce31fbabf6d02abeb32554407215b08aab5d584612962dd3ca670a63"), looks := true }, kinds := [], alts := [], laidByText := true, laidKinds := [.data, .data, .pinned], laidTests := true, laidLooks := .later }
def TreeParsesCardSaid : Prop := Claim7.holds Tryd.pinned (.plain (OpenSpec.ofChange treeParsesSpec)) treeParsesCard

/-- THE TIED CARD OF 'interdictlaw07.TreeJoins'. -/
def treeJoinsCard : Claim7 := { stood := { row := treeJoinsRow, standIns := [], harness := (true, "08eed5fdce31fbabf6d02abeb32554407215b08aab5d584612962dd3ca670a63"), looks := true }, kinds := [], alts := [], laidByText := true, laidKinds := [.data, .data, .pinned], laidTests := true, laidLooks := .later }
def TreeJoinsCardSaid : Prop := Claim7.holds Tryd.pinned (.plain (OpenSpec.ofChange treeJoinsSpec)) treeJoinsCard

/-- THE TIED CARD OF 'interdictlaw07.TreeSpaces'. -/
def treeSpacesCard : Claim7 := { stood := { row := treeSpacesRow, standIns := [], harness := (true, "08eed5fdce31fbabf6d02abeb32554407215b08aab5d584612962dd3ca670a63"), looks := true }, kinds := [], alts := [], laidByText := true, laidKinds := [.data, .data, .pinned], laidTests := true, laidLooks := .later }
def TreeSpacesCardSaid : Prop := Claim7.holds Tryd.pinned (.plain (OpenSpec.ofChange treeSpacesSpec)) treeSpacesCard

/-- THE TIED CARD OF 'interdictlaw07.TreePlaces'. -/
def treePlacesCard : Claim7 := { stood := { row := treePlacesRow, standIns := [], harness := (true, "08eed5fdce31fbabf6d02abeb32554407215b08aab5d584612962dd3ca670a63"), looks := true }, kinds := [], alts := [], laidByText := true, laidKinds := [.data, .data, .pinned], laidTests := true, laidLooks := .later }
def TreePlacesCardSaid : Prop := Claim7.holds Tryd.pinned (.plain (OpenSpec.ofChange treePlacesSpec)) treePlacesCard

/-- THE SECOND FORM's CARD OF 'interdictlaw07.TreeParses'. -/
def treeParsesUptoCard : Claim7 := { stood := { row := treeParsesUptoRow, standIns := [], harness := (true, "08eed5fdce31fbabf6d02abeb32554407215b08aab5d584612962dd3ca670a63"), looks := true }, kinds := [], alts := [], laidByText := true, laidKinds := [.data, .data, .pinned], laidTests := true, laidLooks := .later }
def TreeParsesUptoCardSaid : Prop := Claim7.holds Tryd.pinned (.plain (OpenSpec.upto treeParsesSpec)) treeParsesUptoCard

/-- THE SECOND FORM's CARD OF 'interdictlaw07.TreeJoins'. -/
def treeJoinsUptoCard : Claim7 := { stood := { row := treeJoinsUptoRow, standIns := [], harness := (true, "08eed5fdce31fbabf6d02abeb32554407215b08aab5d584612962dd3ca670a63"), looks := true }, kinds := [], alts := [], laidByText := true, laidKinds := [.data, .data, .pinned], laidTests := true, laidLooks := .later }
def TreeJoinsUptoCardSaid : Prop := Claim7.holds Tryd.pinned (.plain (OpenSpec.upto treeJoinsSpec)) treeJoinsUptoCard

/-- THE SECOND FORM's CARD OF 'interdictlaw07.TreeSpaces'. -/
def treeSpacesUptoCard : Claim7 := { stood := { row := treeSpacesUptoRow, standIns := [], harness := (true, "08eed5fdce31fbabf6d02abeb32554407215b08aab5d584612962dd3ca670a63"), looks := true }, kinds := [], alts := [], laidByText := true, laidKinds := [.data, .data, .pinned], laidTests := true, laidLooks := .later }
def TreeSpacesUptoCardSaid : Prop := Claim7.holds Tryd.pinned (.plain (OpenSpec.upto treeSpacesSpec)) treeSpacesUptoCard

/-- THE SECOND FORM's CARD OF 'interdictlaw07.TreePlaces'. -/
def treePlacesUptoCard : Claim7 := { stood := { row := treePlacesUptoRow, standIns := [], harness := (true, "08eed5fdce31fbabf6d02abeb32554407215b08aab5d584612962dd3ca670a63"), looks := true }, kinds := [], alts := [], laidByText := true, laidKinds := [.data, .data, .pinned], laidTests := true, laidLooks := .later }
def TreePlacesUptoCardSaid : Prop := Claim7.holds Tryd.pinned (.plain (OpenSpec.upto treePlacesSpec)) treePlacesUptoCard
end Rows
end Go.Proofs.YtikkppdihepmdaaDoor
