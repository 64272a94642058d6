/-
  DERIVED. GIVEN WITH THE SEED: THE CARDS: each row of YtojhdmfkfkfcbaaGreatDoorRows.lean that lists a variable, with what it lists TIED to the program's text (the seventh form; the later family's looks); each row that meets fmt, with fmt's text TOLD by the authors' own Lean function (tested against real Go, not proved from fmt's source: count such statements apart). THE CARD IS WHAT COUNTS. Prove the row's statement (the work); the ties are given (YtojhdmfkfkfcbaaGreatDoorTie.lean); close each card by the builder's one call (the guide's Derived/Test/ToyasCard.lean, 'card_holds'). Laid BY PROGRAM, IN A SANDBOX (cutbox-door.mjs). By AI agents, Wed Nov 11 2026. No macro, syntax, notation, axiom, sorry.
-/
import Derived.Test.YtojhdmfkfkfcbaaGreatDoorRows
import GoSem.ClaimSeven
namespace Go.Proofs.YtojhdmfkfkfcbaaGreatDoor
namespace Rows

/-- THE TIED CARD OF 'interdictlaw09.NamesRights'. -/
def namesRightsCard : Claim7 := { stood := { row := namesRightsRow, standIns := [], harness := (true, "2a6626ff2425fbd8160449e0bac9a63ac06508016d622b5fa46911716a8a298b"), looks := true }, kinds := [], alts := [], laidByText := true, laidKinds := [.data, .data, .data, .pinned], laidTests := true, laidLooks := .later }
def NamesRightsCardSaid : Prop := Claim7.holds Tryz.pinned (.plain (OpenSpec.ofChange namesRightsSpec)) namesRightsCard

/-- THE TIED CARD OF 'interdictlaw09.NamesTexts'. -/
def namesTextsCard : Claim7 := { stood := { row := namesTextsRow, standIns := [], harness := (true, "2a6626ff2425fbd8160449e0bac9a63ac06508016d622b5fa46911716a8a298b"), looks := true }, kinds := [], alts := [], laidByText := true, laidKinds := [.data, .data, .data, .pinned], laidTests := true, laidLooks := .later }
def NamesTextsCardSaid : Prop := Claim7.holds Tryz.pinned (.plain (OpenSpec.ofChange namesTextsSpec)) namesTextsCard

/-- THE TIED CARD OF 'interdictlaw09.NamesRenamed'. -/
def namesRenamedCard : Claim7 := { stood := { row := namesRenamedRow, standIns := [], harness := (true, "2a6626ff2425fbd8160449e0bac9a63ac06508016d622b5fa46911716a8a298b"), looks := true }, kinds := [], alts := [], laidByText := true, laidKinds := [.data, .data, .data, .pinned], laidTests := true, laidLooks := .later }
def NamesRenamedCardSaid : Prop := Claim7.holds Tryz.pinned (.plain (OpenSpec.ofChange namesRenamedSpec)) namesRenamedCard

/-- THE TIED CARD OF 'interdictlaw09.NamesBack'. -/
def namesBackCard : Claim7 := { stood := { row := namesBackRow, standIns := [], harness := (true, "2a6626ff2425fbd8160449e0bac9a63ac06508016d622b5fa46911716a8a298b"), looks := true }, kinds := [], alts := [], laidByText := true, laidKinds := [.data, .data, .data, .pinned], laidTests := true, laidLooks := .later }
def NamesBackCardSaid : Prop := Claim7.holds Tryz.pinned (.plain (OpenSpec.ofChange namesBackSpec)) namesBackCard

/-- THE SECOND FORM's CARD OF 'interdictlaw09.NamesRights'. -/
def namesRightsUptoCard : Claim7 := { stood := { row := namesRightsUptoRow, standIns := [], harness := (true, "2a6626ff2425fbd8160449e0bac9a63ac06508016d622b5fa46911716a8a298b"), looks := true }, kinds := [], alts := [], laidByText := true, laidKinds := [.data, .data, .data, .pinned], laidTests := true, laidLooks := .later }
def NamesRightsUptoCardSaid : Prop := Claim7.holds Tryz.pinned (.plain (OpenSpec.upto namesRightsSpec)) namesRightsUptoCard

/-- THE SECOND FORM's CARD OF 'interdictlaw09.NamesTexts'. -/
def namesTextsUptoCard : Claim7 := { stood := { row := namesTextsUptoRow, standIns := [], harness := (true, "2a6626ff2425fbd8160449e0bac9a63ac06508016d622b5fa46911716a8a298b"), looks := true }, kinds := [], alts := [], laidByText := true, laidKinds := [.data, .data, .data, .pinned], laidTests := true, laidLooks := .later }
def NamesTextsUptoCardSaid : Prop := Claim7.holds Tryz.pinned (.plain (OpenSpec.upto namesTextsSpec)) namesTextsUptoCard

/-- THE SECOND FORM's CARD OF 'interdictlaw09.NamesRenamed'. -/
def namesRenamedUptoCard : Claim7 := { stood := { row := namesRenamedUptoRow, standIns := [], harness := (true, "2a6626ff2425fbd8160449e0bac9a63ac06508016d622b5fa46911716a8a298b"), looks := true }, kinds := [], alts := [], laidByText := true, laidKinds := [.data, .data, .data, .pinned], laidTests := true, laidLooks := .later }
def NamesRenamedUptoCardSaid : Prop := Claim7.holds Tryz.pinned (.plain (OpenSpec.upto namesRenamedSpec)) namesRenamedUptoCard

/-- THE SECOND FORM's CARD OF 'interdictlaw09.NamesBack'. -/
def namesBackUptoCard : Claim7 := { stood := { row := namesBackUptoRow, standIns := [], harness := (true, "2a6626ff2425fbd8160449e0bac9a63ac06508016d622b5fa46911716a8a298b"), looks := true }, kinds := [], alts := [], laidByText := true, laidKinds := [.data, .data, .data, .pinned], laidTests := true, laidLooks := .later }
def NamesBackUptoCardSaid : Prop := Claim7.holds Tryz.pinned (.plain (OpenSpec.upto namesBackSpec)) namesBackUptoCard
end Rows
end Go.Proofs.YtojhdmfkfkfcbaaGreatDoor
