/-
  DERIVED. GIVEN WITH THE SEED: THE CARDS: each row of YtgnnglfbpcjadaaGreatDoorRows.lean that lists a variable, with what it lists TIED to the program's text (the seventh form; the later family's looks); each row that meets fmt, with fmt's text TOLD by the authors' own Lean function (tested against real Go, not proved from fmt's source: count such statements apart). THE CARD IS WHAT COUNTS. Prove the row's statement (the work); the ties are given (YtgnnglfbpcjadaaGreatDoorTie.lean); close each card by the builder's one call (the guide's Derived/Test/ToyasCard.lean, 'card_holds'). Laid BY PROGRAM, IN A SANDBOX (cutbox-door.mjs). By AI agents, Wed Nov 11 2026. No macro, syntax, notation, axiom, sorry.
-/
import Derived.Test.YtgnnglfbpcjadaaGreatDoorRows
import GoSem.ClaimSeven
namespace Go.Proofs.YtgnnglfbpcjadaaGreatDoor
namespace Rows

/-- THE TIED CARD OF 'interdictlaw15.QueuePlays'. -/
def queuePlaysCard : Claim7 := { stood := { row := queuePlaysRow, standIns := [], harness := (true, "0b542005b1cc3c01cca7960addd72be644ea33126accc0606e9aa7472d28834b"), looks := false }, kinds := [], alts := [], laidByText := true, laidKinds := [.data, .data, .pinned], laidTests := true, laidLooks := .later }
def QueuePlaysCardSaid : Prop := Claim7.holds Tryz.pinned (.plain (OpenSpec.ofChange queuePlaysSpec)) queuePlaysCard

/-- THE TIED CARD OF 'interdictlaw15.QueueSees'. -/
def queueSeesCard : Claim7 := { stood := { row := queueSeesRow, standIns := [], harness := (true, "0b542005b1cc3c01cca7960addd72be644ea33126accc0606e9aa7472d28834b"), looks := false }, kinds := [], alts := [], laidByText := true, laidKinds := [.data, .data, .pinned], laidTests := true, laidLooks := .later }
def QueueSeesCardSaid : Prop := Claim7.holds Tryz.pinned (.plain (OpenSpec.ofChange queueSeesSpec)) queueSeesCard

/-- THE SECOND FORM's CARD OF 'interdictlaw15.QueuePlays'. -/
def queuePlaysUptoCard : Claim7 := { stood := { row := queuePlaysUptoRow, standIns := [], harness := (true, "0b542005b1cc3c01cca7960addd72be644ea33126accc0606e9aa7472d28834b"), looks := false }, kinds := [], alts := [], laidByText := true, laidKinds := [.data, .data, .pinned], laidTests := true, laidLooks := .later }
def QueuePlaysUptoCardSaid : Prop := Claim7.holds Tryz.pinned (.plain (OpenSpec.upto queuePlaysSpec)) queuePlaysUptoCard

/-- THE SECOND FORM's CARD OF 'interdictlaw15.QueueSees'. -/
def queueSeesUptoCard : Claim7 := { stood := { row := queueSeesUptoRow, standIns := [], harness := (true, "0b542005b1cc3c01cca7960addd72be644ea33126accc0606e9aa7472d28834b"), looks := false }, kinds := [], alts := [], laidByText := true, laidKinds := [.data, .data, .pinned], laidTests := true, laidLooks := .later }
def QueueSeesUptoCardSaid : Prop := Claim7.holds Tryz.pinned (.plain (OpenSpec.upto queueSeesSpec)) queueSeesUptoCard
end Rows
end Go.Proofs.YtgnnglfbpcjadaaGreatDoor
