/-
  DERIVED. GIVEN WITH THE SEED: THE CARDS: each row of YtgnnglfbpcjadaaDoorRows.lean that lists a variable, with what it lists TIED to the program's text (the seventh form; the later family's looks); each row that meets fmt, with fmt's text TOLD by the authors' own Lean function (tested against real Go, not proved from fmt's source: count such statements apart). THE CARD IS WHAT COUNTS. Prove the row's statement (the work); the ties are given (YtgnnglfbpcjadaaDoorTie.lean); close each card by the builder's one call (the guide's Derived/Test/ToyasCard.lean, 'card_holds'). Laid BY PROGRAM, IN A SANDBOX (cutbox-door.mjs). By AI agents, Wed Nov 11 2026. No macro, syntax, notation, axiom, sorry.
-/
import Derived.Test.YtgnnglfbpcjadaaDoorRows
import GoSem.ClaimSeven
namespace Go.Proofs.YtgnnglfbpcjadaaDoor
namespace Rows

/-- THE TIED CARD OF 'interdictlaw15.QueueMixes'. -/
def queueMixesCard : Claim7 := { stood := { row := queueMixesRow, standIns := [], harness := (true, "19caea53a47355df5f911bebd7d11bf23110a15ae350b7090cff92a8dcf82c39"), looks := false }, kinds := [], alts := [], laidByText := true, laidKinds := [.data, .data, .pinned], laidTests := true, laidLooks := .later }
def QueueMixesCardSaid : Prop := Claim7.holds Tryd.pinned (.plain (OpenSpec.ofChange queueMixesSpec)) queueMixesCard

/-- THE TIED CARD OF 'interdictlaw15.QueueNil'. -/
def queueNilCard : Claim7 := { stood := { row := queueNilRow, standIns := [], harness := (true, "19caea53a47355df5f911bebd7d11bf23110a15ae350b7090cff92a8dcf82c39"), looks := false }, kinds := [], alts := [], laidByText := true, laidKinds := [.data, .data, .pinned], laidTests := true, laidLooks := .later }
def QueueNilCardSaid : Prop := Claim7.holds Tryd.pinned (.plain (OpenSpec.ofChange queueNilSpec)) queueNilCard

/-- THE SECOND FORM's CARD OF 'interdictlaw15.QueueMixes'. -/
def queueMixesUptoCard : Claim7 := { stood := { row := queueMixesUptoRow, standIns := [], harness := (true, "19caea53a47355df5f911bebd7d11bf23110a15ae350b7090cff92a8dcf82c39"), looks := false }, kinds := [], alts := [], laidByText := true, laidKinds := [.data, .data, .pinned], laidTests := true, laidLooks := .later }
def QueueMixesUptoCardSaid : Prop := Claim7.holds Tryd.pinned (.plain (OpenSpec.upto queueMixesSpec)) queueMixesUptoCard

/-- THE SECOND FORM's CARD OF 'interdictlaw15.QueueNil'. -/
def queueNilUptoCard : Claim7 := { stood := { row := queueNilUptoRow, standIns := [], harness := (true, "19caea53a47355df5f911bebd7d11bf23110a15ae350b7090cff92a8dcf82c39"), looks := false }, kinds := [], alts := [], laidByText := true, laidKinds := [.data, .data, .pinned], laidTests := true, laidLooks := .later }
def QueueNilUptoCardSaid : Prop := Claim7.holds Tryd.pinned (.plain (OpenSpec.upto queueNilSpec)) queueNilUptoCard
end Rows
end Go.Proofs.YtgnnglfbpcjadaaDoor
