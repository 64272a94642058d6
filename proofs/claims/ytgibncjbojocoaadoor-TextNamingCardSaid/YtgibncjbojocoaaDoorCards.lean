/-
  DERIVED. GIVEN WITH THE SEED: THE CARDS: each row of YtgibncjbojocoaaDoorRows.lean that lists a variable, with what it lists TIED to the program's text (the seventh form; the later family's looks); each row that meets fmt, with fmt's text TOLD by the authors' own Lean function (tested against real Go, not proved from fmt's source: count such statements apart). THE CARD IS WHAT COUNTS. Prove the row's statement (the work); the ties are given (YtgibncjbojocoaaDoorTie.lean); close each card by the builder's one call (the guide's Derived/Test/ToyasCard.lean, 'card_holds'). Laid BY PROGRAM, IN A SANDBOX (cutbox-door.mjs). By AI agents, Wed Nov 11 2026. No macro, syntax, notation, axiom, sorry.
-/
import Derived.Test.YtgibncjbojocoaaDoorRows
import GoSem.ClaimSeven
namespace Go.Proofs.YtgibncjbojocoaaDoor
namespace Rows

/-- THE TIED CARD OF 'interdictlaw01.TextForms'. -/
def textFormsCard : Claim7 := { stood := { row := textFormsRow, standIns := [], harness := (true, "54aabdd260ed5032ebc99eceef26ddb029b851961df053aa8b338327f4ec0a90"), looks := false }, kinds := [], alts := [], laidByText := true, laidKinds := [.data, .pinned], laidTests := true, laidLooks := .later }
def TextFormsCardSaid : Prop := Claim7.holds Tryd.pinned (.plain (OpenSpec.ofChange textFormsSpec)) textFormsCard

/-- THE TIED CARD OF 'interdictlaw01.TextJoins'. -/
def textJoinsCard : Claim7 := { stood := { row := textJoinsRow, standIns := [], harness := (true, "54aabdd260ed5032ebc99eceef26ddb029b851961df053aa8b338327f4ec0a90"), looks := false }, kinds := [], alts := [], laidByText := true, laidKinds := [.data, .pinned], laidTests := true, laidLooks := .later }
def TextJoinsCardSaid : Prop := Claim7.holds Tryd.pinned (.plain (OpenSpec.ofChange textJoinsSpec)) textJoinsCard

/-- THE TIED CARD OF 'interdictlaw01.TextNaming'. -/
def textNamingCard : Claim7 := { stood := { row := textNamingRow, standIns := [], harness := (true, "54aabdd260ed5032ebc99eceef26ddb029b851961df053aa8b338327f4ec0a90"), looks := false }, kinds := [], alts := [], laidByText := true, laidKinds := [.data, .pinned], laidTests := true, laidLooks := .later }
def TextNamingCardSaid : Prop := Claim7.holds Tryd.pinned (.plain (OpenSpec.ofChange textNamingSpec)) textNamingCard

/-- THE SECOND FORM's CARD OF 'interdictlaw01.TextForms'. -/
def textFormsUptoCard : Claim7 := { stood := { row := textFormsUptoRow, standIns := [], harness := (true, "54aabdd260ed5032ebc99eceef26ddb029b851961df053aa8b338327f4ec0a90"), looks := false }, kinds := [], alts := [], laidByText := true, laidKinds := [.data, .pinned], laidTests := true, laidLooks := .later }
def TextFormsUptoCardSaid : Prop := Claim7.holds Tryd.pinned (.plain (OpenSpec.upto textFormsSpec)) textFormsUptoCard

/-- THE SECOND FORM's CARD OF 'interdictlaw01.TextJoins'. -/
def textJoinsUptoCard : Claim7 := { stood := { row := textJoinsUptoRow, standIns := [], harness := (true, "54aabdd260ed5032ebc99eceef26ddb029b851961df053aa8b338327f4ec0a90"), looks := false }, kinds := [], alts := [], laidByText := true, laidKinds := [.data, .pinned], laidTests := true, laidLooks := .later }
def TextJoinsUptoCardSaid : Prop := Claim7.holds Tryd.pinned (.plain (OpenSpec.upto textJoinsSpec)) textJoinsUptoCard

/-- THE SECOND FORM's CARD OF 'interdictlaw01.TextNaming'. -/
def textNamingUptoCard : Claim7 := { stood := { row := textNamingUptoRow, standIns := [], harness := (true, "54aabdd260ed5032ebc99eceef26ddb029b851961df053aa8b338327f4ec0a90"), looks := false }, kinds := [], alts := [], laidByText := true, laidKinds := [.data, .pinned], laidTests := true, laidLooks := .later }
def TextNamingUptoCardSaid : Prop := Claim7.holds Tryd.pinned (.plain (OpenSpec.upto textNamingSpec)) textNamingUptoCard
end Rows
end Go.Proofs.YtgibncjbojocoaaDoor
