/-
  DERIVED. GIVEN WITH THE SEED: THE CARDS: each row of YtcdfjaaipbjpnaaDoorRows.lean that lists a variable, with what it lists TIED to the program's text (the seventh form; the later family's looks); each row that meets fmt, with fmt's text TOLD by the authors' own Lean function (tested against real Go, not proved from fmt's source: count such statements apart). THE CARD IS WHAT COUNTS. Prove the row's statement (the work); the ties are given (YtcdfjaaipbjpnaaDoorTie.lean); close each card by the builder's one call (the guide's Derived/Test/ToyasCard.lean, 'card_holds'). Laid BY PROGRAM, IN A SANDBOX (cutbox-door.mjs). By AI agents, Wed Nov 11 2026. No macro, syntax, notation, axiom, sorry.
-/
import Derived.Test.YtcdfjaaipbjpnaaDoorRows
import GoSem.ClaimSeven
namespace Go.Proofs.YtcdfjaaipbjpnaaDoor
namespace Rows

/-- THE TIED CARD OF 'interdictlaw06.PolicyParses'. -/
def policyParsesCard : Claim7 := { stood := { row := policyParsesRow, standIns := [], harness := (true, "192bb8338e3bad59c0a95a636fd5a3b326c78b0ca367a3ee5dfa8197e95f105f"), looks := false }, kinds := [], alts := [], laidByText := true, laidKinds := [.data, .data, .pinned], laidTests := true, laidLooks := .later }
def PolicyParsesCardSaid : Prop := Claim7.holds Tryd.pinned (.plain (OpenSpec.ofChange policyParsesSpec)) policyParsesCard

/-- THE TIED CARD OF 'interdictlaw06.PolicyNotes'. -/
def policyNotesCard : Claim7 := { stood := { row := policyNotesRow, standIns := [], harness := (true, "192bb8338e3bad59c0a95a636fd5a3b326c78b0ca367a3ee5dfa8197e95f105f"), looks := false }, kinds := [], alts := [], laidByText := true, laidKinds := [.data, .data, .pinned], laidTests := true, laidLooks := .later }
def PolicyNotesCardSaid : Prop := Claim7.holds Tryd.pinned (.plain (OpenSpec.ofChange policyNotesSpec)) policyNotesCard

/-- THE TIED CARD OF 'interdictlaw06.PolicyFinds'. -/
def policyFindsCard : Claim7 := { stood := { row := policyFindsRow, standIns := [], harness := (true, "192bb8338e3bad59c0a95a636fd5a3b326c78b0ca367a3ee5dfa8197e95f105f"), looks := false }, kinds := [], alts := [], laidByText := true, laidKinds := [.data, .data, .pinned], laidTests := true, laidLooks := .later }
def PolicyFindsCardSaid : Prop := Claim7.holds Tryd.pinned (.plain (OpenSpec.ofChange policyFindsSpec)) policyFindsCard

/-- THE TIED CARD OF 'interdictlaw06.PolicyBack'. -/
def policyBackCard : Claim7 := { stood := { row := policyBackRow, standIns := [], harness := (true, "192bb8338e3bad59c0a95a636fd5a3b326c78b0ca367a3ee5dfa8197e95f105f"), looks := false }, kinds := [], alts := [], laidByText := true, laidKinds := [.data, .data, .pinned], laidTests := true, laidLooks := .later }
def PolicyBackCardSaid : Prop := Claim7.holds Tryd.pinned (.plain (OpenSpec.ofChange policyBackSpec)) policyBackCard

/-- THE TIED CARD OF 'interdictlaw06.PolicyTurns'. -/
def policyTurnsCard : Claim7 := { stood := { row := policyTurnsRow, standIns := [], harness := (true, "192bb8338e3bad59c0a95a636fd5a3b326c78b0ca367a3ee5dfa8197e95f105f"), looks := false }, kinds := [], alts := [], laidByText := true, laidKinds := [.data, .data, .pinned], laidTests := true, laidLooks := .later }
def PolicyTurnsCardSaid : Prop := Claim7.holds Tryd.pinned (.plain (OpenSpec.ofChange policyTurnsSpec)) policyTurnsCard

/-- THE SECOND FORM's CARD OF 'interdictlaw06.PolicyParses'. -/
def policyParsesUptoCard : Claim7 := { stood := { row := policyParsesUptoRow, standIns := [], harness := (true, "192bb8338e3bad59c0a95a636fd5a3b326c78b0ca367a3ee5dfa8197e95f105f"), looks := false }, kinds := [], alts := [], laidByText := true, laidKinds := [.data, .data, .pinned], laidTests := true, laidLooks := .later }
def PolicyParsesUptoCardSaid : Prop := Claim7.holds Tryd.pinned (.plain (OpenSpec.upto policyParsesSpec)) policyParsesUptoCard

/-- THE SECOND FORM's CARD OF 'interdictlaw06.PolicyNotes'. -/
def policyNotesUptoCard : Claim7 := { stood := { row := policyNotesUptoRow, standIns := [], harness := (true, "192bb8338e3bad59c0a95a636fd5a3b326c78b0ca367a3ee5dfa8197e95f105f"), looks := false }, kinds := [], alts := [], laidByText := true, laidKinds := [.data, .data, .pinned], laidTests := true, laidLooks := .later }
def PolicyNotesUptoCardSaid : Prop := Claim7.holds Tryd.pinned (.plain (OpenSpec.upto policyNotesSpec)) policyNotesUptoCard

/-- THE SECOND FORM's CARD OF 'interdictlaw06.PolicyFinds'. -/
def policyFindsUptoCard : Claim7 := { stood := { row := policyFindsUptoRow, standIns := [], harness := (true, "192bb8338e3bad59c0a95a636fd5a3b326c78b0ca367a3ee5dfa8197e95f105f"), looks := false }, kinds := [], alts := [], laidByText := true, laidKinds := [.data, .data, .pinned], laidTests := true, laidLooks := .later }
def PolicyFindsUptoCardSaid : Prop := Claim7.holds Tryd.pinned (.plain (OpenSpec.upto policyFindsSpec)) policyFindsUptoCard

/-- THE SECOND FORM's CARD OF 'interdictlaw06.PolicyBack'. -/
def policyBackUptoCard : Claim7 := { stood := { row := policyBackUptoRow, standIns := [], harness := (true, "192bb8338e3bad59c0a95a636fd5a3b326c78b0ca367a3ee5dfa8197e95f105f"), looks := false }, kinds := [], alts := [], laidByText := true, laidKinds := [.data, .data, .pinned], laidTests := true, laidLooks := .later }
def PolicyBackUptoCardSaid : Prop := Claim7.holds Tryd.pinned (.plain (OpenSpec.upto policyBackSpec)) policyBackUptoCard

/-- THE SECOND FORM's CARD OF 'interdictlaw06.PolicyTurns'. -/
def policyTurnsUptoCard : Claim7 := { stood := { row := policyTurnsUptoRow, standIns := [], harness := (true, "192bb8338e3bad59c0a95a636fd5a3b326c78b0ca367a3ee5dfa8197e95f105f"), looks := false }, kinds := [], alts := [], laidByText := true, laidKinds := [.data, .data, .pinned], laidTests := true, laidLooks := .later }
def PolicyTurnsUptoCardSaid : Prop := Claim7.holds Tryd.pinned (.plain (OpenSpec.upto policyTurnsSpec)) policyTurnsUptoCard
end Rows
end Go.Proofs.YtcdfjaaipbjpnaaDoor
