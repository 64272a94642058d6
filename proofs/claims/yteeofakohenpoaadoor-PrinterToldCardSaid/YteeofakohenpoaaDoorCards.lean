/-
  DERIVED. GIVEN WITH THE SEED: THE CARDS: each row of YteeofakohenpoaaDoorRows.lean that lists a variable, with what it lists TIED to the program's text (the seventh form; the later family's looks); each row that meets fmt, with fmt's text TOLD by the authors' own Lean function (tested against real Go, not proved from fmt's source: count such statements apart). THE CARD IS WHAT COUNTS. Prove the row's statement (the work); the ties are given (YteeofakohenpoaaDoorTie.lean); close each card by the builder's one call (the guide's Derived/Test/ToyasCard.lean, 'card_holds'). Laid BY PROGRAM, IN A SANDBOX (cutbox-door.mjs). By AI agents, Wed Nov 11 2026. No macro, syntax, notation, axiom, sorry.
-/
import Derived.Test.YteeofakohenpoaaDoorRows
import GoSem.ClaimSeven
namespace Go.Proofs.YteeofakohenpoaaDoor
namespace Rows

/-- THE TIED CARD OF 'interdictlaw08.PrinterBack'. -/
def printerBackCard : Claim7 := { stood := { row := printerBackRow, standIns := [], harness := (true, "be4a843d41bf7063ac6e2e4ca1c99b6e9a7d490cccf97f4c0ef297f63f7e2d41"), looks := true }, kinds := [], alts := [], laidByText := true, laidKinds := [.data, .data, .pinned], laidTests := true, laidLooks := .later }
def PrinterBackCardSaid : Prop := Claim7.holds Tryd.pinned (.plain (OpenSpec.ofChange printerBackSpec)) printerBackCard

/-- THE TIED CARD OF 'interdictlaw08.PrinterTold'. -/
def printerToldCard : Claim7 := { stood := { row := printerToldRow, standIns := [], harness := (true, "be4a843d41bf7063ac6e2e4ca1c99b6e9a7d490cccf97f4c0ef297f63f7e2d41"), looks := true }, kinds := [], alts := [], laidByText := true, laidKinds := [.data, .data, .pinned], laidTests := true, laidLooks := .later }
def PrinterToldCardSaid : Prop := Claim7.holds Tryd.pinned (.plain (OpenSpec.ofChange printerToldSpec)) printerToldCard

/-- THE TIED CARD OF 'interdictlaw08.PrinterAlone'. -/
def printerAloneCard : Claim7 := { stood := { row := printerAloneRow, standIns := [], harness := (true, "be4a843d41bf7063ac6e2e4ca1c99b6e9a7d490cccf97f4c0ef297f63f7e2d41"), looks := true }, kinds := [], alts := [], laidByText := true, laidKinds := [.data, .data, .pinned], laidTests := true, laidLooks := .later }
def PrinterAloneCardSaid : Prop := Claim7.holds Tryd.pinned (.plain (OpenSpec.ofChange printerAloneSpec)) printerAloneCard

/-- THE SECOND FORM's CARD OF 'interdictlaw08.PrinterBack'. -/
def printerBackUptoCard : Claim7 := { stood := { row := printerBackUptoRow, standIns := [], harness := (true, "be4a843d41bf7063ac6e2e4ca1c99b6e9a7d490cccf97f4c0ef297f63f7e2d41"), looks := true }, kinds := [], alts := [], laidByText := true, laidKinds := [.data, .data, .pinned], laidTests := true, laidLooks := .later }
def PrinterBackUptoCardSaid : Prop := Claim7.holds Tryd.pinned (.plain (OpenSpec.upto printerBackSpec)) printerBackUptoCard

/-- THE SECOND FORM's CARD OF 'interdictlaw08.PrinterTold'. -/
def printerToldUptoCard : Claim7 := { stood := { row := printerToldUptoRow, standIns := [], harness := (true, "be4a843d41bf7063ac6e2e4ca1c99b6e9a7d490cccf97f4c0ef297f63f7e2d41"), looks := true }, kinds := [], alts := [], laidByText := true, laidKinds := [.data, .data, .pinned], laidTests := true, laidLooks := .later }
def PrinterToldUptoCardSaid : Prop := Claim7.holds Tryd.pinned (.plain (OpenSpec.upto printerToldSpec)) printerToldUptoCard

/-- THE SECOND FORM's CARD OF 'interdictlaw08.PrinterAlone'. -/
def printerAloneUptoCard : Claim7 := { stood := { row := printerAloneUptoRow, standIns := [], harness := (true, "be4a843d41bf7063ac6e2e4ca1c99b6e9a7d490cccf97f4c0ef297f63f7e2d41"), looks := true }, kinds := [], alts := [], laidByText := true, laidKinds := [.data, .data, .pinned], laidTests := true, laidLooks := .later }
def PrinterAloneUptoCardSaid : Prop := Claim7.holds Tryd.pinned (.plain (OpenSpec.upto printerAloneSpec)) printerAloneUptoCard
end Rows
end Go.Proofs.YteeofakohenpoaaDoor
