/-
  DERIVED. GIVEN WITH THE SEED: THE CARDS: each row of YtofanbmeemahgaaDoorRows.lean that lists a variable, with what it lists TIED to the program's text (the seventh form; the later family's looks); each row that meets fmt, with fmt's text TOLD by the authors' own Lean function (tested against real Go, not proved from fmt's source: count such statements apart). THE CARD IS WHAT COUNTS. Prove the row's statement (the work); the ties are given (YtofanbmeemahgaaDoorTie.lean); close each card by the builder's one call (the guide's Derived/Test/ToyasCard.lean, 'card_holds'). Laid BY PROGRAM, IN A SANDBOX (cutbox-door.mjs). By AI agents, Wed Nov 11 2026. No macro, syntax, notation, axiom, sorry.
-/
import Derived.Test.YtofanbmeemahgaaDoorRows
import GoSem.ClaimSeven
namespace Go.Proofs.YtofanbmeemahgaaDoor
namespace Rows

/-- THE TIED CARD OF 'interdictlaw03.TokenWords'. -/
def tokenWordsCard : Claim7 := { stood := { row := tokenWordsRow, standIns := [], harness := (true, "c8aef9ddb015348a8987b972da1188fd43b0c81036966f3d1ecd023e8b8109c3"), looks := false }, kinds := [], alts := [], laidByText := true, laidKinds := [.data, .pinned], laidTests := true, laidLooks := .later }
def TokenWordsCardSaid : Prop := Claim7.holds Tryd.pinned (.plain (OpenSpec.ofChange tokenWordsSpec)) tokenWordsCard

/-- THE TIED CARD OF 'interdictlaw03.TokenOnes'. -/
def tokenOnesCard : Claim7 := { stood := { row := tokenOnesRow, standIns := [], harness := (true, "c8aef9ddb015348a8987b972da1188fd43b0c81036966f3d1ecd023e8b8109c3"), looks := false }, kinds := [], alts := [], laidByText := true, laidKinds := [.data, .pinned], laidTests := true, laidLooks := .later }
def TokenOnesCardSaid : Prop := Claim7.holds Tryd.pinned (.plain (OpenSpec.ofChange tokenOnesSpec)) tokenOnesCard

/-- THE TIED CARD OF 'interdictlaw03.TokenAlls'. -/
def tokenAllsCard : Claim7 := { stood := { row := tokenAllsRow, standIns := [], harness := (true, "c8aef9ddb015348a8987b972da1188fd43b0c81036966f3d1ecd023e8b8109c3"), looks := false }, kinds := [], alts := [], laidByText := true, laidKinds := [.data, .pinned], laidTests := true, laidLooks := .later }
def TokenAllsCardSaid : Prop := Claim7.holds Tryd.pinned (.plain (OpenSpec.ofChange tokenAllsSpec)) tokenAllsCard

/-- THE TIED CARD OF 'interdictlaw03.TokenPieces'. -/
def tokenPiecesCard : Claim7 := { stood := { row := tokenPiecesRow, standIns := [], harness := (true, "c8aef9ddb015348a8987b972da1188fd43b0c81036966f3d1ecd023e8b8109c3"), looks := false }, kinds := [], alts := [], laidByText := true, laidKinds := [.data, .pinned], laidTests := true, laidLooks := .later }
def TokenPiecesCardSaid : Prop := Claim7.holds Tryd.pinned (.plain (OpenSpec.ofChange tokenPiecesSpec)) tokenPiecesCard

/-- THE TIED CARD OF 'interdictlaw03.TokenJoins'. -/
def tokenJoinsCard : Claim7 := { stood := { row := tokenJoinsRow, standIns := [], harness := (true, "c8aef9ddb015348a8987b972da1188fd43b0c81036966f3d1ecd023e8b8109c3"), looks := false }, kinds := [], alts := [], laidByText := true, laidKinds := [.data, .pinned], laidTests := true, laidLooks := .later }
def TokenJoinsCardSaid : Prop := Claim7.holds Tryd.pinned (.plain (OpenSpec.ofChange tokenJoinsSpec)) tokenJoinsCard

/-- THE TIED CARD OF 'interdictlaw03.TokenRemarks'. -/
def tokenRemarksCard : Claim7 := { stood := { row := tokenRemarksRow, standIns := [], harness := (true, "c8aef9ddb015348a8987b972da1188fd43b0c81036966f3d1ecd023e8b8109c3"), looks := false }, kinds := [], alts := [], laidByText := true, laidKinds := [.data, .pinned], laidTests := true, laidLooks := .later }
def TokenRemarksCardSaid : Prop := Claim7.holds Tryd.pinned (.plain (OpenSpec.ofChange tokenRemarksSpec)) tokenRemarksCard

/-- THE SECOND FORM's CARD OF 'interdictlaw03.TokenWords'. -/
def tokenWordsUptoCard : Claim7 := { stood := { row := tokenWordsUptoRow, standIns := [], harness := (true, "c8aef9ddb015348a8987b972da1188fd43b0c81036966f3d1ecd023e8b8109c3"), looks := false }, kinds := [], alts := [], laidByText := true, laidKinds := [.data, .pinned], laidTests := true, laidLooks := .later }
def TokenWordsUptoCardSaid : Prop := Claim7.holds Tryd.pinned (.plain (OpenSpec.upto tokenWordsSpec)) tokenWordsUptoCard

/-- THE SECOND FORM's CARD OF 'interdictlaw03.TokenOnes'. -/
def tokenOnesUptoCard : Claim7 := { stood := { row := tokenOnesUptoRow, standIns := [], harness := (true, "c8aef9ddb015348a8987b972da1188fd43b0c81036966f3d1ecd023e8b8109c3"), looks := false }, kinds := [], alts := [], laidByText := true, laidKinds := [.data, .pinned], laidTests := true, laidLooks := .later }
def TokenOnesUptoCardSaid : Prop := Claim7.holds Tryd.pinned (.plain (OpenSpec.upto tokenOnesSpec)) tokenOnesUptoCard

/-- THE SECOND FORM's CARD OF 'interdictlaw03.TokenAlls'. -/
def tokenAllsUptoCard : Claim7 := { stood := { row := tokenAllsUptoRow, standIns := [], harness := (true, "c8aef9ddb015348a8987b972da1188fd43b0c81036966f3d1ecd023e8b8109c3"), looks := false }, kinds := [], alts := [], laidByText := true, laidKinds := [.data, .pinned], laidTests := true, laidLooks := .later }
def TokenAllsUptoCardSaid : Prop := Claim7.holds Tryd.pinned (.plain (OpenSpec.upto tokenAllsSpec)) tokenAllsUptoCard

/-- THE SECOND FORM's CARD OF 'interdictlaw03.TokenPieces'. -/
def tokenPiecesUptoCard : Claim7 := { stood := { row := tokenPiecesUptoRow, standIns := [], harness := (true, "c8aef9ddb015348a8987b972da1188fd43b0c81036966f3d1ecd023e8b8109c3"), looks := false }, kinds := [], alts := [], laidByText := true, laidKinds := [.data, .pinned], laidTests := true, laidLooks := .later }
def TokenPiecesUptoCardSaid : Prop := Claim7.holds Tryd.pinned (.plain (OpenSpec.upto tokenPiecesSpec)) tokenPiecesUptoCard

/-- THE SECOND FORM's CARD OF 'interdictlaw03.TokenJoins'. -/
def tokenJoinsUptoCard : Claim7 := { stood := { row := tokenJoinsUptoRow, standIns := [], harness := (true, "c8aef9ddb015348a8987b972da1188fd43b0c81036966f3d1ecd023e8b8109c3"), looks := false }, kinds := [], alts := [], laidByText := true, laidKinds := [.data, .pinned], laidTests := true, laidLooks := .later }
def TokenJoinsUptoCardSaid : Prop := Claim7.holds Tryd.pinned (.plain (OpenSpec.upto tokenJoinsSpec)) tokenJoinsUptoCard

/-- THE SECOND FORM's CARD OF 'interdictlaw03.TokenRemarks'. -/
def tokenRemarksUptoCard : Claim7 := { stood := { row := tokenRemarksUptoRow, standIns := [], harness := (true, "c8aef9ddb015348a8987b972da1188fd43b0c81036966f3d1ecd023e8b8109c3"), looks := false }, kinds := [], alts := [], laidByText := true, laidKinds := [.data, .pinned], laidTests := true, laidLooks := .later }
def TokenRemarksUptoCardSaid : Prop := Claim7.holds Tryd.pinned (.plain (OpenSpec.upto tokenRemarksSpec)) tokenRemarksUptoCard
end Rows
end Go.Proofs.YtofanbmeemahgaaDoor
