/-
  DERIVED. GIVEN WITH THE SEED: THE CARDS: each row of YtjgapmocogjkmaaGreatDoorRows.lean that lists a variable, with what it lists TIED to the program's text (the seventh form; the later family's looks); each row that meets fmt, with fmt's text TOLD by the authors' own Lean function (tested against real Go, not proved from fmt's source: count such statements apart). THE CARD IS WHAT COUNTS. Prove the row's statement (the work); the ties are given (YtjgapmocogjkmaaGreatDoorTie.lean); close each card by the builder's one call (the guide's Derived/Test/ToyasCard.lean, 'card_holds'). Laid BY PROGRAM, IN A SANDBOX (cutbox-door.mjs). By AI agents, Wed Nov 11 2026. No macro, syntax, notation, axiom, sorry.
-/
import Derived.Test.YtjgapmocogjkmaaGreatDoorRows
import GoSem.ClaimSeven
namespace Go.Proofs.YtjgapmocogjkmaaGreatDoor
namespace Rows

/-- THE TIED CARD OF 'schismalaw46.IsomorphyTurns'. -/
def isomorphyTurnsCard : Claim7 := { stood := { row := isomorphyTurnsRow, standIns := [], harness := (true, "ee564db018781ac6b746287faee2405be17d6e71022097e3d2e7e57e0d1c5cc8"), looks := true }, kinds := [], alts := [], laidByText := true, laidKinds := [.data, .data, .data, .sentinel, .sentinel], laidTests := true, laidLooks := .later }
def IsomorphyTurnsCardSaid : Prop := Claim7.holds Tryz.pinned (.plain (OpenSpec.ofChange isomorphyTurnsSpec)) isomorphyTurnsCard

/-- THE TIED CARD OF 'schismalaw46.IsomorphyShifts'. -/
def isomorphyShiftsCard : Claim7 := { stood := { row := isomorphyShiftsRow, standIns := [], harness := (true, "ee564db018781ac6b746287faee2405be17d6e71022097e3d2e7e57e0d1c5cc8"), looks := true }, kinds := [], alts := [], laidByText := true, laidKinds := [.data, .data, .data, .sentinel, .sentinel], laidTests := true, laidLooks := .later }
def IsomorphyShiftsCardSaid : Prop := Claim7.holds Tryz.pinned (.plain (OpenSpec.ofChange isomorphyShiftsSpec)) isomorphyShiftsCard

/-- THE TIED CARD OF 'schismalaw46.IsomorphySymmetries'. -/
def isomorphySymmetriesCard : Claim7 := { stood := { row := isomorphySymmetriesRow, standIns := [], harness := (true, "ee564db018781ac6b746287faee2405be17d6e71022097e3d2e7e57e0d1c5cc8"), looks := true }, kinds := [], alts := [], laidByText := true, laidKinds := [.data, .data, .data, .sentinel, .sentinel], laidTests := true, laidLooks := .later }
def IsomorphySymmetriesCardSaid : Prop := Claim7.holds Tryz.pinned (.plain (OpenSpec.ofChange isomorphySymmetriesSpec)) isomorphySymmetriesCard

/-- THE TIED CARD OF 'schismalaw46.IsomorphyChecks'. -/
def isomorphyChecksCard : Claim7 := { stood := { row := isomorphyChecksRow, standIns := [], harness := (true, "ee564db018781ac6b746287faee2405be17d6e71022097e3d2e7e57e0d1c5cc8"), looks := true }, kinds := [], alts := [], laidByText := true, laidKinds := [.data, .data, .data, .sentinel, .sentinel], laidTests := true, laidLooks := .later }
def IsomorphyChecksCardSaid : Prop := Claim7.holds Tryz.pinned (.plain (OpenSpec.ofChange isomorphyChecksSpec)) isomorphyChecksCard

/-- THE TIED CARD OF 'schismalaw46.IsomorphyForms'. -/
def isomorphyFormsCard : Claim7 := { stood := { row := isomorphyFormsRow, standIns := [], harness := (true, "ee564db018781ac6b746287faee2405be17d6e71022097e3d2e7e57e0d1c5cc8"), looks := true }, kinds := [], alts := [], laidByText := true, laidKinds := [.data, .data, .data, .sentinel, .sentinel], laidTests := true, laidLooks := .later }
def IsomorphyFormsCardSaid : Prop := Claim7.holds Tryz.pinned (.plain (OpenSpec.ofChange isomorphyFormsSpec)) isomorphyFormsCard

/-- THE TIED CARD OF 'schismalaw46.IsomorphyMoves'. -/
def isomorphyMovesCard : Claim7 := { stood := { row := isomorphyMovesRow, standIns := [], harness := (true, "ee564db018781ac6b746287faee2405be17d6e71022097e3d2e7e57e0d1c5cc8"), looks := true }, kinds := [], alts := [], laidByText := true, laidKinds := [.data, .data, .data, .sentinel, .sentinel], laidTests := true, laidLooks := .later }
def IsomorphyMovesCardSaid : Prop := Claim7.holds Tryz.pinned (.plain (OpenSpec.ofChange isomorphyMovesSpec)) isomorphyMovesCard

/-- THE TIED CARD OF 'schismalaw46.IsomorphyComposes'. -/
def isomorphyComposesCard : Claim7 := { stood := { row := isomorphyComposesRow, standIns := [], harness := (true, "ee564db018781ac6b746287faee2405be17d6e71022097e3d2e7e57e0d1c5cc8"), looks := true }, kinds := [], alts := [], laidByText := true, laidKinds := [.data, .data, .data, .sentinel, .sentinel], laidTests := true, laidLooks := .later }
def IsomorphyComposesCardSaid : Prop := Claim7.holds Tryz.pinned (.plain (OpenSpec.ofChange isomorphyComposesSpec)) isomorphyComposesCard

/-- THE TIED CARD OF 'schismalaw46.IsomorphyBoxes'. -/
def isomorphyBoxesCard : Claim7 := { stood := { row := isomorphyBoxesRow, standIns := [], harness := (true, "ee564db018781ac6b746287faee2405be17d6e71022097e3d2e7e57e0d1c5cc8"), looks := true }, kinds := [], alts := [], laidByText := true, laidKinds := [.data, .data, .data, .sentinel, .sentinel], laidTests := true, laidLooks := .later }
def IsomorphyBoxesCardSaid : Prop := Claim7.holds Tryz.pinned (.plain (OpenSpec.ofChange isomorphyBoxesSpec)) isomorphyBoxesCard

/-- THE TIED CARD OF 'schismalaw46.IsomorphyLists'. -/
def isomorphyListsCard : Claim7 := { stood := { row := isomorphyListsRow, standIns := [], harness := (true, "ee564db018781ac6b746287faee2405be17d6e71022097e3d2e7e57e0d1c5cc8"), looks := true }, kinds := [], alts := [], laidByText := true, laidKinds := [.data, .data, .data, .sentinel, .sentinel], laidTests := true, laidLooks := .later }
def IsomorphyListsCardSaid : Prop := Claim7.holds Tryz.pinned (.plain (OpenSpec.ofChange isomorphyListsSpec)) isomorphyListsCard

/-- THE SECOND FORM's CARD OF 'schismalaw46.IsomorphyTurns'. -/
def isomorphyTurnsUptoCard : Claim7 := { stood := { row := isomorphyTurnsUptoRow, standIns := [], harness := (true, "ee564db018781ac6b746287faee2405be17d6e71022097e3d2e7e57e0d1c5cc8"), looks := true }, kinds := [], alts := [], laidByText := true, laidKinds := [.data, .data, .data, .sentinel, .sentinel], laidTests := true, laidLooks := .later }
def IsomorphyTurnsUptoCardSaid : Prop := Claim7.holds Tryz.pinned (.plain (OpenSpec.upto isomorphyTurnsSpec)) isomorphyTurnsUptoCard

/-- THE SECOND FORM's CARD OF 'schismalaw46.IsomorphyShifts'. -/
def isomorphyShiftsUptoCard : Claim7 := { stood := { row := isomorphyShiftsUptoRow, standIns := [], harness := (true, "ee564db018781ac6b746287faee2405be17d6e71022097e3d2e7e57e0d1c5cc8"), looks := true }, kinds := [], alts := [], laidByText := true, laidKinds := [.data, .data, .data, .sentinel, .sentinel], laidTests := true, laidLooks := .later }
def IsomorphyShiftsUptoCardSaid : Prop := Claim7.holds Tryz.pinned (.plain (OpenSpec.upto isomorphyShiftsSpec)) isomorphyShiftsUptoCard

/-- THE SECOND FORM's CARD OF 'schismalaw46.IsomorphySymmetries'. -/
def isomorphySymmetriesUptoCard : Claim7 := { stood := { row := isomorphySymmetriesUptoRow, standIns := [], harness := (true, "ee564db018781ac6b746287faee2405be17d6e71022097e3d2e7e57e0d1c5cc8"), looks := true }, kinds := [], alts := [], laidByText := true, laidKinds := [.data, .data, .data, .sentinel, .sentinel], laidTests := true, laidLooks := .later }
def IsomorphySymmetriesUptoCardSaid : Prop := Claim7.holds Tryz.pinned (.plain (OpenSpec.upto isomorphySymmetriesSpec)) isomorphySymmetriesUptoCard

/-- THE SECOND FORM's CARD OF 'schismalaw46.IsomorphyChecks'. -/
def isomorphyChecksUptoCard : Claim7 := { stood := { row := isomorphyChecksUptoRow, standIns := [], harness := (true, "ee564db018781ac6b746287faee2405be17d6e71022097e3d2e7e57e0d1c5cc8"), looks := true }, kinds := [], alts := [], laidByText := true, laidKinds := [.data, .data, .data, .sentinel, .sentinel], laidTests := true, laidLooks := .later }
def IsomorphyChecksUptoCardSaid : Prop := Claim7.holds Tryz.pinned (.plain (OpenSpec.upto isomorphyChecksSpec)) isomorphyChecksUptoCard

/-- THE SECOND FORM's CARD OF 'schismalaw46.IsomorphyForms'. -/
def isomorphyFormsUptoCard : Claim7 := { stood := { row := isomorphyFormsUptoRow, standIns := [], harness := (true, "ee564db018781ac6b746287faee2405be17d6e71022097e3d2e7e57e0d1c5cc8"), looks := true }, kinds := [], alts := [], laidByText := true, laidKinds := [.data, .data, .data, .sentinel, .sentinel], laidTests := true, laidLooks := .later }
def IsomorphyFormsUptoCardSaid : Prop := Claim7.holds Tryz.pinned (.plain (OpenSpec.upto isomorphyFormsSpec)) isomorphyFormsUptoCard

/-- THE SECOND FORM's CARD OF 'schismalaw46.IsomorphyMoves'. -/
def isomorphyMovesUptoCard : Claim7 := { stood := { row := isomorphyMovesUptoRow, standIns := [], harness := (true, "ee564db018781ac6b746287faee2405be17d6e71022097e3d2e7e57e0d1c5cc8"), looks := true }, kinds := [], alts := [], laidByText := true, laidKinds := [.data, .data, .data, .sentinel, .sentinel], laidTests := true, laidLooks := .later }
def IsomorphyMovesUptoCardSaid : Prop := Claim7.holds Tryz.pinned (.plain (OpenSpec.upto isomorphyMovesSpec)) isomorphyMovesUptoCard

/-- THE SECOND FORM's CARD OF 'schismalaw46.IsomorphyComposes'. -/
def isomorphyComposesUptoCard : Claim7 := { stood := { row := isomorphyComposesUptoRow, standIns := [], harness := (true, "ee564db018781ac6b746287faee2405be17d6e71022097e3d2e7e57e0d1c5cc8"), looks := true }, kinds := [], alts := [], laidByText := true, laidKinds := [.data, .data, .data, .sentinel, .sentinel], laidTests := true, laidLooks := .later }
def IsomorphyComposesUptoCardSaid : Prop := Claim7.holds Tryz.pinned (.plain (OpenSpec.upto isomorphyComposesSpec)) isomorphyComposesUptoCard

/-- THE SECOND FORM's CARD OF 'schismalaw46.IsomorphyBoxes'. -/
def isomorphyBoxesUptoCard : Claim7 := { stood := { row := isomorphyBoxesUptoRow, standIns := [], harness := (true, "ee564db018781ac6b746287faee2405be17d6e71022097e3d2e7e57e0d1c5cc8"), looks := true }, kinds := [], alts := [], laidByText := true, laidKinds := [.data, .data, .data, .sentinel, .sentinel], laidTests := true, laidLooks := .later }
def IsomorphyBoxesUptoCardSaid : Prop := Claim7.holds Tryz.pinned (.plain (OpenSpec.upto isomorphyBoxesSpec)) isomorphyBoxesUptoCard

/-- THE SECOND FORM's CARD OF 'schismalaw46.IsomorphyLists'. -/
def isomorphyListsUptoCard : Claim7 := { stood := { row := isomorphyListsUptoRow, standIns := [], harness := (true, "ee564db018781ac6b746287faee2405be17d6e71022097e3d2e7e57e0d1c5cc8"), looks := true }, kinds := [], alts := [], laidByText := true, laidKinds := [.data, .data, .data, .sentinel, .sentinel], laidTests := true, laidLooks := .later }
def IsomorphyListsUptoCardSaid : Prop := Claim7.holds Tryz.pinned (.plain (OpenSpec.upto isomorphyListsSpec)) isomorphyListsUptoCard
end Rows
end Go.Proofs.YtjgapmocogjkmaaGreatDoor
