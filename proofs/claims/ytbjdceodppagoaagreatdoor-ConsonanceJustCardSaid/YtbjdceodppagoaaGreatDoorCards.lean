/-
  DERIVED. GIVEN WITH THE SEED: THE CARDS: each row of YtbjdceodppagoaaGreatDoorRows.lean that lists a variable, with what it lists TIED to the program's text (the seventh form; the later family's looks); each row that meets fmt, with fmt's text TOLD by the authors' own Lean function (tested against real Go, not proved from fmt's source: count such statements apart). THE CARD IS WHAT COUNTS. Prove the row's statement (the work); the ties are given (YtbjdceodppagoaaGreatDoorTie.lean); close each card by the builder's one call (the guide's Derived/Test/ToyasCard.lean, 'card_holds'). Laid BY PROGRAM, IN A SANDBOX (cutbox-door.mjs). By AI agents, Wed Nov 11 2026. No macro, syntax, notation, axiom, sorry.
-/
import Derived.Test.YtbjdceodppagoaaGreatDoorRows
import GoSem.ClaimSeven
namespace Go.Proofs.YtbjdceodppagoaaGreatDoor
namespace Rows

/-- THE TIED CARD OF 'schismalaw40.ConsonanceTempers'. -/
def consonanceTempersCard : Claim7 := { stood := { row := consonanceTempersRow, standIns := [], harness := (true, "4737ab51d747d2c0b085b5e968aa05c3c5b4528a24f532e7a84ab250f862f1d6"), looks := true }, kinds := [], alts := [], laidByText := true, laidKinds := [.data, .data, .data, .sentinel, .sentinel], laidTests := true, laidLooks := .later }
def ConsonanceTempersCardSaid : Prop := Claim7.holds Tryz.pinned (.plain (OpenSpec.ofChange consonanceTempersSpec)) consonanceTempersCard

/-- THE TIED CARD OF 'schismalaw40.ConsonanceJust'. -/
def consonanceJustCard : Claim7 := { stood := { row := consonanceJustRow, standIns := [], harness := (true, "4737ab51d747d2c0b085b5e968aa05c3c5b4528a24f532e7a84ab250f862f1d6"), looks := true }, kinds := [], alts := [], laidByText := true, laidKinds := [.data, .data, .data, .sentinel, .sentinel], laidTests := true, laidLooks := .later }
def ConsonanceJustCardSaid : Prop := Claim7.holds Tryz.pinned (.plain (OpenSpec.ofChange consonanceJustSpec)) consonanceJustCard

/-- THE TIED CARD OF 'schismalaw40.ConsonanceErrors'. -/
def consonanceErrorsCard : Claim7 := { stood := { row := consonanceErrorsRow, standIns := [], harness := (true, "4737ab51d747d2c0b085b5e968aa05c3c5b4528a24f532e7a84ab250f862f1d6"), looks := true }, kinds := [], alts := [], laidByText := true, laidKinds := [.data, .data, .data, .sentinel, .sentinel], laidTests := true, laidLooks := .later }
def ConsonanceErrorsCardSaid : Prop := Claim7.holds Tryz.pinned (.plain (OpenSpec.ofChange consonanceErrorsSpec)) consonanceErrorsCard

/-- THE SECOND FORM's CARD OF 'schismalaw40.ConsonanceTempers'. -/
def consonanceTempersUptoCard : Claim7 := { stood := { row := consonanceTempersUptoRow, standIns := [], harness := (true, "4737ab51d747d2c0b085b5e968aa05c3c5b4528a24f532e7a84ab250f862f1d6"), looks := true }, kinds := [], alts := [], laidByText := true, laidKinds := [.data, .data, .data, .sentinel, .sentinel], laidTests := true, laidLooks := .later }
def ConsonanceTempersUptoCardSaid : Prop := Claim7.holds Tryz.pinned (.plain (OpenSpec.upto consonanceTempersSpec)) consonanceTempersUptoCard

/-- THE SECOND FORM's CARD OF 'schismalaw40.ConsonanceJust'. -/
def consonanceJustUptoCard : Claim7 := { stood := { row := consonanceJustUptoRow, standIns := [], harness := (true, "4737ab51d747d2c0b085b5e968aa05c3c5b4528a24f532e7a84ab250f862f1d6"), looks := true }, kinds := [], alts := [], laidByText := true, laidKinds := [.data, .data, .data, .sentinel, .sentinel], laidTests := true, laidLooks := .later }
def ConsonanceJustUptoCardSaid : Prop := Claim7.holds Tryz.pinned (.plain (OpenSpec.upto consonanceJustSpec)) consonanceJustUptoCard

/-- THE SECOND FORM's CARD OF 'schismalaw40.ConsonanceErrors'. -/
def consonanceErrorsUptoCard : Claim7 := { stood := { row := consonanceErrorsUptoRow, standIns := [], harness := (true, "4737ab51d747d2c0b085b5e968aa05c3c5b4528a24f532e7a84ab250f862f1d6"), looks := true }, kinds := [], alts := [], laidByText := true, laidKinds := [.data, .data, .data, .sentinel, .sentinel], laidTests := true, laidLooks := .later }
def ConsonanceErrorsUptoCardSaid : Prop := Claim7.holds Tryz.pinned (.plain (OpenSpec.upto consonanceErrorsSpec)) consonanceErrorsUptoCard
end Rows
end Go.Proofs.YtbjdceodppagoaaGreatDoor
