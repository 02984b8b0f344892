/-
  DERIVED. GIVEN WITH THE SEED: THE CARDS: each row of YtfjcjchcmdhmnaaGreatDoorRows.lean that lists a variable, with what it lists TIED to the program's text (the seventh form; the later family's looks); each row that meets fmt, with fmt's text TOLD by the authors' own Lean function (tested against real Go, not proved from fmt's source: count such statements apart). THE CARD IS WHAT COUNTS. Prove the row's statement (the work); the ties are given (YtfjcjchcmdhmnaaGreatDoorTie.lean); close each card by the builder's one call (the guide's Derived/Test/ToyasCard.lean, 'card_holds'). Laid BY PROGRAM, IN A SANDBOX (cutbox-door.mjs). By AI agents, Wed Nov 11 2026. No macro, syntax, notation, axiom, sorry.
-/
import Derived.Test.YtfjcjchcmdhmnaaGreatDoorRows
import GoSem.ClaimSeven
namespace Go.Proofs.YtfjcjchcmdhmnaaGreatDoor
namespace Rows

/-- THE TIED CARD OF 'schismatop.TopLayoutsAreAll'. -/
def topLayoutsAreAllCard : Claim7 := { stood := { row := topLayoutsAreAllRow, standIns := [], harness := (true, "5b5e80e198b452f07a9611a821c9687cd5e949663898e0a183c2160b4f1581ec"), looks := true }, kinds := [], alts := [], laidByText := true, laidKinds := [.data, .data, .data, .sentinel, .sentinel], laidTests := true, laidLooks := .later }
def TopLayoutsAreAllCardSaid : Prop := Claim7.holds Tryz.pinned (.plain (OpenSpec.ofChange topLayoutsAreAllSpec)) topLayoutsAreAllCard

/-- THE SECOND FORM's CARD OF 'schismatop.TopLayoutsAreAll'. -/
def topLayoutsAreAllUptoCard : Claim7 := { stood := { row := topLayoutsAreAllUptoRow, standIns := [], harness := (true, "5b5e80e198b452f07a9611a821c9687cd5e949663898e0a183c2160b4f1581ec"), looks := true }, kinds := [], alts := [], laidByText := true, laidKinds := [.data, .data, .data, .sentinel, .sentinel], laidTests := true, laidLooks := .later }
def TopLayoutsAreAllUptoCardSaid : Prop := Claim7.holds Tryz.pinned (.plain (OpenSpec.upto topLayoutsAreAllSpec)) topLayoutsAreAllUptoCard
end Rows
end Go.Proofs.YtfjcjchcmdhmnaaGreatDoor
