/-
  DERIVED. GIVEN WITH THE SEED: THE CARDS: each row of YtcbgclaonahijaaGreatDoorRows.lean that lists a variable, with what it lists TIED to the program's text (the seventh form; the later family's looks); each row that meets fmt, with fmt's text TOLD by the authors' own Lean function (tested against real Go, not proved from fmt's source: count such statements apart). THE CARD IS WHAT COUNTS. Prove the row's statement (the work); the ties are given (YtcbgclaonahijaaGreatDoorTie.lean); close each card by the builder's one call (the guide's Derived/Test/ToyasCard.lean, 'card_holds'). Laid BY PROGRAM, IN A SANDBOX (cutbox-door.mjs). By AI agents, Wed Nov 11 2026. No macro, syntax, notation, axiom, sorry.
-/
import Derived.Test.YtcbgclaonahijaaGreatDoorRows
import GoSem.ClaimSeven
namespace Go.Proofs.YtcbgclaonahijaaGreatDoor
namespace Rows

/-- THE TIED CARD OF 'schismalaw41.HarmonyForms'. -/
def harmonyFormsCard : Claim7 := { stood := { row := harmonyFormsRow, standIns := [], harness := (true, "43ef36b720a2c5d3d15bdcfbc142c60b966cdf6e84437cfd5052334bcbc1198b"), looks := true }, kinds := [], alts := [], laidByText := true, laidKinds := [.data, .data, .data, .sentinel, .sentinel], laidTests := true, laidLooks := .later }
def HarmonyFormsCardSaid : Prop := Claim7.holds Tryz.pinned (.plain (OpenSpec.ofChange harmonyFormsSpec)) harmonyFormsCard

/-- THE TIED CARD OF 'schismalaw41.HarmonyIdentifies'. -/
def harmonyIdentifiesCard : Claim7 := { stood := { row := harmonyIdentifiesRow, standIns := [], harness := (true, "43ef36b720a2c5d3d15bdcfbc142c60b966cdf6e84437cfd5052334bcbc1198b"), looks := true }, kinds := [], alts := [], laidByText := true, laidKinds := [.data, .data, .data, .sentinel, .sentinel], laidTests := true, laidLooks := .later }
def HarmonyIdentifiesCardSaid : Prop := Claim7.holds Tryz.pinned (.plain (OpenSpec.ofChange harmonyIdentifiesSpec)) harmonyIdentifiesCard

/-- THE TIED CARD OF 'schismalaw41.HarmonyClasses'. -/
def harmonyClassesCard : Claim7 := { stood := { row := harmonyClassesRow, standIns := [], harness := (true, "43ef36b720a2c5d3d15bdcfbc142c60b966cdf6e84437cfd5052334bcbc1198b"), looks := true }, kinds := [], alts := [], laidByText := true, laidKinds := [.data, .data, .data, .sentinel, .sentinel], laidTests := true, laidLooks := .later }
def HarmonyClassesCardSaid : Prop := Claim7.holds Tryz.pinned (.plain (OpenSpec.ofChange harmonyClassesSpec)) harmonyClassesCard

/-- THE TIED CARD OF 'schismalaw41.HarmonyPlaces'. -/
def harmonyPlacesCard : Claim7 := { stood := { row := harmonyPlacesRow, standIns := [], harness := (true, "43ef36b720a2c5d3d15bdcfbc142c60b966cdf6e84437cfd5052334bcbc1198b"), looks := true }, kinds := [], alts := [], laidByText := true, laidKinds := [.data, .data, .data, .sentinel, .sentinel], laidTests := true, laidLooks := .later }
def HarmonyPlacesCardSaid : Prop := Claim7.holds Tryz.pinned (.plain (OpenSpec.ofChange harmonyPlacesSpec)) harmonyPlacesCard

/-- THE TIED CARD OF 'schismalaw41.HarmonyUses'. -/
def harmonyUsesCard : Claim7 := { stood := { row := harmonyUsesRow, standIns := [], harness := (true, "43ef36b720a2c5d3d15bdcfbc142c60b966cdf6e84437cfd5052334bcbc1198b"), looks := true }, kinds := [], alts := [], laidByText := true, laidKinds := [.data, .data, .data, .sentinel, .sentinel], laidTests := true, laidLooks := .later }
def HarmonyUsesCardSaid : Prop := Claim7.holds Tryz.pinned (.plain (OpenSpec.ofChange harmonyUsesSpec)) harmonyUsesCard

/-- THE TIED CARD OF 'schismalaw41.HarmonyWays'. -/
def harmonyWaysCard : Claim7 := { stood := { row := harmonyWaysRow, standIns := [], harness := (true, "43ef36b720a2c5d3d15bdcfbc142c60b966cdf6e84437cfd5052334bcbc1198b"), looks := true }, kinds := [], alts := [], laidByText := true, laidKinds := [.data, .data, .data, .sentinel, .sentinel], laidTests := true, laidLooks := .later }
def HarmonyWaysCardSaid : Prop := Claim7.holds Tryz.pinned (.plain (OpenSpec.ofChange harmonyWaysSpec)) harmonyWaysCard

/-- THE TIED CARD OF 'schismalaw41.HarmonyMirrors'. -/
def harmonyMirrorsCard : Claim7 := { stood := { row := harmonyMirrorsRow, standIns := [], harness := (true, "43ef36b720a2c5d3d15bdcfbc142c60b966cdf6e84437cfd5052334bcbc1198b"), looks := true }, kinds := [], alts := [], laidByText := true, laidKinds := [.data, .data, .data, .sentinel, .sentinel], laidTests := true, laidLooks := .later }
def HarmonyMirrorsCardSaid : Prop := Claim7.holds Tryz.pinned (.plain (OpenSpec.ofChange harmonyMirrorsSpec)) harmonyMirrorsCard

/-- THE TIED CARD OF 'schismalaw41.HarmonyChecks'. -/
def harmonyChecksCard : Claim7 := { stood := { row := harmonyChecksRow, standIns := [], harness := (true, "43ef36b720a2c5d3d15bdcfbc142c60b966cdf6e84437cfd5052334bcbc1198b"), looks := true }, kinds := [], alts := [], laidByText := true, laidKinds := [.data, .data, .data, .sentinel, .sentinel], laidTests := true, laidLooks := .later }
def HarmonyChecksCardSaid : Prop := Claim7.holds Tryz.pinned (.plain (OpenSpec.ofChange harmonyChecksSpec)) harmonyChecksCard

/-- THE TIED CARD OF 'schismatop.TopDualLattices'. -/
def topDualLatticesCard : Claim7 := { stood := { row := topDualLatticesRow, standIns := [], harness := (true, "43ef36b720a2c5d3d15bdcfbc142c60b966cdf6e84437cfd5052334bcbc1198b"), looks := true }, kinds := [], alts := [], laidByText := true, laidKinds := [.data, .data, .data, .sentinel, .sentinel], laidTests := true, laidLooks := .later }
def TopDualLatticesCardSaid : Prop := Claim7.holds Tryz.pinned (.plain (OpenSpec.ofChange topDualLatticesSpec)) topDualLatticesCard

/-- THE SECOND FORM's CARD OF 'schismalaw41.HarmonyForms'. -/
def harmonyFormsUptoCard : Claim7 := { stood := { row := harmonyFormsUptoRow, standIns := [], harness := (true, "43ef36b720a2c5d3d15bdcfbc142c60b966cdf6e84437cfd5052334bcbc1198b"), looks := true }, kinds := [], alts := [], laidByText := true, laidKinds := [.data, .data, .data, .sentinel, .sentinel], laidTests := true, laidLooks := .later }
def HarmonyFormsUptoCardSaid : Prop := Claim7.holds Tryz.pinned (.plain (OpenSpec.upto harmonyFormsSpec)) harmonyFormsUptoCard

/-- THE SECOND FORM's CARD OF 'schismalaw41.HarmonyIdentifies'. -/
def harmonyIdentifiesUptoCard : Claim7 := { stood := { row := harmonyIdentifiesUptoRow, standIns := [], harness := (true, "43ef36b720a2c5d3d15bdcfbc142c60b966cdf6e84437cfd5052334bcbc1198b"), looks := true }, kinds := [], alts := [], laidByText := true, laidKinds := [.data, .data, .data, .sentinel, .sentinel], laidTests := true, laidLooks := .later }
def HarmonyIdentifiesUptoCardSaid : Prop := Claim7.holds Tryz.pinned (.plain (OpenSpec.upto harmonyIdentifiesSpec)) harmonyIdentifiesUptoCard

/-- THE SECOND FORM's CARD OF 'schismalaw41.HarmonyClasses'. -/
def harmonyClassesUptoCard : Claim7 := { stood := { row := harmonyClassesUptoRow, standIns := [], harness := (true, "43ef36b720a2c5d3d15bdcfbc142c60b966cdf6e84437cfd5052334bcbc1198b"), looks := true }, kinds := [], alts := [], laidByText := true, laidKinds := [.data, .data, .data, .sentinel, .sentinel], laidTests := true, laidLooks := .later }
def HarmonyClassesUptoCardSaid : Prop := Claim7.holds Tryz.pinned (.plain (OpenSpec.upto harmonyClassesSpec)) harmonyClassesUptoCard

/-- THE SECOND FORM's CARD OF 'schismalaw41.HarmonyPlaces'. -/
def harmonyPlacesUptoCard : Claim7 := { stood := { row := harmonyPlacesUptoRow, standIns := [], harness := (true, "43ef36b720a2c5d3d15bdcfbc142c60b966cdf6e84437cfd5052334bcbc1198b"), looks := true }, kinds := [], alts := [], laidByText := true, laidKinds := [.data, .data, .data, .sentinel, .sentinel], laidTests := true, laidLooks := .later }
def HarmonyPlacesUptoCardSaid : Prop := Claim7.holds Tryz.pinned (.plain (OpenSpec.upto harmonyPlacesSpec)) harmonyPlacesUptoCard

/-- THE SECOND FORM's CARD OF 'schismalaw41.HarmonyUses'. -/
def harmonyUsesUptoCard : Claim7 := { stood := { row := harmonyUsesUptoRow, standIns := [], harness := (true, "43ef36b720a2c5d3d15bdcfbc142c60b966cdf6e84437cfd5052334bcbc1198b"), looks := true }, kinds := [], alts := [], laidByText := true, laidKinds := [.data, .data, .data, .sentinel, .sentinel], laidTests := true, laidLooks := .later }
def HarmonyUsesUptoCardSaid : Prop := Claim7.holds Tryz.pinned (.plain (OpenSpec.upto harmonyUsesSpec)) harmonyUsesUptoCard

/-- THE SECOND FORM's CARD OF 'schismalaw41.HarmonyWays'. -/
def harmonyWaysUptoCard : Claim7 := { stood := { row := harmonyWaysUptoRow, standIns := [], harness := (true, "43ef36b720a2c5d3d15bdcfbc142c60b966cdf6e84437cfd5052334bcbc1198b"), looks := true }, kinds := [], alts := [], laidByText := true, laidKinds := [.data, .data, .data, .sentinel, .sentinel], laidTests := true, laidLooks := .later }
def HarmonyWaysUptoCardSaid : Prop := Claim7.holds Tryz.pinned (.plain (OpenSpec.upto harmonyWaysSpec)) harmonyWaysUptoCard

/-- THE SECOND FORM's CARD OF 'schismalaw41.HarmonyMirrors'. -/
def harmonyMirrorsUptoCard : Claim7 := { stood := { row := harmonyMirrorsUptoRow, standIns := [], harness := (true, "43ef36b720a2c5d3d15bdcfbc142c60b966cdf6e84437cfd5052334bcbc1198b"), looks := true }, kinds := [], alts := [], laidByText := true, laidKinds := [.data, .data, .data, .sentinel, .sentinel], laidTests := true, laidLooks := .later }
def HarmonyMirrorsUptoCardSaid : Prop := Claim7.holds Tryz.pinned (.plain (OpenSpec.upto harmonyMirrorsSpec)) harmonyMirrorsUptoCard

/-- THE SECOND FORM's CARD OF 'schismalaw41.HarmonyChecks'. -/
def harmonyChecksUptoCard : Claim7 := { stood := { row := harmonyChecksUptoRow, standIns := [], harness := (true, "43ef36b720a2c5d3d15bdcfbc142c60b966cdf6e84437cfd5052334bcbc1198b"), looks := true }, kinds := [], alts := [], laidByText := true, laidKinds := [.data, .data, .data, .sentinel, .sentinel], laidTests := true, laidLooks := .later }
def HarmonyChecksUptoCardSaid : Prop := Claim7.holds Tryz.pinned (.plain (OpenSpec.upto harmonyChecksSpec)) harmonyChecksUptoCard

/-- THE SECOND FORM's CARD OF 'schismatop.TopDualLattices'. -/
def topDualLatticesUptoCard : Claim7 := { stood := { row := topDualLatticesUptoRow, standIns := [], harness := (true, "43ef36b720a2c5d3d15bdcfbc142c60b966cdf6e84437cfd5052334bcbc1198b"), looks := true }, kinds := [], alts := [], laidByText := true, laidKinds := [.data, .data, .data, .sentinel, .sentinel], laidTests := true, laidLooks := .later }
def TopDualLatticesUptoCardSaid : Prop := Claim7.holds Tryz.pinned (.plain (OpenSpec.upto topDualLatticesSpec)) topDualLatticesUptoCard
end Rows
end Go.Proofs.YtcbgclaonahijaaGreatDoor
