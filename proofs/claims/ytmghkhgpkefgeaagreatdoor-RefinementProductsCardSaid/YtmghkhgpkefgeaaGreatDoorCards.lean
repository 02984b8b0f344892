/-
  DERIVED. GIVEN WITH THE SEED: THE CARDS: each row of YtmghkhgpkefgeaaGreatDoorRows.lean that lists a variable, with what it lists TIED to the program's text (the seventh form; the later family's looks); each row that meets fmt, with fmt's text TOLD by the authors' own Lean function (tested against real Go, not proved from fmt's source: count such statements apart). THE CARD IS WHAT COUNTS. Prove the row's statement (the work); the ties are given (YtmghkhgpkefgeaaGreatDoorTie.lean); close each card by the builder's one call (the guide's Derived/Test/ToyasCard.lean, 'card_holds'). Laid BY PROGRAM, IN A SANDBOX (cutbox-door.mjs). By AI agents, Wed Nov 11 2026. No macro, syntax, notation, axiom, sorry.
-/
import Derived.Test.YtmghkhgpkefgeaaGreatDoorRows
import GoSem.ClaimSeven
namespace Go.Proofs.YtmghkhgpkefgeaaGreatDoor
namespace Rows

/-- THE TIED CARD OF 'schismalaw19.RefinementBounds'. -/
def refinementBoundsCard : Claim7 := { stood := { row := refinementBoundsRow, standIns := [], harness := (true, "33e047b0af78c8fb7bfd7db96a16d110cf00f1f826dbc35bc3c5963cbd2d27d7"), looks := true }, kinds := [], alts := [], laidByText := true, laidKinds := [.data, .data, .data, .sentinel, .sentinel], laidTests := true, laidLooks := .later }
def RefinementBoundsCardSaid : Prop := Claim7.holds Tryz.pinned (.plain (OpenSpec.ofChange refinementBoundsSpec)) refinementBoundsCard

/-- THE TIED CARD OF 'schismalaw19.RefinementJoins'. -/
def refinementJoinsCard : Claim7 := { stood := { row := refinementJoinsRow, standIns := [], harness := (true, "33e047b0af78c8fb7bfd7db96a16d110cf00f1f826dbc35bc3c5963cbd2d27d7"), looks := true }, kinds := [], alts := [], laidByText := true, laidKinds := [.data, .data, .data, .sentinel, .sentinel], laidTests := true, laidLooks := .later }
def RefinementJoinsCardSaid : Prop := Claim7.holds Tryz.pinned (.plain (OpenSpec.ofChange refinementJoinsSpec)) refinementJoinsCard

/-- THE TIED CARD OF 'schismalaw19.RefinementMeets'. -/
def refinementMeetsCard : Claim7 := { stood := { row := refinementMeetsRow, standIns := [], harness := (true, "33e047b0af78c8fb7bfd7db96a16d110cf00f1f826dbc35bc3c5963cbd2d27d7"), looks := true }, kinds := [], alts := [], laidByText := true, laidKinds := [.data, .data, .data, .sentinel, .sentinel], laidTests := true, laidLooks := .later }
def RefinementMeetsCardSaid : Prop := Claim7.holds Tryz.pinned (.plain (OpenSpec.ofChange refinementMeetsSpec)) refinementMeetsCard

/-- THE TIED CARD OF 'schismalaw19.RefinementOrders'. -/
def refinementOrdersCard : Claim7 := { stood := { row := refinementOrdersRow, standIns := [], harness := (true, "33e047b0af78c8fb7bfd7db96a16d110cf00f1f826dbc35bc3c5963cbd2d27d7"), looks := true }, kinds := [], alts := [], laidByText := true, laidKinds := [.data, .data, .data, .sentinel, .sentinel], laidTests := true, laidLooks := .later }
def RefinementOrdersCardSaid : Prop := Claim7.holds Tryz.pinned (.plain (OpenSpec.ofChange refinementOrdersSpec)) refinementOrdersCard

/-- THE TIED CARD OF 'schismalaw19.RefinementRestricts'. -/
def refinementRestrictsCard : Claim7 := { stood := { row := refinementRestrictsRow, standIns := [], harness := (true, "33e047b0af78c8fb7bfd7db96a16d110cf00f1f826dbc35bc3c5963cbd2d27d7"), looks := true }, kinds := [], alts := [], laidByText := true, laidKinds := [.data, .data, .data, .sentinel, .sentinel], laidTests := true, laidLooks := .later }
def RefinementRestrictsCardSaid : Prop := Claim7.holds Tryz.pinned (.plain (OpenSpec.ofChange refinementRestrictsSpec)) refinementRestrictsCard

/-- THE TIED CARD OF 'schismalaw19.RefinementProducts'. -/
def refinementProductsCard : Claim7 := { stood := { row := refinementProductsRow, standIns := [], harness := (true, "33e047b0af78c8fb7bfd7db96a16d110cf00f1f826dbc35bc3c5963cbd2d27d7"), looks := true }, kinds := [], alts := [], laidByText := true, laidKinds := [.data, .data, .data, .sentinel, .sentinel], laidTests := true, laidLooks := .later }
def RefinementProductsCardSaid : Prop := Claim7.holds Tryz.pinned (.plain (OpenSpec.ofChange refinementProductsSpec)) refinementProductsCard

/-- THE TIED CARD OF 'schismalaw19.RefinementErrors'. -/
def refinementErrorsCard : Claim7 := { stood := { row := refinementErrorsRow, standIns := [], harness := (true, "33e047b0af78c8fb7bfd7db96a16d110cf00f1f826dbc35bc3c5963cbd2d27d7"), looks := true }, kinds := [], alts := [], laidByText := true, laidKinds := [.data, .data, .data, .sentinel, .sentinel], laidTests := true, laidLooks := .later }
def RefinementErrorsCardSaid : Prop := Claim7.holds Tryz.pinned (.plain (OpenSpec.ofChange refinementErrorsSpec)) refinementErrorsCard

/-- THE TIED CARD OF 'schismalaw19.RefinementExtends'. -/
def refinementExtendsCard : Claim7 := { stood := { row := refinementExtendsRow, standIns := [], harness := (true, "33e047b0af78c8fb7bfd7db96a16d110cf00f1f826dbc35bc3c5963cbd2d27d7"), looks := true }, kinds := [], alts := [], laidByText := true, laidKinds := [.data, .data, .data, .sentinel, .sentinel], laidTests := true, laidLooks := .later }
def RefinementExtendsCardSaid : Prop := Claim7.holds Tryz.pinned (.plain (OpenSpec.ofChange refinementExtendsSpec)) refinementExtendsCard

/-- THE SECOND FORM's CARD OF 'schismalaw19.RefinementBounds'. -/
def refinementBoundsUptoCard : Claim7 := { stood := { row := refinementBoundsUptoRow, standIns := [], harness := (true, "33e047b0af78c8fb7bfd7db96a16d110cf00f1f826dbc35bc3c5963cbd2d27d7"), looks := true }, kinds := [], alts := [], laidByText := true, laidKinds := [.data, .data, .data, .sentinel, .sentinel], laidTests := true, laidLooks := .later }
def RefinementBoundsUptoCardSaid : Prop := Claim7.holds Tryz.pinned (.plain (OpenSpec.upto refinementBoundsSpec)) refinementBoundsUptoCard

/-- THE SECOND FORM's CARD OF 'schismalaw19.RefinementJoins'. -/
def refinementJoinsUptoCard : Claim7 := { stood := { row := refinementJoinsUptoRow, standIns := [], harness := (true, "33e047b0af78c8fb7bfd7db96a16d110cf00f1f826dbc35bc3c5963cbd2d27d7"), looks := true }, kinds := [], alts := [], laidByText := true, laidKinds := [.data, .data, .data, .sentinel, .sentinel], laidTests := true, laidLooks := .later }
def RefinementJoinsUptoCardSaid : Prop := Claim7.holds Tryz.pinned (.plain (OpenSpec.upto refinementJoinsSpec)) refinementJoinsUptoCard

/-- THE SECOND FORM's CARD OF 'schismalaw19.RefinementMeets'. -/
def refinementMeetsUptoCard : Claim7 := { stood := { row := refinementMeetsUptoRow, standIns := [], harness := (true, "33e047b0af78c8fb7bfd7db96a16d110cf00f1f826dbc35bc3c5963cbd2d27d7"), looks := true }, kinds := [], alts := [], laidByText := true, laidKinds := [.data, .data, .data, .sentinel, .sentinel], laidTests := true, laidLooks := .later }
def RefinementMeetsUptoCardSaid : Prop := Claim7.holds Tryz.pinned (.plain (OpenSpec.upto refinementMeetsSpec)) refinementMeetsUptoCard

/-- THE SECOND FORM's CARD OF 'schismalaw19.RefinementOrders'. -/
def refinementOrdersUptoCard : Claim7 := { stood := { row := refinementOrdersUptoRow, standIns := [], harness := (true, "33e047b0af78c8fb7bfd7db96a16d110cf00f1f826dbc35bc3c5963cbd2d27d7"), looks := true }, kinds := [], alts := [], laidByText := true, laidKinds := [.data, .data, .data, .sentinel, .sentinel], laidTests := true, laidLooks := .later }
def RefinementOrdersUptoCardSaid : Prop := Claim7.holds Tryz.pinned (.plain (OpenSpec.upto refinementOrdersSpec)) refinementOrdersUptoCard

/-- THE SECOND FORM's CARD OF 'schismalaw19.RefinementRestricts'. -/
def refinementRestrictsUptoCard : Claim7 := { stood := { row := refinementRestrictsUptoRow, standIns := [], harness := (true, "33e047b0af78c8fb7bfd7db96a16d110cf00f1f826dbc35bc3c5963cbd2d27d7"), looks := true }, kinds := [], alts := [], laidByText := true, laidKinds := [.data, .data, .data, .sentinel, .sentinel], laidTests := true, laidLooks := .later }
def RefinementRestrictsUptoCardSaid : Prop := Claim7.holds Tryz.pinned (.plain (OpenSpec.upto refinementRestrictsSpec)) refinementRestrictsUptoCard

/-- THE SECOND FORM's CARD OF 'schismalaw19.RefinementProducts'. -/
def refinementProductsUptoCard : Claim7 := { stood := { row := refinementProductsUptoRow, standIns := [], harness := (true, "33e047b0af78c8fb7bfd7db96a16d110cf00f1f826dbc35bc3c5963cbd2d27d7"), looks := true }, kinds := [], alts := [], laidByText := true, laidKinds := [.data, .data, .data, .sentinel, .sentinel], laidTests := true, laidLooks := .later }
def RefinementProductsUptoCardSaid : Prop := Claim7.holds Tryz.pinned (.plain (OpenSpec.upto refinementProductsSpec)) refinementProductsUptoCard

/-- THE SECOND FORM's CARD OF 'schismalaw19.RefinementErrors'. -/
def refinementErrorsUptoCard : Claim7 := { stood := { row := refinementErrorsUptoRow, standIns := [], harness := (true, "33e047b0af78c8fb7bfd7db96a16d110cf00f1f826dbc35bc3c5963cbd2d27d7"), looks := true }, kinds := [], alts := [], laidByText := true, laidKinds := [.data, .data, .data, .sentinel, .sentinel], laidTests := true, laidLooks := .later }
def RefinementErrorsUptoCardSaid : Prop := Claim7.holds Tryz.pinned (.plain (OpenSpec.upto refinementErrorsSpec)) refinementErrorsUptoCard

/-- THE SECOND FORM's CARD OF 'schismalaw19.RefinementExtends'. -/
def refinementExtendsUptoCard : Claim7 := { stood := { row := refinementExtendsUptoRow, standIns := [], harness := (true, "33e047b0af78c8fb7bfd7db96a16d110cf00f1f826dbc35bc3c5963cbd2d27d7"), looks := true }, kinds := [], alts := [], laidByText := true, laidKinds := [.data, .data, .data, .sentinel, .sentinel], laidTests := true, laidLooks := .later }
def RefinementExtendsUptoCardSaid : Prop := Claim7.holds Tryz.pinned (.plain (OpenSpec.upto refinementExtendsSpec)) refinementExtendsUptoCard
end Rows
end Go.Proofs.YtmghkhgpkefgeaaGreatDoor
