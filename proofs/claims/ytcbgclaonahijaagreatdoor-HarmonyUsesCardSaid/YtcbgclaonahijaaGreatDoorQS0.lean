/- Facts of the card. -/
import Derived.Test.YtcbgclaonahijaaGreatDoorTie
import Derived.Test.YtcbgclaonahijaaGreatDoorCards
import Derived.SevenTiedAt
import Derived.ProofKit
import Derived.Lib.SmallJoins
import Derived.LaidMore
import Derived.OpenShut
import Derived.MakeChecks
import Derived.KernelRfl
namespace Go.Proofs.YtcbgclaonahijaaGreatDoor
open Go Go.ChangeShapes Go.WideShapes Go.RowKit Go.Joins
theorem Tryz.own : ownKnob Tryz.prog.godebug = none := by kernel_rfl
theorem Tryz.laidOut : laidOutB Tryz.prog = true := by kernel_rfl
theorem harmonyUses_in : (Rows.harmonyUsesRow.inPlace == Tryz.prog.inPlace 7) = true := by kernel_rfl
theorem harmonyUses_un : (Rows.harmonyUsesRow.unfollowed == Tryz.prog.unfollowed 7) = true := by kernel_rfl
theorem harmonyUses_re : (Rows.harmonyUsesRow.recurses == Tryz.prog.recurses 7) = true := by kernel_rfl
theorem harmonyUses_na : (Rows.harmonyUsesRow.named == Tryz.prog.varsNamed 7) = true := by kernel_rfl
theorem harmonyUses_closed : joinedFacts Tryz.prog 7 Tryz.f7 Rows.harmonyUsesSpec Rows.harmonyUsesRow = true := by
  unfold joinedFacts
  simp only [Bool.and_eq_true]
  repeat' apply And.intro
  all_goals first | with_reducible exact harmonyUses_in | with_reducible exact harmonyUses_un | with_reducible exact harmonyUses_re | with_reducible exact harmonyUses_na | kernel_rfl
theorem harmonyUses_wf : Rows.harmonyUsesRow.wfByText (OpenSpec.ofChange Rows.harmonyUsesSpec) = true := by kernel_rfl
theorem harmonyUses_goes : false = Rows.harmonyUsesRow.goesBy Tryz.prog := by kernel_rfl
end Go.Proofs.YtcbgclaonahijaaGreatDoor
