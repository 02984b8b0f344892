/- Facts of the card. -/
import Derived.Test.YtcbgclaonahijaaGreatDoorTie
import Derived.Test.YtcbgclaonahijaaGreatDoorCards
import Derived.SevenTiedAt
import Derived.ProofKit
import Derived.Lib.SmallJoins
import Derived.LaidMore
import Derived.OpenShut
import Derived.MakeChecks
import Derived.KernelRfl
namespace Go.Proofs.YtcbgclaonahijaaGreatDoor
open Go Go.ChangeShapes Go.WideShapes Go.RowKit Go.Joins
theorem Tryz.own : ownKnob Tryz.prog.godebug = none := by kernel_rfl
theorem Tryz.laidOut : laidOutB Tryz.prog = true := by kernel_rfl
theorem harmonyWays_in : (Rows.harmonyWaysRow.inPlace == Tryz.prog.inPlace 8) = true := by kernel_rfl
theorem harmonyWays_un : (Rows.harmonyWaysRow.unfollowed == Tryz.prog.unfollowed 8) = true := by kernel_rfl
theorem harmonyWays_re : (Rows.harmonyWaysRow.recurses == Tryz.prog.recurses 8) = true := by kernel_rfl
theorem harmonyWays_na : (Rows.harmonyWaysRow.named == Tryz.prog.varsNamed 8) = true := by kernel_rfl
theorem harmonyWays_closed : joinedFacts Tryz.prog 8 Tryz.f8 Rows.harmonyWaysSpec Rows.harmonyWaysRow = true := by
  unfold joinedFacts
  simp only [Bool.and_eq_true]
  repeat' apply And.intro
  all_goals first | with_reducible exact harmonyWays_in | with_reducible exact harmonyWays_un | with_reducible exact harmonyWays_re | with_reducible exact harmonyWays_na | kernel_rfl
theorem harmonyWays_wf : Rows.harmonyWaysRow.wfByText (OpenSpec.ofChange Rows.harmonyWaysSpec) = true := by kernel_rfl
theorem harmonyWays_goes : false = Rows.harmonyWaysRow.goesBy Tryz.prog := by kernel_rfl
end Go.Proofs.YtcbgclaonahijaaGreatDoor
