/- Facts of the card. -/
import Derived.Test.YtcbgclaonahijaaGreatDoorTie
import Derived.Test.YtcbgclaonahijaaGreatDoorCards
import Derived.SevenTiedAt
import Derived.ProofKit
import Derived.Lib.SmallJoins
import Derived.LaidMore
import Derived.OpenShut
import Derived.MakeChecks
import Derived.KernelRfl
namespace Go.Proofs.YtcbgclaonahijaaGreatDoor
open Go Go.ChangeShapes Go.WideShapes Go.RowKit Go.Joins
theorem Tryz.own : ownKnob Tryz.prog.godebug = none := by kernel_rfl
theorem Tryz.laidOut : laidOutB Tryz.prog = true := by kernel_rfl
theorem harmonyClasses_in : (Rows.harmonyClassesRow.inPlace == Tryz.prog.inPlace 5) = true := by kernel_rfl
theorem harmonyClasses_un : (Rows.harmonyClassesRow.unfollowed == Tryz.prog.unfollowed 5) = true := by kernel_rfl
theorem harmonyClasses_re : (Rows.harmonyClassesRow.recurses == Tryz.prog.recurses 5) = true := by kernel_rfl
theorem harmonyClasses_na : (Rows.harmonyClassesRow.named == Tryz.prog.varsNamed 5) = true := by kernel_rfl
theorem harmonyClasses_closed : joinedFacts Tryz.prog 5 Tryz.f5 Rows.harmonyClassesSpec Rows.harmonyClassesRow = true := by
  unfold joinedFacts
  simp only [Bool.and_eq_true]
  repeat' apply And.intro
  all_goals first | with_reducible exact harmonyClasses_in | with_reducible exact harmonyClasses_un | with_reducible exact harmonyClasses_re | with_reducible exact harmonyClasses_na | kernel_rfl
theorem harmonyClasses_wf : Rows.harmonyClassesRow.wfByText (OpenSpec.ofChange Rows.harmonyClassesSpec) = true := by kernel_rfl
theorem harmonyClasses_goes : false = Rows.harmonyClassesRow.goesBy Tryz.prog := by kernel_rfl
end Go.Proofs.YtcbgclaonahijaaGreatDoor
