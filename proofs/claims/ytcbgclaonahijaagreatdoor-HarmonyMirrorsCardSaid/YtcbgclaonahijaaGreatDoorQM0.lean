/- Facts of the card. -/
import Derived.Test.YtcbgclaonahijaaGreatDoorTie
import Derived.Test.YtcbgclaonahijaaGreatDoorCards
import Derived.SevenTiedAt
import Derived.ProofKit
import Derived.Lib.SmallJoins
import Derived.LaidMore
import Derived.OpenShut
import Derived.MakeChecks
import Derived.KernelRfl
namespace Go.Proofs.YtcbgclaonahijaaGreatDoor
open Go Go.ChangeShapes Go.WideShapes Go.RowKit Go.Joins
theorem Tryz.own : ownKnob Tryz.prog.godebug = none := by kernel_rfl
theorem Tryz.laidOut : laidOutB Tryz.prog = true := by kernel_rfl
theorem harmonyMirrors_in : (Rows.harmonyMirrorsRow.inPlace == Tryz.prog.inPlace 9) = true := by kernel_rfl
theorem harmonyMirrors_un : (Rows.harmonyMirrorsRow.unfollowed == Tryz.prog.unfollowed 9) = true := by kernel_rfl
theorem harmonyMirrors_re : (Rows.harmonyMirrorsRow.recurses == Tryz.prog.recurses 9) = true := by kernel_rfl
theorem harmonyMirrors_na : (Rows.harmonyMirrorsRow.named == Tryz.prog.varsNamed 9) = true := by kernel_rfl
theorem harmonyMirrors_closed : joinedFacts Tryz.prog 9 Tryz.f9 Rows.harmonyMirrorsSpec Rows.harmonyMirrorsRow = true := by
  unfold joinedFacts
  simp only [Bool.and_eq_true]
  repeat' apply And.intro
  all_goals first | with_reducible exact harmonyMirrors_in | with_reducible exact harmonyMirrors_un | with_reducible exact harmonyMirrors_re | with_reducible exact harmonyMirrors_na | kernel_rfl
theorem harmonyMirrors_wf : Rows.harmonyMirrorsRow.wfByText (OpenSpec.ofChange Rows.harmonyMirrorsSpec) = true := by kernel_rfl
theorem harmonyMirrors_goes : false = Rows.harmonyMirrorsRow.goesBy Tryz.prog := by kernel_rfl
end Go.Proofs.YtcbgclaonahijaaGreatDoor
