/- Facts of the card. -/
import Derived.Test.YtcbgclaonahijaaGreatDoorTie
import Derived.Test.YtcbgclaonahijaaGreatDoorCards
import Derived.SevenTiedAt
import Derived.ProofKit
import Derived.Lib.SmallJoins
import Derived.LaidMore
import Derived.OpenShut
import Derived.MakeChecks
import Derived.KernelRfl
namespace Go.Proofs.YtcbgclaonahijaaGreatDoor
open Go Go.ChangeShapes Go.WideShapes Go.RowKit Go.Joins
theorem Tryz.own : ownKnob Tryz.prog.godebug = none := by kernel_rfl
theorem Tryz.laidOut : laidOutB Tryz.prog = true := by kernel_rfl
theorem harmonyChecks_in : (Rows.harmonyChecksRow.inPlace == Tryz.prog.inPlace 10) = true := by kernel_rfl
theorem harmonyChecks_un : (Rows.harmonyChecksRow.unfollowed == Tryz.prog.unfollowed 10) = true := by kernel_rfl
theorem harmonyChecks_re : (Rows.harmonyChecksRow.recurses == Tryz.prog.recurses 10) = true := by kernel_rfl
theorem harmonyChecks_na : (Rows.harmonyChecksRow.named == Tryz.prog.varsNamed 10) = true := by kernel_rfl
theorem harmonyChecks_closed : joinedFacts Tryz.prog 10 Tryz.f10 Rows.harmonyChecksSpec Rows.harmonyChecksRow = true := by
  unfold joinedFacts
  simp only [Bool.and_eq_true]
  repeat' apply And.intro
  all_goals first | with_reducible exact harmonyChecks_in | with_reducible exact harmonyChecks_un | with_reducible exact harmonyChecks_re | with_reducible exact harmonyChecks_na | kernel_rfl
theorem harmonyChecks_wf : Rows.harmonyChecksRow.wfByText (OpenSpec.ofChange Rows.harmonyChecksSpec) = true := by kernel_rfl
theorem harmonyChecks_goes : false = Rows.harmonyChecksRow.goesBy Tryz.prog := by kernel_rfl
end Go.Proofs.YtcbgclaonahijaaGreatDoor
