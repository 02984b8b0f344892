/- Facts of the card. -/
import Derived.Test.YtcbgclaonahijaaGreatDoorTie
import Derived.Test.YtcbgclaonahijaaGreatDoorCards
import Derived.SevenTiedAt
import Derived.ProofKit
import Derived.Lib.SmallJoins
import Derived.LaidMore
import Derived.OpenShut
import Derived.MakeChecks
import Derived.KernelRfl
namespace Go.Proofs.YtcbgclaonahijaaGreatDoor
open Go Go.ChangeShapes Go.WideShapes Go.RowKit Go.Joins
theorem Tryz.own : ownKnob Tryz.prog.godebug = none := by kernel_rfl
theorem Tryz.laidOut : laidOutB Tryz.prog = true := by kernel_rfl
theorem harmonyForms_in : (Rows.harmonyFormsRow.inPlace == Tryz.prog.inPlace 3) = true := by kernel_rfl
theorem harmonyForms_un : (Rows.harmonyFormsRow.unfollowed == Tryz.prog.unfollowed 3) = true := by kernel_rfl
theorem harmonyForms_re : (Rows.harmonyFormsRow.recurses == Tryz.prog.recurses 3) = true := by kernel_rfl
theorem harmonyForms_na : (Rows.harmonyFormsRow.named == Tryz.prog.varsNamed 3) = true := by kernel_rfl
theorem harmonyForms_closed : joinedFacts Tryz.prog 3 Tryz.f3 Rows.harmonyFormsSpec Rows.harmonyFormsRow = true := by
  unfold joinedFacts
  simp only [Bool.and_eq_true]
  repeat' apply And.intro
  all_goals first | with_reducible exact harmonyForms_in | with_reducible exact harmonyForms_un | with_reducible exact harmonyForms_re | with_reducible exact harmonyForms_na | kernel_rfl
theorem harmonyForms_wf : Rows.harmonyFormsRow.wfByText (OpenSpec.ofChange Rows.harmonyFormsSpec) = true := by kernel_rfl
theorem harmonyForms_goes : false = Rows.harmonyFormsRow.goesBy Tryz.prog := by kernel_rfl
end Go.Proofs.YtcbgclaonahijaaGreatDoor
