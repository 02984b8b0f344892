/- ConsonanceNormals returns true for any number of columns and any list of notes, and its arguments read behind the call as they read before. -/
import Derived.Test.YthbfchehcgnkpaaPnZ
import Derived.Test.YthbfchehcgnkpaaCoNa
set_option linter.unusedSimpArgs false
set_option linter.unusedVariables false
namespace Go.Proofs.Ythbfchehcgnkpaa
open Go Go.ChangeShapes Go.WideShapes Go.ChangeAt Go.RowKit Go.Joins Go.PM
set_option maxRecDepth 100000 in
theorem consonanceNormals_lifted (os : Os) (started : os.Started) (H : Type) (enc : TypeId × Value → H) :
    ReturnsInHanded {} Try.checked os 7 .any (Rows.consonanceNormalsSpec.pre6 enc Try.prog Try.f7 Rows.consonanceNormalsRow.domain false) (Rows.consonanceNormalsSpec.post enc Try.prog Try.f7 false true false false) := by
  refine returnsInHanded_of_change (C := Try.checked) Try.own started (by kernel_rfl) Try.func7
    (ChangeSpec.witness6 (enc := enc) (C := Try.checked) false ⟨#[], #[.int .i64 0, .slice none 0 0], []⟩ 8 (by kernel_rfl) (by kernel_rfl) (by kernel_rfl) (by kernel_rfl)) ?_
  intro W base args ds gs before hval0 hW hcnd _
  have hval : ∀ (j : Nat) t v, Try.f7.params[j]? = some t → args[j]? = some v → Value.okWide Try.prog W .any base t v := hval0
  have hW' := hW
  obtain ⟨p, q, hA0, hV, rfl, hfz, hnd⟩ := hW
  have hA : DataW.TrodAll enc Try.prog W 0 (fun _ => true) true Try.f7.params.toList args.toList ds p := hA0
  rw [Try.params7] at hA hval
  obtain ⟨v0, v1, d0, d1, p0, p1, rfl, rfl, rfl, h0, h1⟩ := trodAll_two hA
  obtain ⟨rfl, rfl⟩ := trodVars_none hV
  obtain ⟨x0, y0, w0⟩ := opK_int Try.underlying3 (hval 0 3 v0 rfl rfl) h0
  obtain ⟨x1, y1, w1⟩ := opK_list Try.underlying22 (by kernel_rfl) (opT_slice Try.underlying48 (by kernel_rfl) (opT_int Try.underlying3 (by kernel_rfl))) (hval 1 22 v1 rfl rfl) h1
  refine (law_true fn7 (x := (x0, x1, ())) (f7_true x0 (Nat.le_trans w1.1 (by decide))) (vs := #[v0, v1]) (vrs_cons y0 (vrs_cons y1 (vrs_nil)))).mono fun e W' ⟨he, hb⟩ => ?_
  subst he
  exact close_true (tb := 4) Try.laidOut (fun t ht => by rw [Try.params7] at ht; exact readable_of (by kernel_rfl) t ht) rfl Try.underlying4 rfl rfl rfl rfl hW' hb
theorem consonanceNormals_holds : Rows.ConsonanceNormalsSaid :=
  OpenClaim.holds_of_wide 7 Try.f7 rfl rfl rfl rfl rfl rfl rfl ⟨rfl, rfl, rfl, rfl, rfl⟩ rfl rfl rfl rfl rfl (by kernel_rfl) Try.func7 (by kernel_rfl)
    (of_decide_eq_true (by kernel_rfl)) (by unfold Func.isWrapper; first | (rw [if_pos (by decide +kernel)]; kernel_rfl) | (rw [if_neg (by decide +kernel)]; exact ⟨rfl, rfl⟩))
    (fun os started H enc _ => consonanceNormals_lifted os started H enc)
end Go.Proofs.Ythbfchehcgnkpaa
