/- ConsonanceExtends returns true for any plan, any further rows and any way, and its arguments read behind the call as they read before. -/
import Derived.Test.YthbfchehcgnkpaaPnZ
import Derived.Test.YthbfchehcgnkpaaCoXx
set_option linter.unusedSimpArgs false
set_option linter.unusedVariables false
namespace Go.Proofs.Ythbfchehcgnkpaa
open Go Go.ChangeShapes Go.WideShapes Go.ChangeAt Go.RowKit Go.Joins Go.PM
set_option maxRecDepth 100000 in
theorem consonanceExtends_lifted (os : Os) (started : os.Started) (H : Type) (enc : TypeId × Value → H) :
    ReturnsInHanded {} Try.checked os 9 .any (Rows.consonanceExtendsSpec.pre6 enc Try.prog Try.f9 Rows.consonanceExtendsRow.domain false) (Rows.consonanceExtendsSpec.post enc Try.prog Try.f9 false true false false) := by
  refine returnsInHanded_of_change (C := Try.checked) Try.own started (by kernel_rfl) Try.func9
    (ChangeSpec.witness6 (enc := enc) (C := Try.checked) false ⟨#[], #[.agg #[.int .u8 0, .slice none 0 0], .slice none 0 0, .agg #[.int .u8 0, .int .u8 0]], []⟩ 8 (by kernel_rfl) (by kernel_rfl) (by kernel_rfl) (by kernel_rfl)) ?_
  intro W base args ds gs before hval0 hW hcnd _
  have hval : ∀ (j : Nat) t v, Try.f9.params[j]? = some t → args[j]? = some v → Value.okWide Try.prog W .any base t v := hval0
  have hW' := hW
  obtain ⟨p, q, hA0, hV, rfl, hfz, hnd⟩ := hW
  have hA : DataW.TrodAll enc Try.prog W 0 (fun _ => true) true Try.f9.params.toList args.toList ds p := hA0
  rw [Try.params9] at hA hval
  obtain ⟨v0, v1, v2, d0, d1, d2, p0, p1, p2, rfl, rfl, rfl, h0, h1, h2⟩ := trodAll_three hA
  obtain ⟨rfl, rfl⟩ := trodVars_none hV
  obtain ⟨x0, y0, w0⟩ := opK_struct Try.underlying34 (opT_struct Try.underlying34 (T := (.prod (.int .u8) (.list (.prod (.int .i8) (.prod (.int .i8) (.int .i8)))))) (by kernel_rfl) ⟨rfl, (opT_int Try.underlying5 (by kernel_rfl)), rfl, (opT_slice Try.underlying32 (by kernel_rfl) (opT_array (n := 2) Try.underlying70 (by kernel_rfl) (opT_int Try.underlying35 (by kernel_rfl))))⟩) (hval 0 34 v0 rfl rfl) h0
  obtain ⟨x1, y1, w1⟩ := opK_list Try.underlying32 (by kernel_rfl) (opT_array (n := 2) Try.underlying70 (by kernel_rfl) (opT_int Try.underlying35 (by kernel_rfl))) (hval 1 32 v1 rfl rfl) h1
  obtain ⟨x2, y2, w2⟩ := opK_struct Try.underlying60 (opT_struct Try.underlying60 (T := (.prod (.int .u8) (.int .u8))) (by kernel_rfl) ⟨rfl, (opT_int Try.underlying5 (by kernel_rfl)), rfl, (opT_int Try.underlying5 (by kernel_rfl))⟩) (hval 2 60 v2 rfl rfl) h2
  refine (law_true fn9 (x := (x0, x1, x2, ())) (f9_true (a := x0.1) (rs := x0.2) (more := x1) (w1 := x2.1) (w2 := x2.2) (bounds_u8 w0.1) (bounds_u8 w2.1) (bounds_u8 w2.2)) (vs := #[v0, v1, v2]) (vrs_cons y0 (vrs_cons y1 (vrs_cons y2 (vrs_nil))))).mono fun e W' ⟨he, hb⟩ => ?_
  subst he
  exact close_true (tb := 4) Try.laidOut (fun t ht => by rw [Try.params9] at ht; exact readable_of (by kernel_rfl) t ht) rfl Try.underlying4 rfl rfl rfl rfl hW' hb
theorem consonanceExtends_holds : Rows.ConsonanceExtendsSaid :=
  OpenClaim.holds_of_wide 9 Try.f9 rfl rfl rfl rfl rfl rfl rfl ⟨rfl, rfl, rfl, rfl, rfl⟩ rfl rfl rfl rfl rfl (by kernel_rfl) Try.func9 (by kernel_rfl)
    (of_decide_eq_true (by kernel_rfl)) (by unfold Func.isWrapper; first | (rw [if_pos (by decide +kernel)]; kernel_rfl) | (rw [if_neg (by decide +kernel)]; exact ⟨rfl, rfl⟩))
    (fun os started H enc _ => consonanceExtends_lifted os started H enc)
end Go.Proofs.Ythbfchehcgnkpaa
