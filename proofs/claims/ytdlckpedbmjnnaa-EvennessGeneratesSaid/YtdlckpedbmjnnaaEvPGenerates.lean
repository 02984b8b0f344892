/- EvennessGenerates returns true for any division, any generator, and any number of notes and start, and its arguments read behind the call as they read before. -/
import Derived.Test.YtdlckpedbmjnnaaPnZ
import Derived.Test.YtdlckpedbmjnnaaEvL
set_option linter.unusedSimpArgs false
set_option linter.unusedVariables false
namespace Go.Proofs.Ytdlckpedbmjnnaa
open Go Go.ChangeShapes Go.WideShapes Go.ChangeAt Go.RowKit Go.Joins Go.PM
set_option maxRecDepth 100000 in
theorem evennessGenerates_lifted (os : Os) (started : os.Started) (H : Type) (enc : TypeId × Value → H) :
    ReturnsInHanded {} Try.checked os 4 .any (Rows.evennessGeneratesSpec.pre6 enc Try.prog Try.f4 Rows.evennessGeneratesRow.domain false) (Rows.evennessGeneratesSpec.post enc Try.prog Try.f4 false true false false) := by
  refine returnsInHanded_of_change (C := Try.checked) Try.own started (by kernel_rfl) Try.func4
    (ChangeSpec.witness6 (enc := enc) (C := Try.checked) false ⟨#[], #[.int .i64 0, .int .i64 0, .agg #[.int .i64 0, .int .i64 0]], []⟩ 8 (by kernel_rfl) (by kernel_rfl) (by kernel_rfl) (by kernel_rfl)) ?_
  intro W base args ds gs before hval0 hW hcnd _
  have hval : ∀ (j : Nat) t v, Try.f4.params[j]? = some t → args[j]? = some v → Value.okWide Try.prog W .any base t v := hval0
  have hW' := hW
  obtain ⟨p, q, hA0, hV, rfl, hfz, hnd⟩ := hW
  have hA : DataW.TrodAll enc Try.prog W 0 (fun _ => true) true Try.f4.params.toList args.toList ds p := hA0
  rw [Try.params4] at hA hval
  obtain ⟨v0, v1, v2, d0, d1, d2, p0, p1, p2, rfl, rfl, rfl, h0, h1, h2⟩ := trodAll_three hA
  obtain ⟨rfl, rfl⟩ := trodVars_none hV
  obtain ⟨x0, y0, w0⟩ := opK_int Try.underlying3 (hval 0 3 v0 rfl rfl) h0
  obtain ⟨x1, y1, w1⟩ := opK_int Try.underlying3 (hval 1 3 v1 rfl rfl) h1
  obtain ⟨x2, y2, w2⟩ := opK_array Try.underlying29 (opT_array (n := 1) Try.underlying29 (by kernel_rfl) (opT_int Try.underlying3 (by kernel_rfl))) (hval 2 29 v2 rfl rfl) h2
  refine (law_true fn4 (x := (x0, x1, x2, ())) (f4_true x0 x1 x2.1 x2.2) (vs := #[v0, v1, v2]) (vrs_cons y0 (vrs_cons y1 (vrs_cons y2 (vrs_nil))))).mono fun e W' ⟨he, hb⟩ => ?_
  subst he
  exact close_true (tb := 4) Try.laidOut (fun t ht => by rw [Try.params4] at ht; exact readable_of (by kernel_rfl) t ht) rfl Try.underlying4 rfl rfl rfl rfl hW' hb
theorem evennessGenerates_holds : Rows.EvennessGeneratesSaid :=
  OpenClaim.holds_of_wide 4 Try.f4 rfl rfl rfl rfl rfl rfl rfl ⟨rfl, rfl, rfl, rfl, rfl⟩ rfl rfl rfl rfl rfl (by kernel_rfl) Try.func4 (by kernel_rfl)
    (of_decide_eq_true (by kernel_rfl)) (by unfold Func.isWrapper; first | (rw [if_pos (by decide +kernel)]; kernel_rfl) | (rw [if_neg (by decide +kernel)]; exact ⟨rfl, rfl⟩))
    (fun os started H enc _ => evennessGenerates_lifted os started H enc)
end Go.Proofs.Ytdlckpedbmjnnaa
