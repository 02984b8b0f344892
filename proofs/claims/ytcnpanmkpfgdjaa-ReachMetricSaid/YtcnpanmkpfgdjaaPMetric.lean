/- ReachMetric returns true for any three keys, and its arguments read behind the call as they read before. -/
import Derived.Test.YtcnpanmkpfgdjaaCloseC
import Derived.Test.YtcnpanmkpfgdjaaMetric
namespace Go.Proofs.Ytcnpanmkpfgdjaa
open Go.ChangeShapes Go.WideShapes Go.ChangeAt Go.RowKit Go.Joins Go.Sch

set_option maxRecDepth 100000 in
theorem reachMetric_lifted (os : Os) (started : os.Started) (H : Type) (enc : TypeId × Value → H) :
    ReturnsInHanded {} Try.checked os 7 .any (Rows.reachMetricSpec.pre6 enc Try.prog Try.f7 Rows.reachMetricRow.domain false) (Rows.reachMetricSpec.post enc Try.prog Try.f7 false true false false) := by
  refine returnsInHanded_of_change (C := Try.checked) Try.own started (by kernel_rfl) Try.func7
    (ChangeSpec.witness6 (enc := enc) (C := Try.checked) false ⟨#[], #[.agg #[.int .i8 0, .int .i8 0], .agg #[.int .i8 0, .int .i8 0], .agg #[.int .i8 0, .int .i8 0]], []⟩ 8 (by kernel_rfl) (by kernel_rfl) (by kernel_rfl) (by kernel_rfl)) ?_
  intro W base args ds gs before hval0 hW hcnd _
  have hval : ∀ (j : Nat) t v, Try.f7.params[j]? = some t → args[j]? = some v → Value.okWide Try.prog W .any base t v := hval0
  have hW' := hW
  obtain ⟨p, q, hA0, hV, rfl, hfz, hnd⟩ := hW
  have hA : DataW.TrodAll enc Try.prog W 0 (fun _ => true) true Try.f7.params.toList args.toList ds p := hA0
  rw [Try.params7] at hA hval
  obtain ⟨v0, v1, v2, d0, d1, d2, p0, p1, p2, rfl, rfl, rfl, h0, h1, h2⟩ := trodAll_three hA
  obtain ⟨rfl, rfl⟩ := trodVars_none hV
  have hce : Try.prog.cellsOf 35 = 1 := by kernel_rfl
  have hct : Try.prog.cellsOf 36 = 2 := by kernel_rfl
  obtain ⟨a1, a2, rfl, -, -⟩ := open_arr8 Try.underlying36 Try.underlying35 hce hct (hval 0 36 v0 rfl rfl) h0
  obtain ⟨b1, b2, rfl, -, -⟩ := open_arr8 Try.underlying36 Try.underlying35 hce hct (hval 1 36 v1 rfl rfl) h1
  obtain ⟨c1, c2, rfl, -, -⟩ := open_arr8 Try.underlying36 Try.underlying35 hce hct (hval 2 36 v2 rfl rfl) h2
  refine (metric_calls a1 a2 b1 b2 c1 c2 W).mono fun e W' ⟨he, hb⟩ => ?_
  subst he
  exact close_true (tb := 4) Try.laidOut (fun t ht => by rw [Try.params7] at ht; exact readable_of (by kernel_rfl) t ht) rfl Try.underlying4 rfl rfl rfl rfl hW' hb
theorem reachMetric_holds : Rows.ReachMetricSaid :=
  OpenClaim.holds_of_wide 7 Try.f7 rfl rfl rfl rfl rfl rfl rfl ⟨rfl, rfl, rfl, rfl, rfl⟩ rfl rfl rfl rfl rfl (by kernel_rfl) Try.func7 (by kernel_rfl)
    (of_decide_eq_true (by kernel_rfl)) (by unfold Func.isWrapper; first | (rw [if_pos (by decide +kernel)]; kernel_rfl) | (rw [if_neg (by decide +kernel)]; exact ⟨rfl, rfl⟩))
    (fun os started H enc _ => reachMetric_lifted os started H enc)
end Go.Proofs.Ytcnpanmkpfgdjaa
