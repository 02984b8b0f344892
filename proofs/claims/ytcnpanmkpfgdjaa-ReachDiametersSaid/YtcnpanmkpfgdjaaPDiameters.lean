/- ReachDiameters returns true for every kind and any list of keys, and its arguments read behind the call as they read before. -/
import Derived.Test.YtcnpanmkpfgdjaaCloseB
import Derived.Test.YtcnpanmkpfgdjaaDiameterz
namespace Go.Proofs.Ytcnpanmkpfgdjaa
open Go.ChangeShapes Go.WideShapes Go.ChangeAt Go.RowKit Go.Joins Go.Sch

set_option maxRecDepth 100000 in
theorem reachDiameters_lifted (os : Os) (started : os.Started) (H : Type) (enc : TypeId × Value → H) :
    ReturnsInHanded {} Try.checked os 4 .any (Rows.reachDiametersSpec.pre6 enc Try.prog Try.f4 Rows.reachDiametersRow.domain false) (Rows.reachDiametersSpec.post enc Try.prog Try.f4 false true false false) := by
  refine returnsInHanded_of_change (C := Try.checked) Try.own started (by kernel_rfl) Try.func4
    (ChangeSpec.witness6 (enc := enc) (C := Try.checked) false ⟨#[], #[.int .i64 0, .slice none 0 0], []⟩ 8 (by kernel_rfl) (by kernel_rfl) (by kernel_rfl) (by kernel_rfl)) ?_
  intro W base args ds gs before hval0 hW hcnd _
  have hval : ∀ (j : Nat) t v, Try.f4.params[j]? = some t → args[j]? = some v → Value.okWide Try.prog W .any base t v := hval0
  have hW' := hW
  obtain ⟨p, q, hA0, hV, rfl, hfz, hnd⟩ := hW
  have hA : DataW.TrodAll enc Try.prog W 0 (fun _ => true) true Try.f4.params.toList args.toList ds p := hA0
  rw [Try.params4] at hA hval
  obtain ⟨v0, v1, d0, d1, p0, p1, rfl, rfl, rfl, h0, h1⟩ := trodAll_two hA
  obtain ⟨rfl, rfl⟩ := trodVars_none hV
  obtain ⟨kind, rfl, rfl, rfl, wk⟩ := open_int Try.underlying3 (hval 0 3 v0 rfl rfl) h0
  obtain ⟨l, hl⟩ := open_keys (hval 1 31 v1 rfl rfl) h1
  refine (reachDiameters_calls kind hl).mono fun e W' ⟨he, hb⟩ => ?_
  subst he
  exact close_true (tb := 4) Try.laidOut (fun t ht => by rw [Try.params4] at ht; exact readable_of (by kernel_rfl) t ht) rfl Try.underlying4 rfl rfl rfl rfl hW' hb
theorem reachDiameters_holds : Rows.ReachDiametersSaid :=
  OpenClaim.holds_of_wide 4 Try.f4 rfl rfl rfl rfl rfl rfl rfl ⟨rfl, rfl, rfl, rfl, rfl⟩ rfl rfl rfl rfl rfl (by kernel_rfl) Try.func4 (by kernel_rfl)
    (of_decide_eq_true (by kernel_rfl)) (by unfold Func.isWrapper; first | (rw [if_pos (by decide +kernel)]; kernel_rfl) | (rw [if_neg (by decide +kernel)]; exact ⟨rfl, rfl⟩))
    (fun os started H enc _ => reachDiameters_lifted os started H enc)
end Go.Proofs.Ytcnpanmkpfgdjaa
