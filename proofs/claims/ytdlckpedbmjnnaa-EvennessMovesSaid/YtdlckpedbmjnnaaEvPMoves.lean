/- EvennessMoves returns true for any described set and any number of steps, and its arguments read behind the call as they read before. -/
import Derived.Test.YtdlckpedbmjnnaaPnZ
import Derived.Test.YtdlckpedbmjnnaaEvO
set_option linter.unusedSimpArgs false
set_option linter.unusedVariables false
namespace Go.Proofs.Ytdlckpedbmjnnaa
open Go Go.ChangeShapes Go.WideShapes Go.ChangeAt Go.RowKit Go.Joins Go.PM
set_option maxRecDepth 100000 in
theorem evennessMoves_lifted (os : Os) (started : os.Started) (H : Type) (enc : TypeId × Value → H) :
    ReturnsInHanded {} Try.checked os 10 .any (Rows.evennessMovesSpec.pre6 enc Try.prog Try.f10 Rows.evennessMovesRow.domain false) (Rows.evennessMovesSpec.post enc Try.prog Try.f10 false true false false) := by
  refine returnsInHanded_of_change (C := Try.checked) Try.own started (by kernel_rfl) Try.func10
    (ChangeSpec.witness6 (enc := enc) (C := Try.checked) false ⟨#[], #[.agg #[.int .u8 0, .int .u16 0], .int .i64 0], []⟩ 8 (by kernel_rfl) (by kernel_rfl) (by kernel_rfl) (by kernel_rfl)) ?_
  intro W base args ds gs before hval0 hW hcnd _
  have hval : ∀ (j : Nat) t v, Try.f10.params[j]? = some t → args[j]? = some v → Value.okWide Try.prog W .any base t v := hval0
  have hW' := hW
  obtain ⟨p, q, hA0, hV, rfl, hfz, hnd⟩ := hW
  have hA : DataW.TrodAll enc Try.prog W 0 (fun _ => true) true Try.f10.params.toList args.toList ds p := hA0
  rw [Try.params10] at hA hval
  obtain ⟨v0, v1, d0, d1, p0, p1, rfl, rfl, rfl, h0, h1⟩ := trodAll_two hA
  obtain ⟨rfl, rfl⟩ := trodVars_none hV
  obtain ⟨x0, y0, w0⟩ := opK_struct Try.underlying36 (opT_struct Try.underlying36 (T := (.prod (.int .u8) (.int .u16))) (by kernel_rfl) ⟨rfl, (opT_int Try.underlying5 (by kernel_rfl)), rfl, (opT_int Try.underlying34 (by kernel_rfl))⟩) (hval 0 36 v0 rfl rfl) h0
  obtain ⟨x1, y1, w1⟩ := opK_int Try.underlying3 (hval 1 3 v1 rfl rfl) h1
  refine (law_true fn10 (x := (x0, x1, ())) (f10_true x0.1 x0.2 x1 (bounds_u8 w0.1).1) (vs := #[v0, v1]) (vrs_cons y0 (vrs_cons y1 (vrs_nil)))).mono fun e W' ⟨he, hb⟩ => ?_
  subst he
  exact close_true (tb := 4) Try.laidOut (fun t ht => by rw [Try.params10] at ht; exact readable_of (by kernel_rfl) t ht) rfl Try.underlying4 rfl rfl rfl rfl hW' hb
theorem evennessMoves_holds : Rows.EvennessMovesSaid :=
  OpenClaim.holds_of_wide 10 Try.f10 rfl rfl rfl rfl rfl rfl rfl ⟨rfl, rfl, rfl, rfl, rfl⟩ rfl rfl rfl rfl rfl (by kernel_rfl) Try.func10 (by kernel_rfl)
    (of_decide_eq_true (by kernel_rfl)) (by unfold Func.isWrapper; first | (rw [if_pos (by decide +kernel)]; kernel_rfl) | (rw [if_neg (by decide +kernel)]; exact ⟨rfl, rfl⟩))
    (fun os started H enc _ => evennessMoves_lifted os started H enc)
end Go.Proofs.Ytdlckpedbmjnnaa
