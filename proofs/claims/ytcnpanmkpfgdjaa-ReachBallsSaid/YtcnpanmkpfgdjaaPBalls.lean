/- ReachBalls returns true for every kind, key and radius, and its arguments read behind the call as they read before. -/
import Derived.Test.YtcnpanmkpfgdjaaClose
import Derived.Test.YtcnpanmkpfgdjaaBallsz
import Derived.Test.YtcnpanmkpfgdjaaBallsG
namespace Go.Proofs.Ytcnpanmkpfgdjaa
open Go.ChangeShapes Go.WideShapes Go.ChangeAt Go.RowKit Go.Joins Go.Sch

theorem reachBalls_calls (kind c1 c2 r : Int) (hw : (Lit.int .i64 c1).wf = true ∧ (Lit.int .i64 c2).wf = true) (w : World) :
    Calls Try.prog 6 #[.int .i64 kind, .agg #[.int .i64 c1, .int .i64 c2], .int .i64 r] w fun e w' => e = .returned (.bool true) ∧ Below w.heap.size w w' := by
  by_cases h : r < 0 ∨ 12 < r ∨ (kind ≠ 1 ∧ kind ≠ 2) ∨ outK (c1, c2) = true
  · exact reachBalls_bad kind c1 c2 r hw h w
  · have ho : outK (c1, c2) = false := by
      cases hh : outK (c1, c2)
      · rfl
      · exact absurd (.inr (.inr (.inr hh))) h
    have hk : kind = 1 ∨ kind = 2 := by omega
    obtain ⟨m, rfl⟩ : ∃ m : Nat, r = m := ⟨r.toNat, by omega⟩
    exact reachBalls_good kind c1 c2 hk m (by omega) ho w
set_option maxRecDepth 100000 in
theorem reachBalls_lifted (os : Os) (started : os.Started) (H : Type) (enc : TypeId × Value → H) :
    ReturnsInHanded {} Try.checked os 6 .any (Rows.reachBallsSpec.pre6 enc Try.prog Try.f6 Rows.reachBallsRow.domain false) (Rows.reachBallsSpec.post enc Try.prog Try.f6 false true false false) := by
  refine returnsInHanded_of_change (C := Try.checked) Try.own started (by kernel_rfl) Try.func6
    (ChangeSpec.witness6 (enc := enc) (C := Try.checked) false ⟨#[], #[.int .i64 0, .agg #[.int .i64 0, .int .i64 0], .int .i64 0], []⟩ 8 (by kernel_rfl) (by kernel_rfl) (by kernel_rfl) (by kernel_rfl)) ?_
  intro W base args ds gs before hval0 hW hcnd _
  have hval : ∀ (j : Nat) t v, Try.f6.params[j]? = some t → args[j]? = some v → Value.okWide Try.prog W .any base t v := hval0
  have hW' := hW
  obtain ⟨p, q, hA0, hV, rfl, hfz, hnd⟩ := hW
  have hA : DataW.TrodAll enc Try.prog W 0 (fun _ => true) true Try.f6.params.toList args.toList ds p := hA0
  rw [Try.params6] at hA hval
  obtain ⟨v0, v1, v2, d0, d1, d2, p0, p1, p2, rfl, rfl, rfl, h0, h1, h2⟩ := trodAll_three hA
  obtain ⟨rfl, rfl⟩ := trodVars_none hV
  obtain ⟨kind, rfl, rfl, rfl, wk⟩ := open_int Try.underlying3 (hval 0 3 v0 rfl rfl) h0
  obtain ⟨a1, a2, rfl, x1, x2⟩ := open_key (hval 1 23 v1 rfl rfl) h1
  obtain ⟨r, rfl, rfl, rfl, wr⟩ := open_int Try.underlying3 (hval 2 3 v2 rfl rfl) h2
  refine (reachBalls_calls kind a1 a2 r ⟨x1, x2⟩ W).mono fun e W' ⟨he, hb⟩ => ?_
  subst he
  exact close_true (tb := 4) Try.laidOut (fun t ht => by rw [Try.params6] at ht; exact readable_of (by kernel_rfl) t ht) rfl Try.underlying4 rfl rfl rfl rfl hW' hb
theorem reachBalls_holds : Rows.ReachBallsSaid :=
  OpenClaim.holds_of_wide 6 Try.f6 rfl rfl rfl rfl rfl rfl rfl ⟨rfl, rfl, rfl, rfl, rfl⟩ rfl rfl rfl rfl rfl (by kernel_rfl) Try.func6 (by kernel_rfl)
    (of_decide_eq_true (by kernel_rfl)) (by unfold Func.isWrapper; first | (rw [if_pos (by decide +kernel)]; kernel_rfl) | (rw [if_neg (by decide +kernel)]; exact ⟨rfl, rfl⟩))
    (fun os started H enc _ => reachBalls_lifted os started H enc)
end Go.Proofs.Ytcnpanmkpfgdjaa
