/- ReachWindows returns true for every plan, and its argument reads behind the call as it read before. -/
import Derived.Test.YtcnpanmkpfgdjaaOpenPlan
import Derived.Test.YtcnpanmkpfgdjaaWindows
namespace Go.Proofs.Ytcnpanmkpfgdjaa
open Go.ChangeShapes Go.WideShapes Go.ChangeAt Go.RowKit Go.Joins Go.Sch

theorem reachWindows_calls (hex two : Bool) (o1 o2 r1 r2 u1 u2 m : Int) (hm : 0 ≤ m) {w : World} {ok : Nat → Prop} {v : Value} {l : List (Int × Int)} (h : (sliceR pair8R).R w ok [v] l) :
    Calls Try.prog 5 #[.agg #[.bool hex, .bool two, .int .i8 o1, .int .i8 o2, .int .i8 r1, .int .i8 r2, .int .i8 u1, .int .i8 u2, v, .int .u8 m]] w fun e w' => e = .returned (.bool true) ∧ Below w.heap.size w w' := by
  obtain ⟨Q, hQ⟩ : ∃ Q, Q = planQ ⟨false, two, (o1, o2), (r1, r2), (u1, u2), l, m⟩ := ⟨_, rfl⟩
  have hg : reachCheck Q = 0 := by rw [hQ]; exact planQ_check hm
  have hk1 : Q.l.kind = 1 := by rw [hQ]; rfl
  have h0 : 0 ≤ Q.most := (reachCheck_good hg).2.2.2.2.1
  rcases qCount_err hg with hc | hc
  · cases hn : leastOf (farD Q.l.kind) (chs (qLists Q)) with
    | none => exact windows_none hex two o1 o2 r1 r2 u1 u2 m h hQ hg hc hn
    | some p =>
      obtain ⟨c, d⟩ := p
      have hx1 : reachCheck (hexed Q) = 0 := by rw [hQ]; exact planQ_hexed hm
      have hx2 : (qCount (hexed Q)).2 = 0 := by rw [hexed_count hg hx1]; exact hc
      obtain ⟨c3, d3, hx3, hd3⟩ := least_hex (q := Q) (by rw [hk1] at hn; exact hn)
      have hw1 : reachCheck (wider Q) = 0 := by rw [hQ]; exact planQ_wider hm
      rcases qCount_err hw1 with hw2 | hw2
      · obtain ⟨c2, d2, hw3, hd2⟩ := least_wider h0 hn
        exact windows_some hex two o1 o2 r1 r2 u1 u2 m h hQ hg hc hn hx1 hx2 (c3 := c3) (d3 := d3) hx3 hd3 hw1 hw2 hw3 hd2
      · exact windows_wide hex two o1 o2 r1 r2 u1 u2 m h hQ hg hc hn hx1 hx2 (c3 := c3) (d3 := d3) hx3 hd3 hw2
  · exact windows_limit hex two o1 o2 r1 r2 u1 u2 m h hQ hc
set_option maxRecDepth 100000 in
theorem reachWindows_lifted (os : Os) (started : os.Started) (H : Type) (enc : TypeId × Value → H) :
    ReturnsInHanded {} Try.checked os 5 .any (Rows.reachWindowsSpec.pre6 enc Try.prog Try.f5 Rows.reachWindowsRow.domain false) (Rows.reachWindowsSpec.post enc Try.prog Try.f5 false true false false) := by
  refine returnsInHanded_of_change (C := Try.checked) Try.own started (by kernel_rfl) Try.func5
    (ChangeSpec.witness6 (enc := enc) (C := Try.checked) false ⟨#[], #[.agg #[.bool false, .bool false, .int .i8 0, .int .i8 0, .int .i8 0, .int .i8 0, .int .i8 0, .int .i8 0, .slice none 0 0, .int .u8 0]], []⟩ 8 (by kernel_rfl) (by kernel_rfl) (by kernel_rfl) (by kernel_rfl)) ?_
  intro W base args ds gs before hval0 hW hcnd _
  have hval : ∀ (j : Nat) t v, Try.f5.params[j]? = some t → args[j]? = some v → Value.okWide Try.prog W .any base t v := hval0
  have hW' := hW
  obtain ⟨p, q, hA0, hV, rfl, hfz, hnd⟩ := hW
  have hA : DataW.TrodAll enc Try.prog W 0 (fun _ => true) true Try.f5.params.toList args.toList ds p := hA0
  rw [Try.params5] at hA hval
  obtain ⟨v0, d0, rfl, rfl, h0⟩ := trodAll_one hA
  obtain ⟨rfl, rfl⟩ := trodVars_none hV
  obtain ⟨hex, two, o1, o2, r1, r2, u1, u2, m, c, l, rfl, hl, hm, -⟩ := open_plan (hval 0 39 v0 rfl rfl) h0
  refine (reachWindows_calls hex two o1 o2 r1 r2 u1 u2 m hm hl).mono fun e W' ⟨he, hb⟩ => ?_
  subst he
  exact close_true (tb := 4) Try.laidOut (fun t ht => by rw [Try.params5] at ht; exact readable_of (by kernel_rfl) t ht) rfl Try.underlying4 rfl rfl rfl rfl hW' hb
theorem reachWindows_holds : Rows.ReachWindowsSaid :=
  OpenClaim.holds_of_wide 5 Try.f5 rfl rfl rfl rfl rfl rfl rfl ⟨rfl, rfl, rfl, rfl, rfl⟩ rfl rfl rfl rfl rfl (by kernel_rfl) Try.func5 (by kernel_rfl)
    (of_decide_eq_true (by kernel_rfl)) (by unfold Func.isWrapper; first | (rw [if_pos (by decide +kernel)]; kernel_rfl) | (rw [if_neg (by decide +kernel)]; exact ⟨rfl, rfl⟩))
    (fun os started H enc _ => reachWindows_lifted os started H enc)
end Go.Proofs.Ytcnpanmkpfgdjaa
