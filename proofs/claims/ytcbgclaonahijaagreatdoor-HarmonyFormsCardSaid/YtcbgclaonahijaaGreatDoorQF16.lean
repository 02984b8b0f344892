/- 16 -/
import Derived.Test.YtcbgclaonahijaaGreatDoorTie
import Derived.Test.YtcbgclaonahijaaGreatDoorCards
import Derived.Test.YtcbgclaonahijaaGreatDoorQF0
import Derived.Test.YtcbgclaonahijaaGreatDoorQF15
namespace Go.Proofs.YtcbgclaonahijaaGreatDoor
open Go Go.ChangeShapes Go.WideShapes Go.ChangeAt Go.RowKit Go.Joins Go.PM
set_option maxRecDepth 100000 in
theorem harmonyForms_lifted (os : Os) (started : os.Started) (H : Type) (enc : TypeId × Value → H) :
    ReturnsInHanded {} Tryz.checked os 3 .any (fun w args => (Rows.harmonyFormsSpec.pre enc Tryz.prog Tryz.f3 [] false w args ∧ laidMetH Tryz.prog bXH w) ∧ sizedMet enc Tryz.prog Tryz.f3 (OpenSpec.ofChange Rows.harmonyFormsSpec) false w args) (Rows.harmonyFormsSpec.post enc Tryz.prog Tryz.f3 false true false false) := by
  refine returnsInHanded_of_change_and (C := Tryz.checked) (X := fun w _ => laidMetH Tryz.prog bXH w) (fun _ _ _ hh h => h.of_heap hh) Tryz.own started (by kernel_rfl) Tryz.func3
    (ChangeSpec.witness_shaped (enc := enc) (C := Tryz.checked) (os := os) (X := fun w _ => laidMetH Tryz.prog bXH w) false (World.doorLaid Tryz.prog 4000 os) #[.agg #[.int .u8 0, .slice none 0 0, .bool false, .slice none 0 0, .slice none 0 0, .int .u8 0], .int .u8 0, .slice none 0 0] 8 rfl (World.shaped_of_RefB (by kernel_rfl) (by kernel_rfl)) (by kernel_rfl) (by kernel_rfl) (by kernel_rfl) (bWZ os _)) ?_
  intro W base args ds gs before hval0 hW _ _ hL _
  have hval : ∀ (j : Nat) t v, Tryz.f3.params[j]? = some t → args[j]? = some v → Value.okWide Tryz.prog W .any base t v := hval0
  have hW' := hW
  obtain ⟨p, q, hA0, hV, rfl, hfz, hnd⟩ := hW
  have hA : DataW.TrodAll enc Tryz.prog W 0 (fun _ => true) true Tryz.f3.params.toList args.toList ds p := hA0
  rw [Tryz.params3] at hA hval
  obtain ⟨v0, v1, v2, d0, d1, d2, p0, p1, p2, rfl, rfl, rfl, h0, h1, h2⟩ := trodAll_three hA
  obtain ⟨rfl, rfl⟩ := trodVars_none hV
  obtain ⟨x0, y0, w0⟩ := bOF Tryz.underlying27 (bLN Tryz.underlying27 (T := (.prod (.prod (.int .u8) (.prod (.list (.prod (.int .i8) (.prod (.int .i8) (.prod (.int .i8) (.int .i8))))) .bool)) (.prod (.list (.prod (.int .i8) (.prod (.int .i8) (.prod (.int .i8) (.int .i8))))) (.prod (.list (.list (.prod (.int .i8) (.prod (.int .i8) (.prod (.int .i8) (.int .i8)))))) (.int .u8))))) (by kernel_rfl) ⟨rfl, (bLN Tryz.underlying24 (T := (.prod (.int .u8) (.prod (.list (.prod (.int .i8) (.prod (.int .i8) (.prod (.int .i8) (.int .i8))))) .bool))) (by kernel_rfl) ⟨rfl, (bZH Tryz.underlying5 (by kernel_rfl)), rfl, (bCE Tryz.underlying22 (by kernel_rfl) (bQV (n := 3) Tryz.underlying69 (by kernel_rfl) (bZH Tryz.underlying54 (by kernel_rfl)))), rfl, (bUL Tryz.underlying4 (by kernel_rfl))⟩), rfl, (bCE Tryz.underlying22 (by kernel_rfl) (bQV (n := 3) Tryz.underlying69 (by kernel_rfl) (bZH Tryz.underlying54 (by kernel_rfl)))), rfl, (bCE Tryz.underlying25 (by kernel_rfl) (bCE Tryz.underlying22 (by kernel_rfl) (bQV (n := 3) Tryz.underlying69 (by kernel_rfl) (bZH Tryz.underlying54 (by kernel_rfl))))), rfl, (bZH Tryz.underlying5 (by kernel_rfl))⟩) (hval 0 27 v0 rfl rfl) h0
  obtain ⟨x1, y1, w1⟩ := bYE Tryz.underlying5 (hval 1 5 v1 rfl rfl) h1
  obtain ⟨x2, y2, w2⟩ := bT1 Tryz.underlying29 (by kernel_rfl) (bZH Tryz.underlying3 (by kernel_rfl)) (hval 2 29 v2 rfl rfl) h2
  refine (bWG zq1J (x := (x0, x1, x2, ())) (zq1R x0 (b3J w0) x1 (wf_u8 w1).1 (wf_u8 w1).2 x2) (bX6 hL) (vs := #[v0, v1, v2]) (bU6 y0 (bU6 y1 (bU6 y2 (bYF))))).mono fun e W' ⟨he, hb⟩ => ?_
  subst he
  exact bMS (tb := 4) Tryz.laidOut (fun t ht => by rw [Tryz.params3] at ht; exact bIG (by kernel_rfl) t ht) rfl Tryz.underlying4 rfl rfl rfl rfl hW' hb
theorem harmonyForms_holds : Rows.HarmonyFormsSaid :=
  OpenClaim.holds_of_wide 3 Tryz.f3 rfl rfl rfl rfl rfl rfl rfl ⟨rfl, rfl, rfl, rfl, rfl⟩ rfl rfl rfl rfl rfl (by kernel_rfl) Tryz.func3 harmonyForms_closed
    (of_decide_eq_true (by kernel_rfl)) (by unfold Func.isWrapper; first | (rw [if_pos (by decide +kernel)]; kernel_rfl) | (rw [if_neg (by decide +kernel)]; exact ⟨rfl, rfl⟩))
    (fun os started H enc _ => harmonyForms_lifted os started H enc)
theorem harmonyForms_card : Rows.HarmonyFormsCardSaid :=
  Claim7.holds_tied_plain_at .later [] [.data, .data, .data, .sentinel, .sentinel] true (true, "43ef36b720a2c5d3d15bdcfbc142c60b966cdf6e84437cfd5052334bcbc1198b") true
    harmonyForms_holds (fun _ h => by cases h) harmonyForms_wf (fun _ h => by cases h) harmonyForms_row_tie rfl ⟨rfl, rfl⟩ bQ0 rfl
    (fun f fn hf hfn => by
      obtain rfl : f = 3 := Option.some.inj ((show Tryz.prog.funcNamed "schisma/schismalaw41.HarmonyForms" = some 3 by kernel_rfl).symm.trans hf) |>.symm
      obtain rfl : fn = Tryz.f3 := (Option.some.inj (Tryz.func3.symm.trans hfn)).symm
      exact ⟨bL5, fun j t ht => by
        rw [Tryz.params3] at ht
        have hm : t ∈ [27, 5, 29] := by simpa using Array.mem_of_getElem? ht
        have hall : ([27, 5, 29].all fun u => !Tryz.prog.wantsStandIn u) = true := by kernel_rfl
        exact (show Tryz.prog.wantsStandIn t = false by simpa using List.all_eq_true.1 hall t hm)⟩)
    harmonyForms_goes
end Go.Proofs.YtcbgclaonahijaaGreatDoor
