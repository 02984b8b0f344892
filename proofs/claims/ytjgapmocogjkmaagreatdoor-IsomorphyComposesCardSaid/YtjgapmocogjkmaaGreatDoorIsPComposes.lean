/- IsomorphyComposes returns true for any draft of a layout and any two symmetries, and its arguments read behind the call as they read before. -/
import Derived.Test.YtjgapmocogjkmaaGreatDoorPnZ
import Derived.Test.YtjgapmocogjkmaaGreatDoorIsD
import Derived.Test.YtjgapmocogjkmaaGreatDoorTie
import Derived.Test.YtjgapmocogjkmaaGreatDoorCards
import Derived.SevenTiedAt
import Derived.Test.YtjgapmocogjkmaaGreatDoorIsCq
namespace Go.Proofs.YtjgapmocogjkmaaGreatDoor
open Go Go.ChangeShapes Go.WideShapes Go.ChangeAt Go.RowKit Go.Joins Go.PM
set_option maxRecDepth 100000 in
theorem isomorphyComposes_lifted (os : Os) (started : os.Started) (H : Type) (enc : TypeId × Value → H) :
    ReturnsInHanded {} Tryz.checked os 9 .any (fun w args => (Rows.isomorphyComposesSpec.pre enc Tryz.prog Tryz.f9 [] false w args ∧ laidMetH Tryz.prog laidL w) ∧ sizedMet enc Tryz.prog Tryz.f9 (OpenSpec.ofChange Rows.isomorphyComposesSpec) false w args) (Rows.isomorphyComposesSpec.post enc Tryz.prog Tryz.f9 false true false false) := by
  refine returnsInHanded_of_change_and (C := Tryz.checked) (X := fun w _ => laidMetH Tryz.prog laidL w) (fun _ _ _ hh h => h.of_heap hh) Tryz.own started (by kernel_rfl) Tryz.func9
    (ChangeSpec.witness_shaped (enc := enc) (C := Tryz.checked) (os := os) (X := fun w _ => laidMetH Tryz.prog laidL w) false (World.doorLaid Tryz.prog 4000 os) #[.agg #[.bool false, .int .u8 0, .int .i8 0, .int .i8 0, .int .i8 0, .int .i8 0, .int .i8 0, .int .i8 0, .int .i8 0, .int .i8 0, .int .i8 0], .int .u8 0, .int .u8 0] 8 rfl (World.shaped_of_RefB (by kernel_rfl) (by kernel_rfl)) (by kernel_rfl) (by kernel_rfl) (by kernel_rfl) (door_met os _)) ?_
  intro W base args ds gs before hval0 hW _ _ hL _
  have hval : ∀ (j : Nat) t v, Tryz.f9.params[j]? = some t → args[j]? = some v → Value.okWide Tryz.prog W .any base t v := hval0
  have hW' := hW
  obtain ⟨p, q, hA0, hV, rfl, hfz, hnd⟩ := hW
  have hA : DataW.TrodAll enc Tryz.prog W 0 (fun _ => true) true Tryz.f9.params.toList args.toList ds p := hA0
  rw [Tryz.params9] at hA hval
  obtain ⟨v0, v1, v2, d0, d1, d2, p0, p1, p2, rfl, rfl, rfl, h0, h1, h2⟩ := trodAll_three hA
  obtain ⟨rfl, rfl⟩ := trodVars_none hV
  obtain ⟨x0, y0, w0⟩ := opK_struct Tryz.underlying57 (opT_struct Tryz.underlying57 (T := (.prod .bool (.prod (.int .u8) (.prod (.prod (.int .i8) (.prod (.int .i8) (.int .i8))) (.prod (.prod (.int .i8) (.prod (.int .i8) (.int .i8))) (.prod (.int .i8) (.prod (.int .i8) (.int .i8)))))))) (by kernel_rfl) ⟨rfl, (opT_bool Tryz.underlying4 (by kernel_rfl)), rfl, (opT_int Tryz.underlying5 (by kernel_rfl)), rfl, (opT_array (n := 2) Tryz.underlying55 (by kernel_rfl) (opT_array (n := 2) Tryz.underlying54 (by kernel_rfl) (opT_int Tryz.underlying53 (by kernel_rfl))))⟩) (hval 0 57 v0 rfl rfl) h0
  obtain ⟨x1, y1, w1⟩ := opK_int Tryz.underlying5 (hval 1 5 v1 rfl rfl) h1
  obtain ⟨x2, y2, w2⟩ := opK_int Tryz.underlying5 (hval 2 5 v2 rfl rfl) h2
  refine (law_true fn9 (x := (x0, x1, x2, ())) (f9_true x0 (bounds_u8 w0.2.1) (bounds_u8 w1) (bounds_u8 w2)) (vs := #[v0, v1, v2]) (vrs_cons y0 (vrs_cons y1 (vrs_cons y2 (vrs_nil))))).mono fun e W' ⟨he, hb⟩ => ?_
  subst he
  exact close_true (tb := 4) Tryz.laidOut (fun t ht => by rw [Tryz.params9] at ht; exact readable_of (by kernel_rfl) t ht) rfl Tryz.underlying4 rfl rfl rfl rfl hW' hb
theorem isomorphyComposes_holds : Rows.IsomorphyComposesSaid :=
  OpenClaim.holds_of_wide 9 Tryz.f9 rfl rfl rfl rfl rfl rfl rfl ⟨rfl, rfl, rfl, rfl, rfl⟩ rfl rfl rfl rfl rfl (by kernel_rfl) Tryz.func9 (by kernel_rfl)
    (of_decide_eq_true (by kernel_rfl)) (by unfold Func.isWrapper; first | (rw [if_pos (by decide +kernel)]; kernel_rfl) | (rw [if_neg (by decide +kernel)]; exact ⟨rfl, rfl⟩))
    (fun os started H enc _ => isomorphyComposes_lifted os started H enc)
theorem isomorphyComposes_card : Rows.IsomorphyComposesCardSaid :=
  Claim7.holds_tied_plain_at .later [] [.data, .data, .data, .sentinel, .sentinel] true (true, "ee564db018781ac6b746287faee2405be17d6e71022097e3d2e7e57e0d1c5cc8") true
    isomorphyComposes_holds (fun _ h => by cases h) (by kernel_rfl) (fun _ h => by cases h) isomorphyComposes_row_tie rfl ⟨rfl, rfl⟩ (by kernel_rfl) rfl
    (fun f fn hf hfn => by
      obtain rfl : f = 9 := Option.some.inj ((show Tryz.prog.funcNamed "schisma/schismalaw46.IsomorphyComposes" = some 9 by kernel_rfl).symm.trans hf) |>.symm
      obtain rfl : fn = Tryz.f9 := (Option.some.inj (Tryz.func9.symm.trans hfn)).symm
      exact ⟨by kernel_rfl, fun j t ht => by
        rw [Tryz.params9] at ht
        have hm : t ∈ [57, 5, 5] := by simpa using Array.mem_of_getElem? ht
        have hall : ([57, 5, 5].all fun u => !Tryz.prog.wantsStandIn u) = true := by kernel_rfl
        exact (show Tryz.prog.wantsStandIn t = false by simpa using List.all_eq_true.1 hall t hm)⟩)
    (by kernel_rfl)
end Go.Proofs.YtjgapmocogjkmaaGreatDoor
