/- IsomorphyShifts returns true for any layout and any two numbers, and its arguments read behind the call as they read before. -/
import Derived.Test.YtjgapmocogjkmaaGreatDoorPnZ
import Derived.Test.YtjgapmocogjkmaaGreatDoorIsD
import Derived.Test.YtjgapmocogjkmaaGreatDoorTie
import Derived.Test.YtjgapmocogjkmaaGreatDoorCards
import Derived.SevenTiedAt
import Derived.Test.YtjgapmocogjkmaaGreatDoorIsW
namespace Go.Proofs.YtjgapmocogjkmaaGreatDoor
open Go Go.ChangeShapes Go.WideShapes Go.ChangeAt Go.RowKit Go.Joins Go.PM
set_option maxRecDepth 100000 in
theorem isomorphyShifts_lifted (os : Os) (started : os.Started) (H : Type) (enc : TypeId × Value → H) :
    ReturnsInHanded {} Tryz.checked os 4 .any (fun w args => (Rows.isomorphyShiftsSpec.pre enc Tryz.prog Tryz.f4 [] false w args ∧ laidMetH Tryz.prog laidL w) ∧ sizedMet enc Tryz.prog Tryz.f4 (OpenSpec.ofChange Rows.isomorphyShiftsSpec) false w args) (Rows.isomorphyShiftsSpec.post enc Tryz.prog Tryz.f4 false true false false) := by
  refine returnsInHanded_of_change_and (C := Tryz.checked) (X := fun w _ => laidMetH Tryz.prog laidL w) (fun _ _ _ hh h => h.of_heap hh) Tryz.own started (by kernel_rfl) Tryz.func4
    (ChangeSpec.witness_shaped (enc := enc) (C := Tryz.checked) (os := os) (X := fun w _ => laidMetH Tryz.prog laidL w) false (World.doorLaid Tryz.prog 4000 os) #[.agg #[.int .i64 0, .slice none 0 0, .slice none 0 0, .slice none 0 0], .int .i64 0, .int .i64 0] 8 rfl (World.shaped_of_RefB (by kernel_rfl) (by kernel_rfl)) (by kernel_rfl) (by kernel_rfl) (by kernel_rfl) (door_met os _)) ?_
  intro W base args ds gs before hval0 hW _ _ hL _
  have hval : ∀ (j : Nat) t v, Tryz.f4.params[j]? = some t → args[j]? = some v → Value.okWide Tryz.prog W .any base t v := hval0
  have hW' := hW
  obtain ⟨p, q, hA0, hV, rfl, hfz, hnd⟩ := hW
  have hA : DataW.TrodAll enc Tryz.prog W 0 (fun _ => true) true Tryz.f4.params.toList args.toList ds p := hA0
  rw [Tryz.params4] at hA hval
  obtain ⟨v0, v1, v2, d0, d1, d2, p0, p1, p2, rfl, rfl, rfl, h0, h1, h2⟩ := trodAll_three hA
  obtain ⟨rfl, rfl⟩ := trodVars_none hV
  obtain ⟨x0, y0, w0⟩ := opK_struct Tryz.underlying25 (opT_struct Tryz.underlying25 (T := (.prod (.int .i64) (.prod (.list (.int .i64)) (.prod (.list (.int .i64)) (.list (.int .i64)))))) (by kernel_rfl) ⟨rfl, (opT_int Tryz.underlying3 (by kernel_rfl)), rfl, (opT_slice Tryz.underlying23 (by kernel_rfl) (opT_int Tryz.underlying3 (by kernel_rfl))), rfl, (opT_slice Tryz.underlying23 (by kernel_rfl) (opT_int Tryz.underlying3 (by kernel_rfl))), rfl, (opT_slice Tryz.underlying23 (by kernel_rfl) (opT_int Tryz.underlying3 (by kernel_rfl)))⟩) (hval 0 25 v0 rfl rfl) h0
  obtain ⟨x1, y1, w1⟩ := opK_int Tryz.underlying3 (hval 1 3 v1 rfl rfl) h1
  obtain ⟨x2, y2, w2⟩ := opK_int Tryz.underlying3 (hval 2 3 v2 rfl rfl) h2
  refine (law_true fn4 (x := (x0, x1, x2, ())) (f4_true x0 x1 x2) (vs := #[v0, v1, v2]) (vrs_cons y0 (vrs_cons y1 (vrs_cons y2 (vrs_nil))))).mono fun e W' ⟨he, hb⟩ => ?_
  subst he
  exact close_true (tb := 4) Tryz.laidOut (fun t ht => by rw [Tryz.params4] at ht; exact readable_of (by kernel_rfl) t ht) rfl Tryz.underlying4 rfl rfl rfl rfl hW' hb
theorem isomorphyShifts_holds : Rows.IsomorphyShiftsSaid :=
  OpenClaim.holds_of_wide 4 Tryz.f4 rfl rfl rfl rfl rfl rfl rfl ⟨rfl, rfl, rfl, rfl, rfl⟩ rfl rfl rfl rfl rfl (by kernel_rfl) Tryz.func4 (by kernel_rfl)
    (of_decide_eq_true (by kernel_rfl)) (by unfold Func.isWrapper; first | (rw [if_pos (by decide +kernel)]; kernel_rfl) | (rw [if_neg (by decide +kernel)]; exact ⟨rfl, rfl⟩))
    (fun os started H enc _ => isomorphyShifts_lifted os started H enc)
theorem isomorphyShifts_card : Rows.IsomorphyShiftsCardSaid :=
  Claim7.holds_tied_plain_at .later [] [.data, .data, .data, .sentinel, .sentinel] true (true, "ee564db018781ac6b746287faee2405be17d6e71022097e3d2e7e57e0d1c5cc8") true
    isomorphyShifts_holds (fun _ h => by cases h) (by kernel_rfl) (fun _ h => by cases h) isomorphyShifts_row_tie rfl ⟨rfl, rfl⟩ (by kernel_rfl) rfl
    (fun f fn hf hfn => by
      obtain rfl : f = 4 := Option.some.inj ((show Tryz.prog.funcNamed "schisma/schismalaw46.IsomorphyShifts" = some 4 by kernel_rfl).symm.trans hf) |>.symm
      obtain rfl : fn = Tryz.f4 := (Option.some.inj (Tryz.func4.symm.trans hfn)).symm
      exact ⟨by kernel_rfl, fun j t ht => by
        rw [Tryz.params4] at ht
        have hm : t ∈ [25, 3, 3] := by simpa using Array.mem_of_getElem? ht
        have hall : ([25, 3, 3].all fun u => !Tryz.prog.wantsStandIn u) = true := by kernel_rfl
        exact (show Tryz.prog.wantsStandIn t = false by simpa using List.all_eq_true.1 hall t hm)⟩)
    (by kernel_rfl)
end Go.Proofs.YtjgapmocogjkmaaGreatDoor
