/- ConsonanceTempers: P40.1: for any plan of a temperament (18) and any list of at most 6 rows of at most 14 elements, Tempered returns the closure of the tempered intervals, or the first error. -/
import Derived.Test.YtbjdceodppagoaaGreatDoorTie
import Derived.Test.YtbjdceodppagoaaGreatDoorCards
import Derived.SevenTiedAt
import Derived.Test.YtbjdceodppagoaaGreatDoorQT11
namespace Go.Proofs.YtbjdceodppagoaaGreatDoor
open Go Go.ChangeShapes Go.WideShapes Go.ChangeAt Go.RowKit Go.Joins Go.PM
theorem Tryz.own : ownKnob Tryz.prog.godebug = none := by kernel_rfl
theorem Tryz.laidOut : laidOutB Tryz.prog = true := by kernel_rfl
set_option maxRecDepth 100000 in
theorem consonanceTempers_lifted (os : Os) (started : os.Started) (H : Type) (enc : TypeId × Value → H) :
    ReturnsInHanded {} Tryz.checked os 3 .any (fun w args => (Rows.consonanceTempersSpec.pre enc Tryz.prog Tryz.f3 [] false w args ∧ laidMetH Tryz.prog MS w) ∧ sizedMet enc Tryz.prog Tryz.f3 (OpenSpec.ofChange Rows.consonanceTempersSpec) false w args) (Rows.consonanceTempersSpec.post enc Tryz.prog Tryz.f3 false true false false) := by
  refine returnsInHanded_of_change_and (C := Tryz.checked) (X := fun w _ => laidMetH Tryz.prog MS w) (fun _ _ _ hh h => h.of_heap hh) Tryz.own started (by kernel_rfl) Tryz.func3
    (ChangeSpec.witness_shaped (enc := enc) (C := Tryz.checked) (os := os) (X := fun w _ => laidMetH Tryz.prog MS w) false (World.doorLaid Tryz.prog 4000 os) #[.agg #[.int .u8 0, .slice none 0 0, .bool false], .slice none 0 0] 8 rfl (World.shaped_of_RefB (by kernel_rfl) (by kernel_rfl)) (by kernel_rfl) (by kernel_rfl) (by kernel_rfl) (MM os _)) ?_
  intro W base args ds gs before hval0 hW _ _ hL _
  have hval : ∀ (j : Nat) t v, Tryz.f3.params[j]? = some t → args[j]? = some v → Value.okWide Tryz.prog W .any base t v := hval0
  have hW' := hW
  obtain ⟨p, q, hA0, hV, rfl, hfz, hnd⟩ := hW
  have hA : DataW.TrodAll enc Tryz.prog W 0 (fun _ => true) true Tryz.f3.params.toList args.toList ds p := hA0
  rw [Tryz.params3] at hA hval
  obtain ⟨v0, v1, d0, d1, p0, p1, rfl, rfl, rfl, h0, h1⟩ := trodAll_two hA
  obtain ⟨rfl, rfl⟩ := trodVars_none hV
  obtain ⟨x0, y0, w0⟩ := H8 Tryz.underlying24 (GY Tryz.underlying24 (T := (.prod (.int .u8) (.prod (.list (.prod (.int .i8) (.prod (.int .i8) (.prod (.int .i8) (.int .i8))))) .bool))) (by kernel_rfl) ⟨rfl, (OB Tryz.underlying5 (by kernel_rfl)), rfl, (CM Tryz.underlying22 (by kernel_rfl) (JC (n := 3) Tryz.underlying48 (by kernel_rfl) (OB Tryz.underlying47 (by kernel_rfl)))), rfl, (K5 Tryz.underlying4 (by kernel_rfl))⟩) (hval 0 24 v0 rfl rfl) h0
  obtain ⟨x1, y1, w1⟩ := KQ Tryz.underlying25 (by kernel_rfl) (CM Tryz.underlying39 (by kernel_rfl) (OB Tryz.underlying3 (by kernel_rfl))) (hval 1 25 v1 rfl rfl) h1
  refine (MB aCA (x := (x0, x1, ())) (DW x0 ⟨wf_u8 w0.1, fun t ht => RK (w0.2.1.2 t ht)⟩ x1 w1.1) (ND hL) (vs := #[v0, v1]) (LG y0 (LG y1 (NQ)))).mono fun e W' ⟨he, hb⟩ => ?_
  subst he
  exact HH (tb := 4) Tryz.laidOut (fun t ht => by rw [Tryz.params3] at ht; exact E4 (by kernel_rfl) t ht) rfl Tryz.underlying4 rfl rfl rfl rfl hW' hb
theorem consonanceTempers_in : (Rows.consonanceTempersRow.inPlace == Tryz.prog.inPlace 3) = true := by kernel_rfl
theorem consonanceTempers_un : (Rows.consonanceTempersRow.unfollowed == Tryz.prog.unfollowed 3) = true := by kernel_rfl
theorem consonanceTempers_re : (Rows.consonanceTempersRow.recurses == Tryz.prog.recurses 3) = true := by kernel_rfl
theorem consonanceTempers_na : (Rows.consonanceTempersRow.named == Tryz.prog.varsNamed 3) = true := by kernel_rfl
theorem consonanceTempers_closed : joinedFacts Tryz.prog 3 Tryz.f3 Rows.consonanceTempersSpec Rows.consonanceTempersRow = true := by
  unfold joinedFacts
  simp only [Bool.and_eq_true]
  repeat' apply And.intro
  all_goals first | with_reducible exact consonanceTempers_in | with_reducible exact consonanceTempers_un | with_reducible exact consonanceTempers_re | with_reducible exact consonanceTempers_na | kernel_rfl
theorem consonanceTempers_holds : Rows.ConsonanceTempersSaid :=
  OpenClaim.holds_of_wide 3 Tryz.f3 rfl rfl rfl rfl rfl rfl rfl ⟨rfl, rfl, rfl, rfl, rfl⟩ rfl rfl rfl rfl rfl (by kernel_rfl) Tryz.func3 consonanceTempers_closed
    (of_decide_eq_true (by kernel_rfl)) (by unfold Func.isWrapper; first | (rw [if_pos (by decide +kernel)]; kernel_rfl) | (rw [if_neg (by decide +kernel)]; exact ⟨rfl, rfl⟩))
    (fun os started H enc _ => consonanceTempers_lifted os started H enc)
theorem consonanceTempers_wf : Rows.consonanceTempersRow.wfByText (OpenSpec.ofChange Rows.consonanceTempersSpec) = true := by kernel_rfl
theorem consonanceTempers_goes : false = Rows.consonanceTempersRow.goesBy Tryz.prog := by kernel_rfl
theorem consonanceTempers_card : Rows.ConsonanceTempersCardSaid :=
  Claim7.holds_tied_plain_at .later [] [.data, .data, .data, .sentinel, .sentinel] true (true, "4737ab51d747d2c0b085b5e968aa05c3c5b4528a24f532e7a84ab250f862f1d6") true
    consonanceTempers_holds (fun _ h => by cases h) consonanceTempers_wf (fun _ h => by cases h) consonanceTempers_row_tie rfl ⟨rfl, rfl⟩ JI rfl
    (fun f fn hf hfn => by
      obtain rfl : f = 3 := Option.some.inj ((show Tryz.prog.funcNamed "schisma/schismalaw40.ConsonanceTempers" = some 3 by kernel_rfl).symm.trans hf) |>.symm
      obtain rfl : fn = Tryz.f3 := (Option.some.inj (Tryz.func3.symm.trans hfn)).symm
      exact ⟨HA, fun j t ht => by
        rw [Tryz.params3] at ht
        have hm : t ∈ [24, 25] := by simpa using Array.mem_of_getElem? ht
        have hall : ([24, 25].all fun u => !Tryz.prog.wantsStandIn u) = true := by kernel_rfl
        exact (show Tryz.prog.wantsStandIn t = false by simpa using List.all_eq_true.1 hall t hm)⟩)
    consonanceTempers_goes
end Go.Proofs.YtbjdceodppagoaaGreatDoor
