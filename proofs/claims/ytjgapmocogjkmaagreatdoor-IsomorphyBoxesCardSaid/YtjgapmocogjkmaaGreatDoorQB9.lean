/- IsomorphyBoxes returns true for any kind, any rank and any most of a box, and its arguments read behind the call as they read before. -/
import Derived.Test.YtjgapmocogjkmaaGreatDoorTie
import Derived.Test.YtjgapmocogjkmaaGreatDoorCards
import Derived.SevenTiedAt
import Derived.Test.YtjgapmocogjkmaaGreatDoorQB8
namespace Go.Proofs.YtjgapmocogjkmaaGreatDoor
open Go Go.ChangeShapes Go.WideShapes Go.ChangeAt Go.RowKit Go.Joins Go.PM
set_option maxRecDepth 100000 in
theorem isomorphyBoxes_lifted (os : Os) (started : os.Started) (H : Type) (enc : TypeId × Value → H) :
  ReturnsInHanded {} Tryz.checked os 10 .any (fun w args => (Rows.isomorphyBoxesSpec.pre enc Tryz.prog Tryz.f10 [] false w args ∧ laidMetH Tryz.prog aEG w) ∧ sizedMet enc Tryz.prog Tryz.f10 (OpenSpec.ofChange Rows.isomorphyBoxesSpec) false w args) (Rows.isomorphyBoxesSpec.post enc Tryz.prog Tryz.f10 false true false false) := by
 refine returnsInHanded_of_change_and (C := Tryz.checked) (X := fun w _ => laidMetH Tryz.prog aEG w) (fun _ _ _ hh h => h.of_heap hh) Tryz.own started (by kernel_rfl) Tryz.func10
  (ChangeSpec.witness_shaped (enc := enc) (C := Tryz.checked) (os := os) (X := fun w _ => laidMetH Tryz.prog aEG w) false (World.doorLaid Tryz.prog 4000 os) #[.int .i64 0, .int .i64 0, .int .i64 0] 8 rfl (World.shaped_of_RefB (by kernel_rfl) (by kernel_rfl)) (by kernel_rfl) (by kernel_rfl) (by kernel_rfl) (aPF os _)) ?_
 intro W base args ds gs before hval0 hW _ _ hL _
 have hval : ∀ (j : Nat) t v, Tryz.f10.params[j]? = some t → args[j]? = some v → Value.okWide Tryz.prog W .any base t v := hval0
 have hW' := hW
 obtain ⟨p, q, hA0, hV, rfl, hfz, hnd⟩ := hW
 have hA : DataW.TrodAll enc Tryz.prog W 0 (fun _ => true) true Tryz.f10.params.toList args.toList ds p := hA0
 rw [Tryz.params10] at hA hval
 obtain ⟨v0, v1, v2, d0, d1, d2, p0, p1, p2, rfl, rfl, rfl, h0, h1, h2⟩ := trodAll_three hA
 obtain ⟨rfl, rfl⟩ := trodVars_none hV
 obtain ⟨x0, y0, w0⟩ := aCU Tryz.underlying3 (hval 0 3 v0 rfl rfl) h0
 obtain ⟨x1, y1, w1⟩ := aCU Tryz.underlying3 (hval 1 3 v1 rfl rfl) h1
 obtain ⟨x2, y2, w2⟩ := aCU Tryz.underlying3 (hval 2 3 v2 rfl rfl) h2
 refine (aO2 aZD (x := (x0, x1, x2, ())) (aPS) (aSZ hL) (vs := #[v0, v1, v2]) (WZ y0 (WZ y1 (WZ y2 (aSP))))).mono fun e W' ⟨he, hb⟩ => ?_
 subst he
 exact aI1 (tb := 4) Tryz.laidOut (fun t ht => by rw [Tryz.params10] at ht; exact aF7 (by kernel_rfl) t ht) rfl Tryz.underlying4 rfl rfl rfl rfl hW' hb
theorem isomorphyBoxes_holds : Rows.IsomorphyBoxesSaid :=
 OpenClaim.holds_of_wide 10 Tryz.f10 rfl rfl rfl rfl rfl rfl rfl ⟨rfl, rfl, rfl, rfl, rfl⟩ rfl rfl rfl rfl rfl (by kernel_rfl) Tryz.func10 (by kernel_rfl)
  (of_decide_eq_true (by kernel_rfl)) (by unfold Func.isWrapper; first | (rw [if_pos (by decide +kernel)]; kernel_rfl) | (rw [if_neg (by decide +kernel)]; exact ⟨rfl, rfl⟩))
  (fun os started H enc _ => isomorphyBoxes_lifted os started H enc)
theorem isomorphyBoxes_card : Rows.IsomorphyBoxesCardSaid :=
 Claim7.holds_tied_plain_at .later [] [.data, .data, .data, .sentinel, .sentinel] true (true, "ee564db018781ac6b746287faee2405be17d6e71022097e3d2e7e57e0d1c5cc8") true
  isomorphyBoxes_holds (fun _ h => by cases h) (by kernel_rfl) (fun _ h => by cases h) isomorphyBoxes_row_tie rfl ⟨rfl, rfl⟩ (by kernel_rfl) rfl
  (fun f fn hf hfn => by
   obtain rfl : f = 10 := Option.some.inj ((show Tryz.prog.funcNamed "schisma/schismalaw46.IsomorphyBoxes" = some 10 by kernel_rfl).symm.trans hf) |>.symm
   obtain rfl : fn = Tryz.f10 := (Option.some.inj (Tryz.func10.symm.trans hfn)).symm
   exact ⟨by kernel_rfl, fun j t ht => by
    rw [Tryz.params10] at ht
    have hm : t ∈ [3, 3, 3] := by simpa using Array.mem_of_getElem? ht
    have hall : ([3, 3, 3].all fun u => !Tryz.prog.wantsStandIn u) = true := by kernel_rfl
    exact (show Tryz.prog.wantsStandIn t = false by simpa using List.all_eq_true.1 hall t hm)⟩)
  (by kernel_rfl)
end Go.Proofs.YtjgapmocogjkmaaGreatDoor
