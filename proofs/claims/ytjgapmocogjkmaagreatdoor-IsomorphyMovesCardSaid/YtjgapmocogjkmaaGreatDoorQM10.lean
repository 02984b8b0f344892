/- IsomorphyMoves returns true for any draft of a layout, any symmetry and any small shift, and its arguments read behind the call as they read before. -/
import Derived.Test.YtjgapmocogjkmaaGreatDoorTie
import Derived.Test.YtjgapmocogjkmaaGreatDoorCards
import Derived.SevenTiedAt
import Derived.Test.YtjgapmocogjkmaaGreatDoorQM9
namespace Go.Proofs.YtjgapmocogjkmaaGreatDoor
open Go Go.ChangeShapes Go.WideShapes Go.ChangeAt Go.RowKit Go.Joins Go.PM
set_option maxRecDepth 100000 in
theorem isomorphyMoves_lifted (os : Os) (started : os.Started) (H : Type) (enc : TypeId × Value → H) :
  ReturnsInHanded {} Tryz.checked os 8 .any (fun w args => (Rows.isomorphyMovesSpec.pre enc Tryz.prog Tryz.f8 [] false w args ∧ laidMetH Tryz.prog aH8 w) ∧ sizedMet enc Tryz.prog Tryz.f8 (OpenSpec.ofChange Rows.isomorphyMovesSpec) false w args) (Rows.isomorphyMovesSpec.post enc Tryz.prog Tryz.f8 false true false false) := by
 refine returnsInHanded_of_change_and (C := Tryz.checked) (X := fun w _ => laidMetH Tryz.prog aH8 w) (fun _ _ _ hh h => h.of_heap hh) Tryz.own started (by kernel_rfl) Tryz.func8
  (ChangeSpec.witness_shaped (enc := enc) (C := Tryz.checked) (os := os) (X := fun w _ => laidMetH Tryz.prog aH8 w) false (World.doorLaid Tryz.prog 4000 os) #[.agg #[.bool false, .int .u8 0, .int .i8 0, .int .i8 0, .int .i8 0, .int .i8 0, .int .i8 0, .int .i8 0, .int .i8 0, .int .i8 0, .int .i8 0], .int .u8 0, .agg #[.int .i8 0, .int .i8 0]] 8 rfl (World.shaped_of_RefB (by kernel_rfl) (by kernel_rfl)) (by kernel_rfl) (by kernel_rfl) (by kernel_rfl) (aVI os _)) ?_
 intro W base args ds gs before hval0 hW _ _ hL _
 have hval : ∀ (j : Nat) t v, Tryz.f8.params[j]? = some t → args[j]? = some v → Value.okWide Tryz.prog W .any base t v := hval0
 have hW' := hW
 obtain ⟨p, q, hA0, hV, rfl, hfz, hnd⟩ := hW
 have hA : DataW.TrodAll enc Tryz.prog W 0 (fun _ => true) true Tryz.f8.params.toList args.toList ds p := hA0
 rw [Tryz.params8] at hA hval
 obtain ⟨v0, v1, v2, d0, d1, d2, p0, p1, p2, rfl, rfl, rfl, h0, h1, h2⟩ := trodAll_three hA
 obtain ⟨rfl, rfl⟩ := trodVars_none hV
 obtain ⟨x0, y0, w0⟩ := aKW Tryz.underlying57 (aKI Tryz.underlying57 (T := (.prod .bool (.prod (.int .u8) (.prod (.prod (.int .i8) (.prod (.int .i8) (.int .i8))) (.prod (.prod (.int .i8) (.prod (.int .i8) (.int .i8))) (.prod (.int .i8) (.prod (.int .i8) (.int .i8)))))))) (by kernel_rfl) ⟨rfl, (aU6 Tryz.underlying4 (by kernel_rfl)), rfl, (aGZ Tryz.underlying5 (by kernel_rfl)), rfl, (U0 (n := 2) Tryz.underlying55 (by kernel_rfl) (U0 (n := 2) Tryz.underlying54 (by kernel_rfl) (aGZ Tryz.underlying53 (by kernel_rfl))))⟩) (hval 0 57 v0 rfl rfl) h0
 obtain ⟨x1, y1, w1⟩ := aX2 Tryz.underlying5 (hval 1 5 v1 rfl rfl) h1
 obtain ⟨x2, y2, w2⟩ := aPL Tryz.underlying58 (U0 (n := 1) Tryz.underlying58 (by kernel_rfl) (aGZ Tryz.underlying53 (by kernel_rfl))) (hval 2 58 v2 rfl rfl) h2
 refine (aSV fn8 (x := (x0, x1, x2, ())) (aXY x0 (bounds_u8 w0.2.1) (bounds_u8 w1)) (aYQ hL) (vs := #[v0, v1, v2]) (ZO y0 (ZO y1 (ZO y2 (aXN))))).mono fun e W' ⟨he, hb⟩ => ?_
 subst he
 exact aL3 (tb := 4) Tryz.laidOut (fun t ht => by rw [Tryz.params8] at ht; exact aIZ (by kernel_rfl) t ht) rfl Tryz.underlying4 rfl rfl rfl rfl hW' hb
theorem isomorphyMoves_holds : Rows.IsomorphyMovesSaid :=
 OpenClaim.holds_of_wide 8 Tryz.f8 rfl rfl rfl rfl rfl rfl rfl ⟨rfl, rfl, rfl, rfl, rfl⟩ rfl rfl rfl rfl rfl (by kernel_rfl) Tryz.func8 (by kernel_rfl)
  (of_decide_eq_true (by kernel_rfl)) (by unfold Func.isWrapper; first | (rw [if_pos (by decide +kernel)]; kernel_rfl) | (rw [if_neg (by decide +kernel)]; exact ⟨rfl, rfl⟩))
  (fun os started H enc _ => isomorphyMoves_lifted os started H enc)
theorem isomorphyMoves_card : Rows.IsomorphyMovesCardSaid :=
 Claim7.holds_tied_plain_at .later [] [.data, .data, .data, .sentinel, .sentinel] true (true, "ee564db018781ac6b746287faee2405be17d6e71022097e3d2e7e57e0d1c5cc8") true
  isomorphyMoves_holds (fun _ h => by cases h) (by kernel_rfl) (fun _ h => by cases h) isomorphyMoves_row_tie rfl ⟨rfl, rfl⟩ (by kernel_rfl) rfl
  (fun f fn hf hfn => by
   obtain rfl : f = 8 := Option.some.inj ((show Tryz.prog.funcNamed "schisma/schismalaw46.IsomorphyMoves" = some 8 by kernel_rfl).symm.trans hf) |>.symm
   obtain rfl : fn = Tryz.f8 := (Option.some.inj (Tryz.func8.symm.trans hfn)).symm
   exact ⟨by kernel_rfl, fun j t ht => by
    rw [Tryz.params8] at ht
    have hm : t ∈ [57, 5, 58] := by simpa using Array.mem_of_getElem? ht
    have hall : ([57, 5, 58].all fun u => !Tryz.prog.wantsStandIn u) = true := by kernel_rfl
    exact (show Tryz.prog.wantsStandIn t = false by simpa using List.all_eq_true.1 hall t hm)⟩)
  (by kernel_rfl)
end Go.Proofs.YtjgapmocogjkmaaGreatDoor
