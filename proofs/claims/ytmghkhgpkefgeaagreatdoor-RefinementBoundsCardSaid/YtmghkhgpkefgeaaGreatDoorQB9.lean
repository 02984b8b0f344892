/- RefinementBounds: P19.5: for any three described temperaments over the same primes, the join of the first two refines the third one exactly if both do, and the third one refines their meet exactly if it refines both (without the model). -/
import Derived.Test.YtmghkhgpkefgeaaGreatDoorTie
import Derived.Test.YtmghkhgpkefgeaaGreatDoorCards
import Derived.SevenTiedAt
import Derived.Test.YtmghkhgpkefgeaaGreatDoorQB8
set_option linter.unusedSimpArgs false
set_option linter.unusedVariables false
namespace Go.Proofs.YtmghkhgpkefgeaaGreatDoor
open Go Go.ChangeShapes Go.WideShapes Go.ChangeAt Go.RowKit Go.Joins Go.PM
set_option maxRecDepth 100000 in
theorem refinementBounds_lifted(os:Os) (started:os.Started) (H:Type) (enc:TypeId×Value->H) :
  ReturnsInHanded {} Tryz.checked os 3 .any (λw args=>(Rows.refinementBoundsSpec.pre enc Tryz.prog Tryz.f3 [] false w args/\laidMetH Tryz.prog aW6 w)/\sizedMet enc Tryz.prog Tryz.f3 (OpenSpec.ofChange Rows.refinementBoundsSpec) false w args) (Rows.refinementBoundsSpec.post enc Tryz.prog Tryz.f3 false true false false):=by
 refine returnsInHanded_of_change_and (C:=Tryz.checked) (X:=λw _=>laidMetH Tryz.prog aW6 w) (λ_ _ _ hh h=>h.of_heap hh) Tryz.own started (by kernel_rfl) Tryz.func3
  (ChangeSpec.witness_shaped (enc:=enc) (C:=Tryz.checked) (os:=os) (X:=λw _=>laidMetH Tryz.prog aW6 w) false (World.doorLaid Tryz.prog 4000 os) #[.agg #[.int .u8 0,.slice none 0 0,.bool false,.int .u8 0,.slice none 0 0,.bool false,.bool false],.agg #[.int .u8 0,.slice none 0 0,.bool false]] 8 rfl (World.shaped_of_RefB (by kernel_rfl) (by kernel_rfl)) (by kernel_rfl) (by kernel_rfl) (by kernel_rfl) (a4N os _)) ?_
 intro W base args ds gs before hval0 hW _ _ hL _;have hval:∀ (j:Nat) t v,Tryz.f3.params[j]?=some t->args[j]?=some v->Value.okWide Tryz.prog W .any base t v:=hval0;have hW':=hW;obtain⟨p,q,hA0,hV,rfl,hfz,hnd⟩:=hW;have hA:DataW.TrodAll enc Tryz.prog W 0 (λ_=>true) true Tryz.f3.params.toList args.toList ds p:=hA0;rw[Tryz.params3]at hA hval;obtain⟨v0,v1,d0,d1,p0,p1,rfl,rfl,rfl,h0,h1⟩:=trodAll_two hA;obtain⟨rfl,rfl⟩:=trodVars_none hV
 obtain⟨x0,y0,w0⟩:=aNA Tryz.underlying26 (XY Tryz.underlying26 (T:=(.prod (.prod (.int .u8) (.prod (.list (.prod (.int .i8) (.prod (.int .i8) (.prod (.int .i8) (.int .i8))))) .bool)) (.prod (.prod (.int .u8) (.prod (.list (.prod (.int .i8) (.prod (.int .i8) (.prod (.int .i8) (.int .i8))))) .bool)) .bool))) (by kernel_rfl) ⟨rfl,(XY Tryz.underlying24 (T:=(.prod (.int .u8) (.prod (.list (.prod (.int .i8) (.prod (.int .i8) (.prod (.int .i8) (.int .i8))))) .bool))) (by kernel_rfl) ⟨rfl,(aC3 Tryz.underlying5 (by kernel_rfl)),rfl,(aJO Tryz.underlying22 (by kernel_rfl) (aJJ (n:=3) Tryz.underlying52 (by kernel_rfl) (aC3 Tryz.underlying51 (by kernel_rfl)))),rfl,(aG4 Tryz.underlying4 (by kernel_rfl))⟩),rfl,(XY Tryz.underlying24 (T:=(.prod (.int .u8) (.prod (.list (.prod (.int .i8) (.prod (.int .i8) (.prod (.int .i8) (.int .i8))))) .bool))) (by kernel_rfl) ⟨rfl,(aC3 Tryz.underlying5 (by kernel_rfl)),rfl,(aJO Tryz.underlying22 (by kernel_rfl) (aJJ (n:=3) Tryz.underlying52 (by kernel_rfl) (aC3 Tryz.underlying51 (by kernel_rfl)))),rfl,(aG4 Tryz.underlying4 (by kernel_rfl))⟩),rfl,(aG4 Tryz.underlying4 (by kernel_rfl))⟩) (hval 0 26 v0 rfl rfl) h0
 obtain⟨x1,y1,w1⟩:=aNA Tryz.underlying24 (XY Tryz.underlying24 (T:=(.prod (.int .u8) (.prod (.list (.prod (.int .i8) (.prod (.int .i8) (.prod (.int .i8) (.int .i8))))) .bool))) (by kernel_rfl) ⟨rfl,(aC3 Tryz.underlying5 (by kernel_rfl)),rfl,(aJO Tryz.underlying22 (by kernel_rfl) (aJJ (n:=3) Tryz.underlying52 (by kernel_rfl) (aC3 Tryz.underlying51 (by kernel_rfl)))),rfl,(aG4 Tryz.underlying4 (by kernel_rfl))⟩) (hval 1 24 v1 rfl rfl) h1
 refine(a4Z KI (x:=(x0,x1,())) (aXP x0 x1 (aYG w0.1) (aYG w0.2.1) (aYG w1)) (a7L hL) (vs:=#[v0,v1]) (aWC y0 (aWC y1 (a7X)))).mono λe W' ⟨he,hb⟩=>?_
 subst he;exact aY5 (tb:=4) Tryz.laidOut (λt ht=>by rw[Tryz.params3]at ht; exact aVV (by kernel_rfl) t ht) rfl Tryz.underlying4 rfl rfl rfl rfl hW' hb
theorem refinementBounds_holds:Rows.RefinementBoundsSaid :=
 OpenClaim.holds_of_wide 3 Tryz.f3 rfl rfl rfl rfl rfl rfl rfl ⟨rfl,rfl,rfl,rfl,rfl⟩ rfl rfl rfl rfl rfl (by kernel_rfl) Tryz.func3 (by kernel_rfl)
  (of_decide_eq_true (by kernel_rfl)) (by unfold Func.isWrapper; first|(rw[if_pos (by decide +kernel)]; kernel_rfl)|(rw[if_neg (by decide +kernel)]; exact⟨rfl,rfl⟩))
  (λos started H enc _=>refinementBounds_lifted os started H enc)
theorem refinementBounds_card:Rows.RefinementBoundsCardSaid :=
 Claim7.holds_tied_plain_at .later [] [.data,.data,.data,.sentinel,.sentinel] true (true,"33e047b0af78c8fb7bfd7db96a16d110cf00f1f826dbc35bc3c5963cbd2d27d7") true
  refinementBounds_holds (λ_ h=>by cases h) (by kernel_rfl) (λ_ h=>by cases h) refinementBounds_row_tie rfl ⟨rfl,rfl⟩ (by kernel_rfl) rfl
  (λf fn hf hfn=>by
   obtain rfl:f=3:=Option.some.inj ((show Tryz.prog.funcNamed "schisma/schismalaw19.RefinementBounds"=some 3 by kernel_rfl).symm.trans hf) |>.symm;obtain rfl:fn=Tryz.f3:=(Option.some.inj (Tryz.func3.symm.trans hfn)).symm;exact⟨by kernel_rfl,λj t ht=>by
    rw[Tryz.params3]at ht;have hm:t∈[26,24]:=by simpa using Array.mem_of_getElem? ht
    have hall:([26,24].all λu=>!Tryz.prog.wantsStandIn u)=true:=by kernel_rfl
    exact(show Tryz.prog.wantsStandIn t=false by simpa using List.all_eq_true.1 hall t hm)⟩)
  (by kernel_rfl)
end Go.Proofs.YtmghkhgpkefgeaaGreatDoor
