/- RefinementMeets: P19.2, P19.5: for any two described temperaments over the same primes and any row of small exponents, it is tempered out by the meet exactly if both temper it out; if any of them does, the join does (without the model). -/
import Derived.Test.YtmghkhgpkefgeaaGreatDoorTie
import Derived.Test.YtmghkhgpkefgeaaGreatDoorCards
import Derived.SevenTiedAt
import Derived.Test.YtmghkhgpkefgeaaGreatDoorQM8
set_option linter.unusedSimpArgs false
set_option linter.unusedVariables false
namespace Go.Proofs.YtmghkhgpkefgeaaGreatDoor
open Go Go.ChangeShapes Go.WideShapes Go.ChangeAt Go.RowKit Go.Joins Go.PM
set_option maxRecDepth 100000 in
theorem refinementMeets_lifted(os:Os) (started:os.Started) (H:Type) (enc:TypeId×Value->H) :
  ReturnsInHanded {} Tryz.checked os 5 .any (λw args=>(Rows.refinementMeetsSpec.pre enc Tryz.prog Tryz.f5 [] false w args/\laidMetH Tryz.prog aT6 w)/\sizedMet enc Tryz.prog Tryz.f5 (OpenSpec.ofChange Rows.refinementMeetsSpec) false w args) (Rows.refinementMeetsSpec.post enc Tryz.prog Tryz.f5 false true false false):=by
 refine returnsInHanded_of_change_and (C:=Tryz.checked) (X:=λw _=>laidMetH Tryz.prog aT6 w) (λ_ _ _ hh h=>h.of_heap hh) Tryz.own started (by kernel_rfl) Tryz.func5
  (ChangeSpec.witness_shaped (enc:=enc) (C:=Tryz.checked) (os:=os) (X:=λw _=>laidMetH Tryz.prog aT6 w) false (World.doorLaid Tryz.prog 4000 os) #[.agg #[.int .u8 0,.slice none 0 0,.bool false,.int .u8 0,.slice none 0 0,.bool false,.bool false],.agg #[.int .i8 0,.int .i8 0,.int .i8 0,.int .i8 0]] 8 rfl (World.shaped_of_RefB (by kernel_rfl) (by kernel_rfl)) (by kernel_rfl) (by kernel_rfl) (by kernel_rfl) (a27 os _)) ?_
 intro W base args ds gs before hval0 hW _ _ hL _;have hval:∀ (j:Nat) t v,Tryz.f5.params[j]?=some t->args[j]?=some v->Value.okWide Tryz.prog W .any base t v:=hval0;have hW':=hW;obtain⟨p,q,hA0,hV,rfl,hfz,hnd⟩:=hW;have hA:DataW.TrodAll enc Tryz.prog W 0 (λ_=>true) true Tryz.f5.params.toList args.toList ds p:=hA0;rw[Tryz.params5]at hA hval;obtain⟨v0,v1,d0,d1,p0,p1,rfl,rfl,rfl,h0,h1⟩:=trodAll_two hA;obtain⟨rfl,rfl⟩:=trodVars_none hV
 obtain⟨x0,y0,w0⟩:=aUN Tryz.underlying26 (aDK Tryz.underlying26 (T:=(.prod (.prod (.int .u8) (.prod (.list (.prod (.int .i8) (.prod (.int .i8) (.prod (.int .i8) (.int .i8))))) .bool)) (.prod (.prod (.int .u8) (.prod (.list (.prod (.int .i8) (.prod (.int .i8) (.prod (.int .i8) (.int .i8))))) .bool)) .bool))) (by kernel_rfl) ⟨rfl,(aDK Tryz.underlying24 (T:=(.prod (.int .u8) (.prod (.list (.prod (.int .i8) (.prod (.int .i8) (.prod (.int .i8) (.int .i8))))) .bool))) (by kernel_rfl) ⟨rfl,(aEE Tryz.underlying5 (by kernel_rfl)),rfl,(aOY Tryz.underlying22 (by kernel_rfl) (aF9 (n:=3) Tryz.underlying52 (by kernel_rfl) (aEE Tryz.underlying51 (by kernel_rfl)))),rfl,(aLZ Tryz.underlying4 (by kernel_rfl))⟩),rfl,(aDK Tryz.underlying24 (T:=(.prod (.int .u8) (.prod (.list (.prod (.int .i8) (.prod (.int .i8) (.prod (.int .i8) (.int .i8))))) .bool))) (by kernel_rfl) ⟨rfl,(aEE Tryz.underlying5 (by kernel_rfl)),rfl,(aOY Tryz.underlying22 (by kernel_rfl) (aF9 (n:=3) Tryz.underlying52 (by kernel_rfl) (aEE Tryz.underlying51 (by kernel_rfl)))),rfl,(aLZ Tryz.underlying4 (by kernel_rfl))⟩),rfl,(aLZ Tryz.underlying4 (by kernel_rfl))⟩) (hval 0 26 v0 rfl rfl) h0
 obtain⟨x1,y1,w1⟩:=aY0 Tryz.underlying52 (aF9 (n:=3) Tryz.underlying52 (by kernel_rfl) (aEE Tryz.underlying51 (by kernel_rfl))) (hval 1 52 v1 rfl rfl) h1;refine(a1Q KO (x:=(x0,x1,())) (aU6 x0 x1 (a1K w0.1) (a1K w0.2.1) (a8N w1)) (a3Y hL) (vs:=#[v0,v1]) (aSQ y0 (aSQ y1 (a3X)))).mono λe W' ⟨he,hb⟩=>?_
 subst he;exact aVL (tb:=4) Tryz.laidOut (λt ht=>by rw[Tryz.params5]at ht; exact aTB (by kernel_rfl) t ht) rfl Tryz.underlying4 rfl rfl rfl rfl hW' hb
theorem refinementMeets_holds:Rows.RefinementMeetsSaid :=
 OpenClaim.holds_of_wide 5 Tryz.f5 rfl rfl rfl rfl rfl rfl rfl ⟨rfl,rfl,rfl,rfl,rfl⟩ rfl rfl rfl rfl rfl (by kernel_rfl) Tryz.func5 (by kernel_rfl)
  (of_decide_eq_true (by kernel_rfl)) (by unfold Func.isWrapper; first|(rw[if_pos (by decide +kernel)]; kernel_rfl)|(rw[if_neg (by decide +kernel)]; exact⟨rfl,rfl⟩))
  (λos started H enc _=>refinementMeets_lifted os started H enc)
theorem refinementMeets_card:Rows.RefinementMeetsCardSaid :=
 Claim7.holds_tied_plain_at .later [] [.data,.data,.data,.sentinel,.sentinel] true (true,"33e047b0af78c8fb7bfd7db96a16d110cf00f1f826dbc35bc3c5963cbd2d27d7") true
  refinementMeets_holds (λ_ h=>by cases h) (by kernel_rfl) (λ_ h=>by cases h) refinementMeets_row_tie rfl ⟨rfl,rfl⟩ (by kernel_rfl) rfl
  (λf fn hf hfn=>by
   obtain rfl:f=5:=Option.some.inj ((show Tryz.prog.funcNamed "schisma/schismalaw19.RefinementMeets"=some 5 by kernel_rfl).symm.trans hf) |>.symm;obtain rfl:fn=Tryz.f5:=(Option.some.inj (Tryz.func5.symm.trans hfn)).symm;exact⟨by kernel_rfl,λj t ht=>by
    rw[Tryz.params5]at ht;have hm:t∈[26,52]:=by simpa using Array.mem_of_getElem? ht
    have hall:([26,52].all λu=>!Tryz.prog.wantsStandIn u)=true:=by kernel_rfl
    exact(show Tryz.prog.wantsStandIn t=false by simpa using List.all_eq_true.1 hall t hm)⟩)
  (by kernel_rfl)
end Go.Proofs.YtmghkhgpkefgeaaGreatDoor
