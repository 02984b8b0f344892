/- TopLayoutsAreAll returns true for any draft of a layout and any bound, and its arguments read behind the call as they read before. -/
import Derived.Test.YtfjcjchcmdhmnaaGreatDoorTie
import Derived.Test.YtfjcjchcmdhmnaaGreatDoorCards
import Derived.SevenTiedAt
import Derived.Test.YtfjcjchcmdhmnaaGreatDoorTP9
set_option linter.unusedSimpArgs false
set_option linter.unusedVariables false
namespace Go.Proofs.YtfjcjchcmdhmnaaGreatDoor
open Go Go.ChangeShapes Go.WideShapes Go.ChangeAt Go.RowKit Go.Joins Go.PM
set_option maxRecDepth 100000 in
theorem topLayoutsAreAll_lifted(os:Os) (started:os.Started) (H:Type) (enc:TypeId×Value->H) :
  ReturnsInHanded {} Tryz.checked os 3 .any (λw args=>(Rows.topLayoutsAreAllSpec.pre enc Tryz.prog Tryz.f3 [] false w args/\laidMetH Tryz.prog aEK w)/\sizedMet enc Tryz.prog Tryz.f3 (OpenSpec.ofChange Rows.topLayoutsAreAllSpec) false w args) (Rows.topLayoutsAreAllSpec.post enc Tryz.prog Tryz.f3 false true false false):=by
 refine returnsInHanded_of_change_and (C:=Tryz.checked) (X:=λw _=>laidMetH Tryz.prog aEK w) (λ_ _ _ hh h=>h.of_heap hh) Tryz.own started (by kernel_rfl) Tryz.func3
  (ChangeSpec.witness_shaped (enc:=enc) (C:=Tryz.checked) (os:=os) (X:=λw _=>laidMetH Tryz.prog aEK w) false (World.doorLaid Tryz.prog 4000 os) #[.agg #[.bool false,.int .u8 0,.int .i8 0,.int .i8 0,.int .i8 0,.int .i8 0,.int .i8 0,.int .i8 0,.int .i8 0,.int .i8 0,.int .i8 0],.int .u8 0] 8 rfl (World.shaped_of_RefB (by kernel_rfl) (by kernel_rfl)) (by kernel_rfl) (by kernel_rfl) (by kernel_rfl) (aO5 os _)) ?_
 intro W base args ds gs before hval0 hW _ _ hL _;have hval:∀ (j:Nat) t v,Tryz.f3.params[j]?=some t->args[j]?=some v->Value.okWide Tryz.prog W .any base t v:=hval0;have hW':=hW;obtain⟨p,q,hA0,hV,rfl,hfz,hnd⟩:=hW;have hA:DataW.TrodAll enc Tryz.prog W 0 (λ_=>true) true Tryz.f3.params.toList args.toList ds p:=hA0;rw[Tryz.params3]at hA hval;obtain⟨v0,v1,d0,d1,p0,p1,rfl,rfl,rfl,h0,h1⟩:=trodAll_two hA;obtain⟨rfl,rfl⟩:=trodVars_none hV
 obtain⟨x0,y0,w0⟩:=aGZ Tryz.underlying26 (aEW Tryz.underlying26 (T:=(.prod .bool (.prod (.int .u8) (.prod (.prod (.int .i8) (.prod (.int .i8) (.int .i8))) (.prod (.prod (.int .i8) (.prod (.int .i8) (.int .i8))) (.prod (.int .i8) (.prod (.int .i8) (.int .i8)))))))) (by kernel_rfl) ⟨rfl,(aMY Tryz.underlying4 (by kernel_rfl)),rfl,(aIN Tryz.underlying5 (by kernel_rfl)),rfl,(W4 (n:=2) Tryz.underlying24 (by kernel_rfl) (W4 (n:=2) Tryz.underlying23 (by kernel_rfl) (aIN Tryz.underlying22 (by kernel_rfl))))⟩) (hval 0 26 v0 rfl rfl) h0
 obtain⟨x1,y1,w1⟩:=aQR Tryz.underlying5 (hval 1 5 v1 rfl rfl) h1;refine(aOL aWG (x:=(x0,x1,())) (aMP x0 (bounds_u8 w0.2.1) (bounds_u8 w1)) (aQC hL) (vs:=#[v0,v1]) (aCM y0 (aCM y1 (aQS)))).mono λe W' ⟨he,hb⟩=>?_
 subst he;exact aFU (tb:=4) Tryz.laidOut (λt ht=>by rw[Tryz.params3]at ht; exact aB4 (by kernel_rfl) t ht) rfl Tryz.underlying4 rfl rfl rfl rfl hW' hb
theorem topLayoutsAreAll_in:(Rows.topLayoutsAreAllRow.inPlace==Tryz.prog.inPlace 3)=true:=by kernel_rfl
theorem topLayoutsAreAll_un:(Rows.topLayoutsAreAllRow.unfollowed==Tryz.prog.unfollowed 3)=true:=by kernel_rfl
theorem topLayoutsAreAll_re:(Rows.topLayoutsAreAllRow.recurses==Tryz.prog.recurses 3)=true:=by kernel_rfl
theorem topLayoutsAreAll_na:(Rows.topLayoutsAreAllRow.named==Tryz.prog.varsNamed 3)=true:=by kernel_rfl
theorem topLayoutsAreAll_closed:joinedFacts Tryz.prog 3 Tryz.f3 Rows.topLayoutsAreAllSpec Rows.topLayoutsAreAllRow=true:=by
 unfold joinedFacts;simp only[Bool.and_eq_true]
 repeat' apply And.intro
 all_goals first|with_reducible exact topLayoutsAreAll_in|with_reducible exact topLayoutsAreAll_un|with_reducible exact topLayoutsAreAll_re|with_reducible exact topLayoutsAreAll_na|kernel_rfl
theorem topLayoutsAreAll_wf:Rows.topLayoutsAreAllRow.wfByText (OpenSpec.ofChange Rows.topLayoutsAreAllSpec)=true:=by kernel_rfl
theorem topLayoutsAreAll_goes:false=Rows.topLayoutsAreAllRow.goesBy Tryz.prog:=by kernel_rfl
theorem topLayoutsAreAll_holds:Rows.TopLayoutsAreAllSaid :=
 OpenClaim.holds_of_wide 3 Tryz.f3 rfl rfl rfl rfl rfl rfl rfl ⟨rfl,rfl,rfl,rfl,rfl⟩ rfl rfl rfl rfl rfl (by kernel_rfl) Tryz.func3 topLayoutsAreAll_closed
  (of_decide_eq_true (by kernel_rfl)) (by unfold Func.isWrapper; first|(rw[if_pos (by decide +kernel)]; kernel_rfl)|(rw[if_neg (by decide +kernel)]; exact⟨rfl,rfl⟩))
  (λos started H enc _=>topLayoutsAreAll_lifted os started H enc)
theorem topLayoutsAreAll_card:Rows.TopLayoutsAreAllCardSaid :=
 Claim7.holds_tied_plain_at .later [] [.data,.data,.data,.sentinel,.sentinel] true (true,"5b5e80e198b452f07a9611a821c9687cd5e949663898e0a183c2160b4f1581ec") true
  topLayoutsAreAll_holds (λ_ h=>by cases h) topLayoutsAreAll_wf (λ_ h=>by cases h) topLayoutsAreAll_row_tie rfl ⟨rfl,rfl⟩ (by kernel_rfl) rfl
  (λf fn hf hfn=>by
   obtain rfl:f=3:=Option.some.inj ((show Tryz.prog.funcNamed "schisma/schismatop.TopLayoutsAreAll"=some 3 by kernel_rfl).symm.trans hf) |>.symm;obtain rfl:fn=Tryz.f3:=(Option.some.inj (Tryz.func3.symm.trans hfn)).symm;exact⟨by kernel_rfl,λj t ht=>by
    rw[Tryz.params3]at ht;have hm:t∈[26,5]:=by simpa using Array.mem_of_getElem? ht
    have hall:([26,5].all λu=>!Tryz.prog.wantsStandIn u)=true:=by kernel_rfl
    exact(show Tryz.prog.wantsStandIn t=false by simpa using List.all_eq_true.1 hall t hm)⟩)
  topLayoutsAreAll_goes
end Go.Proofs.YtfjcjchcmdhmnaaGreatDoor
