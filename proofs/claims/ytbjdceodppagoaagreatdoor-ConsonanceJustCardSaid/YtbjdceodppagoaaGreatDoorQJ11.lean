/- ConsonanceJust: P40.6: for any plan of a temperament (18), any at most 5 small intervals over its primes, and any small notes (by which combinations of the intervals a tempered chord is made), Just returns the first list of just notes, if there are any. -/
import Derived.Test.YtbjdceodppagoaaGreatDoorTie
import Derived.Test.YtbjdceodppagoaaGreatDoorCards
import Derived.SevenTiedAt
import Derived.Test.YtbjdceodppagoaaGreatDoorQJ10
set_option linter.unusedSimpArgs false
set_option linter.unusedVariables false
namespace Go.Proofs.YtbjdceodppagoaaGreatDoor
open Go Go.ChangeShapes Go.WideShapes Go.ChangeAt Go.RowKit Go.Joins Go.PM
set_option maxRecDepth 100000 in
theorem consonanceJust_lifted(os:Os) (started:os.Started) (H:Type) (enc:TypeId×Value->H) :
  ReturnsInHanded {} Tryz.checked os 4 .any (λw args=>(Rows.consonanceJustSpec.pre enc Tryz.prog Tryz.f4 [] false w args/\laidMetH Tryz.prog aX9 w)/\sizedMet enc Tryz.prog Tryz.f4 (OpenSpec.ofChange Rows.consonanceJustSpec) false w args) (Rows.consonanceJustSpec.post enc Tryz.prog Tryz.f4 false true false false):=by
 refine returnsInHanded_of_change_and (C:=Tryz.checked) (X:=λw _=>laidMetH Tryz.prog aX9 w) (λ_ _ _ hh h=>h.of_heap hh) Tryz.own started (by kernel_rfl) Tryz.func4
  (ChangeSpec.witness_shaped (enc:=enc) (C:=Tryz.checked) (os:=os) (X:=λw _=>laidMetH Tryz.prog aX9 w) false (World.doorLaid Tryz.prog 4000 os) #[.agg #[.int .u8 0,.slice none 0 0,.bool false],.slice none 0 0,.agg #[.int .u8 0,.int .u8 0]] 8 rfl (World.shaped_of_RefB (by kernel_rfl) (by kernel_rfl)) (by kernel_rfl) (by kernel_rfl) (by kernel_rfl) (a9R os _)) ?_
 intro W base args ds gs before hval0 hW _ _ hL _;have hval:∀ (j:Nat) t v,Tryz.f4.params[j]?=some t->args[j]?=some v->Value.okWide Tryz.prog W .any base t v:=hval0;have hW':=hW;obtain⟨p,q,hA0,hV,rfl,hfz,hnd⟩:=hW;have hA:DataW.TrodAll enc Tryz.prog W 0 (λ_=>true) true Tryz.f4.params.toList args.toList ds p:=hA0;rw[Tryz.params4]at hA hval;obtain⟨v0,v1,v2,d0,d1,d2,p0,p1,p2,rfl,rfl,rfl,h0,h1,h2⟩:=trodAll_three hA
 obtain⟨rfl,rfl⟩:=trodVars_none hV;obtain⟨x0,y0,w0⟩:=a0M Tryz.underlying24 (aYK Tryz.underlying24 (T:=(.prod (.int .u8) (.prod (.list (.prod (.int .i8) (.prod (.int .i8) (.prod (.int .i8) (.int .i8))))) .bool))) (by kernel_rfl) ⟨rfl,(aMC Tryz.underlying5 (by kernel_rfl)),rfl,(aQP Tryz.underlying22 (by kernel_rfl) (aIG (n:=3) Tryz.underlying48 (by kernel_rfl) (aMC Tryz.underlying47 (by kernel_rfl)))),rfl,(a6Z Tryz.underlying4 (by kernel_rfl))⟩) (hval 0 24 v0 rfl rfl) h0
 obtain⟨x1,y1,w1⟩:=a6D Tryz.underlying22 (by kernel_rfl) (aIG (n:=3) Tryz.underlying48 (by kernel_rfl) (aMC Tryz.underlying47 (by kernel_rfl))) (hval 1 22 v1 rfl rfl) h1;obtain⟨x2,y2,w2⟩:=a2S Tryz.underlying45 (aIG (n:=1) Tryz.underlying45 (by kernel_rfl) (aMC Tryz.underlying5 (by kernel_rfl))) (hval 2 45 v2 rfl rfl) h2;refine(a89 OM (x:=(x0,x1,x2,())) (a3A x0 ⟨wf_u8 w0.1,λt ht=>bGA (w0.2.1.2 t ht)⟩ x1 (λt ht=>bGA (w1.2 t ht)) x2 ⟨wf_u8 w2.1,wf_u8 w2.2⟩) (bAY hL) (vs:=#[v0,v1,v2]) (aNI y0 (aNI y1 (aNI y2 (bBL))))).mono λe W' ⟨he,hb⟩=>?_
 subst he;exact aZH (tb:=4) Tryz.laidOut (λt ht=>by rw[Tryz.params4]at ht; exact aVO (by kernel_rfl) t ht) rfl Tryz.underlying4 rfl rfl rfl rfl hW' hb
theorem consonanceJust_in:(Rows.consonanceJustRow.inPlace==Tryz.prog.inPlace 4)=true:=by kernel_rfl
theorem consonanceJust_un:(Rows.consonanceJustRow.unfollowed==Tryz.prog.unfollowed 4)=true:=by kernel_rfl
theorem consonanceJust_re:(Rows.consonanceJustRow.recurses==Tryz.prog.recurses 4)=true:=by kernel_rfl
theorem consonanceJust_na:(Rows.consonanceJustRow.named==Tryz.prog.varsNamed 4)=true:=by kernel_rfl
theorem consonanceJust_closed:joinedFacts Tryz.prog 4 Tryz.f4 Rows.consonanceJustSpec Rows.consonanceJustRow=true:=by
 unfold joinedFacts;simp only[Bool.and_eq_true]
 repeat' apply And.intro
 all_goals first|with_reducible exact consonanceJust_in|with_reducible exact consonanceJust_un|with_reducible exact consonanceJust_re|with_reducible exact consonanceJust_na|kernel_rfl
theorem consonanceJust_holds:Rows.ConsonanceJustSaid :=
 OpenClaim.holds_of_wide 4 Tryz.f4 rfl rfl rfl rfl rfl rfl rfl ⟨rfl,rfl,rfl,rfl,rfl⟩ rfl rfl rfl rfl rfl (by kernel_rfl) Tryz.func4 consonanceJust_closed
  (of_decide_eq_true (by kernel_rfl)) (by unfold Func.isWrapper; first|(rw[if_pos (by decide +kernel)]; kernel_rfl)|(rw[if_neg (by decide +kernel)]; exact⟨rfl,rfl⟩))
  (λos started H enc _=>consonanceJust_lifted os started H enc)
theorem consonanceJust_wf:Rows.consonanceJustRow.wfByText (OpenSpec.ofChange Rows.consonanceJustSpec)=true:=by kernel_rfl
theorem consonanceJust_goes:false=Rows.consonanceJustRow.goesBy Tryz.prog:=by kernel_rfl
theorem consonanceJust_card:Rows.ConsonanceJustCardSaid :=
 Claim7.holds_tied_plain_at .later [] [.data,.data,.data,.sentinel,.sentinel] true (true,"4737ab51d747d2c0b085b5e968aa05c3c5b4528a24f532e7a84ab250f862f1d6") true
  consonanceJust_holds (λ_ h=>by cases h) consonanceJust_wf (λ_ h=>by cases h) consonanceJust_row_tie rfl ⟨rfl,rfl⟩ a3D rfl
  (λf fn hf hfn=>by
   obtain rfl:f=4:=Option.some.inj ((show Tryz.prog.funcNamed "schisma/schismalaw40.ConsonanceJust"=some 4 by kernel_rfl).symm.trans hf) |>.symm;obtain rfl:fn=Tryz.f4:=(Option.some.inj (Tryz.func4.symm.trans hfn)).symm;exact⟨aYZ,λj t ht=>by
    rw[Tryz.params4]at ht;have hm:t∈[24,22,45]:=by simpa using Array.mem_of_getElem? ht
    have hall:([24,22,45].all λu=>!Tryz.prog.wantsStandIn u)=true:=by kernel_rfl
    exact(show Tryz.prog.wantsStandIn t=false by simpa using List.all_eq_true.1 hall t hm)⟩)
  consonanceJust_goes
end Go.Proofs.YtbjdceodppagoaaGreatDoor
