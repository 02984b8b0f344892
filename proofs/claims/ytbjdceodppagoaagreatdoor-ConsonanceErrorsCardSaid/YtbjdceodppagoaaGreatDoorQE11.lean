/- ConsonanceErrors: P40.4 to P40.6: for any number of columns, any list of at most 40 rows of at most 14 elements, and any plan of a temperament (18), List, Maximal, Extend and Just return the first error of the rows; Just that of the chord. -/
import Derived.Test.YtbjdceodppagoaaGreatDoorTie
import Derived.Test.YtbjdceodppagoaaGreatDoorCards
import Derived.SevenTiedAt
import Derived.Test.YtbjdceodppagoaaGreatDoorQE10
set_option linter.unusedSimpArgs false
set_option linter.unusedVariables false
namespace Go.Proofs.YtbjdceodppagoaaGreatDoor
open Go Go.ChangeShapes Go.WideShapes Go.ChangeAt Go.RowKit Go.Joins Go.PM
set_option maxRecDepth 100000 in
theorem consonanceErrors_lifted(os:Os) (started:os.Started) (H:Type) (enc:TypeId×Value->H) :
  ReturnsInHanded {} Tryz.checked os 5 .any (λw args=>(Rows.consonanceErrorsSpec.pre enc Tryz.prog Tryz.f5 [] false w args/\laidMetH Tryz.prog aVU w)/\sizedMet enc Tryz.prog Tryz.f5 (OpenSpec.ofChange Rows.consonanceErrorsSpec) false w args) (Rows.consonanceErrorsSpec.post enc Tryz.prog Tryz.f5 false true false false):=by
 refine returnsInHanded_of_change_and (C:=Tryz.checked) (X:=λw _=>laidMetH Tryz.prog aVU w) (λ_ _ _ hh h=>h.of_heap hh) Tryz.own started (by kernel_rfl) Tryz.func5
  (ChangeSpec.witness_shaped (enc:=enc) (C:=Tryz.checked) (os:=os) (X:=λw _=>laidMetH Tryz.prog aVU w) false (World.doorLaid Tryz.prog 4000 os) #[.agg #[.int .u8 0,.slice none 0 0,.bool false],.slice none 0 0,.slice none 0 0] 8 rfl (World.shaped_of_RefB (by kernel_rfl) (by kernel_rfl)) (by kernel_rfl) (by kernel_rfl) (by kernel_rfl) (a6H os _)) ?_
 intro W base args ds gs before hval0 hW _ _ hL _;have hval:∀ (j:Nat) t v,Tryz.f5.params[j]?=some t->args[j]?=some v->Value.okWide Tryz.prog W .any base t v:=hval0;have hW':=hW;obtain⟨p,q,hA0,hV,rfl,hfz,hnd⟩:=hW;have hA:DataW.TrodAll enc Tryz.prog W 0 (λ_=>true) true Tryz.f5.params.toList args.toList ds p:=hA0;rw[Tryz.params5]at hA hval;obtain⟨v0,v1,v2,d0,d1,d2,p0,p1,p2,rfl,rfl,rfl,h0,h1,h2⟩:=trodAll_three hA
 obtain⟨rfl,rfl⟩:=trodVars_none hV;obtain⟨x0,y0,w0⟩:=aX7 Tryz.underlying24 (aV6 Tryz.underlying24 (T:=(.prod (.int .u8) (.prod (.list (.prod (.int .i8) (.prod (.int .i8) (.prod (.int .i8) (.int .i8))))) .bool))) (by kernel_rfl) ⟨rfl,(aKC Tryz.underlying5 (by kernel_rfl)),rfl,(aAQ Tryz.underlying22 (by kernel_rfl) (a0A (n:=3) Tryz.underlying48 (by kernel_rfl) (aKC Tryz.underlying47 (by kernel_rfl)))),rfl,(a3P Tryz.underlying4 (by kernel_rfl))⟩) (hval 0 24 v0 rfl rfl) h0
 obtain⟨x1,y1,w1⟩:=aTA Tryz.underlying25 (by kernel_rfl) (aAQ Tryz.underlying39 (by kernel_rfl) (aKC Tryz.underlying3 (by kernel_rfl))) (hval 1 25 v1 rfl rfl) h1;obtain⟨x2,y2,w2⟩:=aTA Tryz.underlying50 (by kernel_rfl) (aAQ Tryz.underlying39 (by kernel_rfl) (aKC Tryz.underlying3 (by kernel_rfl))) (hval 2 50 v2 rfl rfl) h2;refine(a5T JJ (x:=(x0,x1,x2,())) (aVX x0 ⟨wf_u8 w0.1,λt ht=>bDW (w0.2.1.2 t ht)⟩ x1 x2 w1.1 w2.1) (a7N hL) (vs:=#[v0,v1,v2]) (aLF y0 (aLF y1 (aLF y2 (a8D))))).mono λe W' ⟨he,hb⟩=>?_
 subst he;exact aW5 (tb:=4) Tryz.laidOut (λt ht=>by rw[Tryz.params5]at ht; exact aS8 (by kernel_rfl) t ht) rfl Tryz.underlying4 rfl rfl rfl rfl hW' hb
theorem consonanceErrors_in:(Rows.consonanceErrorsRow.inPlace==Tryz.prog.inPlace 5)=true:=by kernel_rfl
theorem consonanceErrors_un:(Rows.consonanceErrorsRow.unfollowed==Tryz.prog.unfollowed 5)=true:=by kernel_rfl
theorem consonanceErrors_re:(Rows.consonanceErrorsRow.recurses==Tryz.prog.recurses 5)=true:=by kernel_rfl
theorem consonanceErrors_na:(Rows.consonanceErrorsRow.named==Tryz.prog.varsNamed 5)=true:=by kernel_rfl
theorem consonanceErrors_closed:joinedFacts Tryz.prog 5 Tryz.f5 Rows.consonanceErrorsSpec Rows.consonanceErrorsRow=true:=by
 unfold joinedFacts;simp only[Bool.and_eq_true]
 repeat' apply And.intro
 all_goals first|with_reducible exact consonanceErrors_in|with_reducible exact consonanceErrors_un|with_reducible exact consonanceErrors_re|with_reducible exact consonanceErrors_na|kernel_rfl
theorem consonanceErrors_holds:Rows.ConsonanceErrorsSaid :=
 OpenClaim.holds_of_wide 5 Tryz.f5 rfl rfl rfl rfl rfl rfl rfl ⟨rfl,rfl,rfl,rfl,rfl⟩ rfl rfl rfl rfl rfl (by kernel_rfl) Tryz.func5 consonanceErrors_closed
  (of_decide_eq_true (by kernel_rfl)) (by unfold Func.isWrapper; first|(rw[if_pos (by decide +kernel)]; kernel_rfl)|(rw[if_neg (by decide +kernel)]; exact⟨rfl,rfl⟩))
  (λos started H enc _=>consonanceErrors_lifted os started H enc)
theorem consonanceErrors_wf:Rows.consonanceErrorsRow.wfByText (OpenSpec.ofChange Rows.consonanceErrorsSpec)=true:=by kernel_rfl
theorem consonanceErrors_goes:false=Rows.consonanceErrorsRow.goesBy Tryz.prog:=by kernel_rfl
theorem consonanceErrors_card:Rows.ConsonanceErrorsCardSaid :=
 Claim7.holds_tied_plain_at .later [] [.data,.data,.data,.sentinel,.sentinel] true (true,"4737ab51d747d2c0b085b5e968aa05c3c5b4528a24f532e7a84ab250f862f1d6") true
  consonanceErrors_holds (λ_ h=>by cases h) consonanceErrors_wf (λ_ h=>by cases h) consonanceErrors_row_tie rfl ⟨rfl,rfl⟩ a0F rfl
  (λf fn hf hfn=>by
   obtain rfl:f=5:=Option.some.inj ((show Tryz.prog.funcNamed "schisma/schismalaw40.ConsonanceErrors"=some 5 by kernel_rfl).symm.trans hf) |>.symm;obtain rfl:fn=Tryz.f5:=(Option.some.inj (Tryz.func5.symm.trans hfn)).symm;exact⟨aWL,λj t ht=>by
    rw[Tryz.params5]at ht;have hm:t∈[24,25,50]:=by simpa using Array.mem_of_getElem? ht
    have hall:([24,25,50].all λu=>!Tryz.prog.wantsStandIn u)=true:=by kernel_rfl
    exact(show Tryz.prog.wantsStandIn t=false by simpa using List.all_eq_true.1 hall t hm)⟩)
  consonanceErrors_goes
end Go.Proofs.YtbjdceodppagoaaGreatDoor
