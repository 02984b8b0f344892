/- RefinementErrors: P19.1 to P19.4: for any described temperament whose commas are replaced by any at most 3 rows of at most 6 elements, so that it is not right, all functions return the error of temperament.Check. -/
import Derived.Test.YtmghkhgpkefgeaaGreatDoorTie
import Derived.Test.YtmghkhgpkefgeaaGreatDoorCards
import Derived.SevenTiedAt
import Derived.Test.YtmghkhgpkefgeaaGreatDoorQE8
set_option linter.unusedSimpArgs false
set_option linter.unusedVariables false
namespace Go.Proofs.YtmghkhgpkefgeaaGreatDoor
open Go Go.ChangeShapes Go.WideShapes Go.ChangeAt Go.RowKit Go.Joins Go.PM
set_option maxRecDepth 100000 in
theorem refinementErrors_lifted(os:Os) (started:os.Started) (H:Type) (enc:TypeId×Value->H) :
  ReturnsInHanded {} Tryz.checked os 9 .any (λw args=>(Rows.refinementErrorsSpec.pre enc Tryz.prog Tryz.f9 [] false w args/\laidMetH Tryz.prog aYQ w)/\sizedMet enc Tryz.prog Tryz.f9 (OpenSpec.ofChange Rows.refinementErrorsSpec) false w args) (Rows.refinementErrorsSpec.post enc Tryz.prog Tryz.f9 false true false false):=by
 refine returnsInHanded_of_change_and (C:=Tryz.checked) (X:=λw _=>laidMetH Tryz.prog aYQ w) (λ_ _ _ hh h=>h.of_heap hh) Tryz.own started (by kernel_rfl) Tryz.func9
  (ChangeSpec.witness_shaped (enc:=enc) (C:=Tryz.checked) (os:=os) (X:=λw _=>laidMetH Tryz.prog aYQ w) false (World.doorLaid Tryz.prog 4000 os) #[.agg #[.int .u8 0,.slice none 0 0,.bool false],.slice none 0 0] 8 rfl (World.shaped_of_RefB (by kernel_rfl) (by kernel_rfl)) (by kernel_rfl) (by kernel_rfl) (by kernel_rfl) (a62 os _)) ?_
 intro W base args ds gs before hval0 hW _ _ hL _;have hval:∀ (j:Nat) t v,Tryz.f9.params[j]?=some t->args[j]?=some v->Value.okWide Tryz.prog W .any base t v:=hval0;have hW':=hW;obtain⟨p,q,hA0,hV,rfl,hfz,hnd⟩:=hW;have hA:DataW.TrodAll enc Tryz.prog W 0 (λ_=>true) true Tryz.f9.params.toList args.toList ds p:=hA0;rw[Tryz.params9]at hA hval;obtain⟨v0,v1,d0,d1,p0,p1,rfl,rfl,rfl,h0,h1⟩:=trodAll_two hA;obtain⟨rfl,rfl⟩:=trodVars_none hV
 obtain⟨x0,y0,w0⟩:=a0V Tryz.underlying24 (a1B Tryz.underlying24 (T:=(.prod (.int .u8) (.prod (.list (.prod (.int .i8) (.prod (.int .i8) (.prod (.int .i8) (.int .i8))))) .bool))) (by kernel_rfl) ⟨rfl,(aVQ Tryz.underlying5 (by kernel_rfl)),rfl,(aLJ Tryz.underlying22 (by kernel_rfl) (a3O (n:=3) Tryz.underlying52 (by kernel_rfl) (aVQ Tryz.underlying51 (by kernel_rfl)))),rfl,(a7A Tryz.underlying4 (by kernel_rfl))⟩) (hval 0 24 v0 rfl rfl) h0
 obtain⟨x1,y1,w1⟩:=a64 Tryz.underlying33 (by kernel_rfl) (aLJ Tryz.underlying53 (by kernel_rfl) (aVQ Tryz.underlying3 (by kernel_rfl))) (hval 1 33 v1 rfl rfl) h1;refine(a5X LQ (x:=(x0,x1,())) (aYK x0 x1 (bBM w0)) (a88 hL) (vs:=#[v0,v1]) (aW9 y0 (aW9 y1 (bAI)))).mono λe W' ⟨he,hb⟩=>?_
 subst he;exact a08 (tb:=4) Tryz.laidOut (λt ht=>by rw[Tryz.params9]at ht; exact aW1 (by kernel_rfl) t ht) rfl Tryz.underlying4 rfl rfl rfl rfl hW' hb
theorem refinementErrors_holds:Rows.RefinementErrorsSaid :=
 OpenClaim.holds_of_wide 9 Tryz.f9 rfl rfl rfl rfl rfl rfl rfl ⟨rfl,rfl,rfl,rfl,rfl⟩ rfl rfl rfl rfl rfl (by kernel_rfl) Tryz.func9 (by kernel_rfl)
  (of_decide_eq_true (by kernel_rfl)) (by unfold Func.isWrapper; first|(rw[if_pos (by decide +kernel)]; kernel_rfl)|(rw[if_neg (by decide +kernel)]; exact⟨rfl,rfl⟩))
  (λos started H enc _=>refinementErrors_lifted os started H enc)
theorem refinementErrors_card:Rows.RefinementErrorsCardSaid :=
 Claim7.holds_tied_plain_at .later [] [.data,.data,.data,.sentinel,.sentinel] true (true,"33e047b0af78c8fb7bfd7db96a16d110cf00f1f826dbc35bc3c5963cbd2d27d7") true
  refinementErrors_holds (λ_ h=>by cases h) (by kernel_rfl) (λ_ h=>by cases h) refinementErrors_row_tie rfl ⟨rfl,rfl⟩ (by kernel_rfl) rfl
  (λf fn hf hfn=>by
   obtain rfl:f=9:=Option.some.inj ((show Tryz.prog.funcNamed "schisma/schismalaw19.RefinementErrors"=some 9 by kernel_rfl).symm.trans hf) |>.symm;obtain rfl:fn=Tryz.f9:=(Option.some.inj (Tryz.func9.symm.trans hfn)).symm;exact⟨by kernel_rfl,λj t ht=>by
    rw[Tryz.params9]at ht;have hm:t∈[24,33]:=by simpa using Array.mem_of_getElem? ht
    have hall:([24,33].all λu=>!Tryz.prog.wantsStandIn u)=true:=by kernel_rfl
    exact(show Tryz.prog.wantsStandIn t=false by simpa using List.all_eq_true.1 hall t hm)⟩)
  (by kernel_rfl)
end Go.Proofs.YtmghkhgpkefgeaaGreatDoor
