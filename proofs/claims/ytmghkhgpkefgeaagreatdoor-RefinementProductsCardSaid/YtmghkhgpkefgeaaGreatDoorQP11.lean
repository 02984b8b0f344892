/- RefinementProducts: P19.3: for any two described temperaments, Product returns the temperament of the commas of both over all primes, or the first error. -/
import Derived.Test.YtmghkhgpkefgeaaGreatDoorTie
import Derived.Test.YtmghkhgpkefgeaaGreatDoorCards
import Derived.SevenTiedAt
import Derived.Test.YtmghkhgpkefgeaaGreatDoorQP10
set_option linter.unusedSimpArgs false
set_option linter.unusedVariables false
namespace Go.Proofs.YtmghkhgpkefgeaaGreatDoor
open Go Go.ChangeShapes Go.WideShapes Go.ChangeAt Go.RowKit Go.Joins Go.PM
set_option maxRecDepth 100000 in
theorem refinementProducts_lifted(os:Os) (started:os.Started) (H:Type) (enc:TypeId×Value->H) :
  ReturnsInHanded {} Tryz.checked os 8 .any (λw args=>(Rows.refinementProductsSpec.pre enc Tryz.prog Tryz.f8 [] false w args/\laidMetH Tryz.prog a0W w)/\sizedMet enc Tryz.prog Tryz.f8 (OpenSpec.ofChange Rows.refinementProductsSpec) false w args) (Rows.refinementProductsSpec.post enc Tryz.prog Tryz.f8 false true false false):=by
 refine returnsInHanded_of_change_and (C:=Tryz.checked) (X:=λw _=>laidMetH Tryz.prog a0W w) (λ_ _ _ hh h=>h.of_heap hh) Tryz.own started (by kernel_rfl) Tryz.func8
  (ChangeSpec.witness_shaped (enc:=enc) (C:=Tryz.checked) (os:=os) (X:=λw _=>laidMetH Tryz.prog a0W w) false (World.doorLaid Tryz.prog 4000 os) #[.agg #[.int .u8 0,.slice none 0 0,.bool false,.int .u8 0,.slice none 0 0,.bool false,.bool false]] 8 rfl (World.shaped_of_RefB (by kernel_rfl) (by kernel_rfl)) (by kernel_rfl) (by kernel_rfl) (by kernel_rfl) (bBA os _)) ?_
 intro W base args ds gs before hval0 hW _ _ hL _;have hval:∀ (j:Nat) t v,Tryz.f8.params[j]?=some t->args[j]?=some v->Value.okWide Tryz.prog W .any base t v:=hval0;have hW':=hW;obtain⟨p,q,hA0,hV,rfl,hfz,hnd⟩:=hW;have hA:DataW.TrodAll enc Tryz.prog W 0 (λ_=>true) true Tryz.f8.params.toList args.toList ds p:=hA0;rw[Tryz.params8]at hA hval;obtain⟨v0,d0,rfl,rfl,h0⟩:=trodAll_one hA;obtain⟨rfl,rfl⟩:=trodVars_none hV
 obtain⟨x0,y0,w0⟩:=a3L Tryz.underlying26 (aG1 Tryz.underlying26 (T:=(.prod (.prod (.int .u8) (.prod (.list (.prod (.int .i8) (.prod (.int .i8) (.prod (.int .i8) (.int .i8))))) .bool)) (.prod (.prod (.int .u8) (.prod (.list (.prod (.int .i8) (.prod (.int .i8) (.prod (.int .i8) (.int .i8))))) .bool)) .bool))) (by kernel_rfl) ⟨rfl,(aG1 Tryz.underlying24 (T:=(.prod (.int .u8) (.prod (.list (.prod (.int .i8) (.prod (.int .i8) (.prod (.int .i8) (.int .i8))))) .bool))) (by kernel_rfl) ⟨rfl,(aOY Tryz.underlying5 (by kernel_rfl)),rfl,(aTA Tryz.underlying22 (by kernel_rfl) (aTG (n:=3) Tryz.underlying52 (by kernel_rfl) (aOY Tryz.underlying51 (by kernel_rfl)))),rfl,(aPO Tryz.underlying4 (by kernel_rfl))⟩),rfl,(aG1 Tryz.underlying24 (T:=(.prod (.int .u8) (.prod (.list (.prod (.int .i8) (.prod (.int .i8) (.prod (.int .i8) (.int .i8))))) .bool))) (by kernel_rfl) ⟨rfl,(aOY Tryz.underlying5 (by kernel_rfl)),rfl,(aTA Tryz.underlying22 (by kernel_rfl) (aTG (n:=3) Tryz.underlying52 (by kernel_rfl) (aOY Tryz.underlying51 (by kernel_rfl)))),rfl,(aPO Tryz.underlying4 (by kernel_rfl))⟩),rfl,(aPO Tryz.underlying4 (by kernel_rfl))⟩) (hval 0 26 v0 rfl rfl) h0
 refine(bAN MS (x:=(x0,())) (aSV x0 (bA3 w0.1) (bA3 w0.2.1)) (bB7 hL) (vs:=#[v0]) (a9H y0 (bCJ))).mono λe W' ⟨he,hb⟩=>?_
 subst he;exact a19 (tb:=4) Tryz.laidOut (λt ht=>by rw[Tryz.params8]at ht; exact aYA (by kernel_rfl) t ht) rfl Tryz.underlying4 rfl rfl rfl rfl hW' hb
theorem refinementProducts_holds:Rows.RefinementProductsSaid :=
 OpenClaim.holds_of_wide 8 Tryz.f8 rfl rfl rfl rfl rfl rfl rfl ⟨rfl,rfl,rfl,rfl,rfl⟩ rfl rfl rfl rfl rfl (by kernel_rfl) Tryz.func8 (by kernel_rfl)
  (of_decide_eq_true (by kernel_rfl)) (by unfold Func.isWrapper; first|(rw[if_pos (by decide +kernel)]; kernel_rfl)|(rw[if_neg (by decide +kernel)]; exact⟨rfl,rfl⟩))
  (λos started H enc _=>refinementProducts_lifted os started H enc)
theorem refinementProducts_card:Rows.RefinementProductsCardSaid :=
 Claim7.holds_tied_plain_at .later [] [.data,.data,.data,.sentinel,.sentinel] true (true,"33e047b0af78c8fb7bfd7db96a16d110cf00f1f826dbc35bc3c5963cbd2d27d7") true
  refinementProducts_holds (λ_ h=>by cases h) (by kernel_rfl) (λ_ h=>by cases h) refinementProducts_row_tie rfl ⟨rfl,rfl⟩ (by kernel_rfl) rfl
  (λf fn hf hfn=>by
   obtain rfl:f=8:=Option.some.inj ((show Tryz.prog.funcNamed "schisma/schismalaw19.RefinementProducts"=some 8 by kernel_rfl).symm.trans hf) |>.symm;obtain rfl:fn=Tryz.f8:=(Option.some.inj (Tryz.func8.symm.trans hfn)).symm;exact⟨by kernel_rfl,λj t ht=>by
    rw[Tryz.params8]at ht;have hm:t∈[26]:=by simpa using Array.mem_of_getElem? ht
    have hall:([26].all λu=>!Tryz.prog.wantsStandIn u)=true:=by kernel_rfl
    exact(show Tryz.prog.wantsStandIn t=false by simpa using List.all_eq_true.1 hall t hm)⟩)
  (by kernel_rfl)
end Go.Proofs.YtmghkhgpkefgeaaGreatDoor
