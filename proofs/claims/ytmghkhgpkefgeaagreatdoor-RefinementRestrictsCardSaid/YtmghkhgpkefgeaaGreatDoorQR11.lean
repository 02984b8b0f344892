/- RefinementRestricts: P19.3: for any described temperament, and any at most 8 primes, Restrict and Extend return the restriction and the extension, or the first error. -/
import Derived.Test.YtmghkhgpkefgeaaGreatDoorTie
import Derived.Test.YtmghkhgpkefgeaaGreatDoorCards
import Derived.SevenTiedAt
import Derived.Test.YtmghkhgpkefgeaaGreatDoorQR10
set_option linter.unusedSimpArgs false
set_option linter.unusedVariables false
namespace Go.Proofs.YtmghkhgpkefgeaaGreatDoor
open Go Go.ChangeShapes Go.WideShapes Go.ChangeAt Go.RowKit Go.Joins Go.PM
set_option maxRecDepth 100000 in
theorem refinementRestricts_lifted(os:Os) (started:os.Started) (H:Type) (enc:TypeId×Value->H) :
  ReturnsInHanded {} Tryz.checked os 7 .any (λw args=>(Rows.refinementRestrictsSpec.pre enc Tryz.prog Tryz.f7 [] false w args/\laidMetH Tryz.prog aW5 w)/\sizedMet enc Tryz.prog Tryz.f7 (OpenSpec.ofChange Rows.refinementRestrictsSpec) false w args) (Rows.refinementRestrictsSpec.post enc Tryz.prog Tryz.f7 false true false false):=by
 refine returnsInHanded_of_change_and (C:=Tryz.checked) (X:=λw _=>laidMetH Tryz.prog aW5 w) (λ_ _ _ hh h=>h.of_heap hh) Tryz.own started (by kernel_rfl) Tryz.func7
  (ChangeSpec.witness_shaped (enc:=enc) (C:=Tryz.checked) (os:=os) (X:=λw _=>laidMetH Tryz.prog aW5 w) false (World.doorLaid Tryz.prog 4000 os) #[.agg #[.int .u8 0,.slice none 0 0,.bool false],.slice none 0 0,.int .u8 0] 8 rfl (World.shaped_of_RefB (by kernel_rfl) (by kernel_rfl)) (by kernel_rfl) (by kernel_rfl) (by kernel_rfl) (a69 os _)) ?_
 intro W base args ds gs before hval0 hW _ _ hL _;have hval:∀ (j:Nat) t v,Tryz.f7.params[j]?=some t->args[j]?=some v->Value.okWide Tryz.prog W .any base t v:=hval0;have hW':=hW;obtain⟨p,q,hA0,hV,rfl,hfz,hnd⟩:=hW;have hA:DataW.TrodAll enc Tryz.prog W 0 (λ_=>true) true Tryz.f7.params.toList args.toList ds p:=hA0;rw[Tryz.params7]at hA hval;obtain⟨v0,v1,v2,d0,d1,d2,p0,p1,p2,rfl,rfl,rfl,h0,h1,h2⟩:=trodAll_three hA
 obtain⟨rfl,rfl⟩:=trodVars_none hV;obtain⟨x0,y0,w0⟩:=aZM Tryz.underlying24 (aXC Tryz.underlying24 (T:=(.prod (.int .u8) (.prod (.list (.prod (.int .i8) (.prod (.int .i8) (.prod (.int .i8) (.int .i8))))) .bool))) (by kernel_rfl) ⟨rfl,(aTX Tryz.underlying5 (by kernel_rfl)),rfl,(aO9 Tryz.underlying22 (by kernel_rfl) (a1K (n:=3) Tryz.underlying52 (by kernel_rfl) (aTX Tryz.underlying51 (by kernel_rfl)))),rfl,(a4T Tryz.underlying4 (by kernel_rfl))⟩) (hval 0 24 v0 rfl rfl) h0
 obtain⟨x1,y1,w1⟩:=a3Y Tryz.underlying31 (by kernel_rfl) (aTX Tryz.underlying3 (by kernel_rfl)) (hval 1 31 v1 rfl rfl) h1;obtain⟨x2,y2,w2⟩:=a8N Tryz.underlying5 (hval 2 5 v2 rfl rfl) h2;refine(a6K IZ (x:=(x0,x1,x2,())) (aL3 x0 x1 x2 (bBM w0)) (a79 hL) (vs:=#[v0,v1,v2]) (aL2 y0 (aL2 y1 (aL2 y2 (a8O))))).mono λe W' ⟨he,hb⟩=>?_
 subst he;exact aYH (tb:=4) Tryz.laidOut (λt ht=>by rw[Tryz.params7]at ht; exact aUJ (by kernel_rfl) t ht) rfl Tryz.underlying4 rfl rfl rfl rfl hW' hb
theorem refinementRestricts_holds:Rows.RefinementRestrictsSaid :=
 OpenClaim.holds_of_wide 7 Tryz.f7 rfl rfl rfl rfl rfl rfl rfl ⟨rfl,rfl,rfl,rfl,rfl⟩ rfl rfl rfl rfl rfl (by kernel_rfl) Tryz.func7 (by kernel_rfl)
  (of_decide_eq_true (by kernel_rfl)) (by unfold Func.isWrapper; first|(rw[if_pos (by decide +kernel)]; kernel_rfl)|(rw[if_neg (by decide +kernel)]; exact⟨rfl,rfl⟩))
  (λos started H enc _=>refinementRestricts_lifted os started H enc)
theorem refinementRestricts_card:Rows.RefinementRestrictsCardSaid :=
 Claim7.holds_tied_plain_at .later [] [.data,.data,.data,.sentinel,.sentinel] true (true,"33e047b0af78c8fb7bfd7db96a16d110cf00f1f826dbc35bc3c5963cbd2d27d7") true
  refinementRestricts_holds (λ_ h=>by cases h) (by kernel_rfl) (λ_ h=>by cases h) refinementRestricts_row_tie rfl ⟨rfl,rfl⟩ (by kernel_rfl) rfl
  (λf fn hf hfn=>by
   obtain rfl:f=7:=Option.some.inj ((show Tryz.prog.funcNamed "schisma/schismalaw19.RefinementRestricts"=some 7 by kernel_rfl).symm.trans hf) |>.symm;obtain rfl:fn=Tryz.f7:=(Option.some.inj (Tryz.func7.symm.trans hfn)).symm;exact⟨by kernel_rfl,λj t ht=>by
    rw[Tryz.params7]at ht;have hm:t∈[24,31,5]:=by simpa using Array.mem_of_getElem? ht
    have hall:([24,31,5].all λu=>!Tryz.prog.wantsStandIn u)=true:=by kernel_rfl
    exact(show Tryz.prog.wantsStandIn t=false by simpa using List.all_eq_true.1 hall t hm)⟩)
  (by kernel_rfl)
end Go.Proofs.YtmghkhgpkefgeaaGreatDoor
