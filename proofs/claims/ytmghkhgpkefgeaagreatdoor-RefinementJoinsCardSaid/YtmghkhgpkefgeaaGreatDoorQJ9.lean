/- RefinementJoins: P19.2, P19.5: for any two described temperaments, Join is the temperament of the commas of both, and Meet tempers out the rows that both temper out: the ranks add up, and both are refined by it; or both return ErrConflict. -/
import Derived.Test.YtmghkhgpkefgeaaGreatDoorTie
import Derived.Test.YtmghkhgpkefgeaaGreatDoorCards
import Derived.SevenTiedAt
import Derived.Test.YtmghkhgpkefgeaaGreatDoorQJ8
set_option linter.unusedSimpArgs false
set_option linter.unusedVariables false
namespace Go.Proofs.YtmghkhgpkefgeaaGreatDoor
open Go Go.ChangeShapes Go.WideShapes Go.ChangeAt Go.RowKit Go.Joins Go.PM
set_option maxRecDepth 100000 in
theorem refinementJoins_lifted(os:Os) (started:os.Started) (H:Type) (enc:TypeId×Value->H) :
  ReturnsInHanded {} Tryz.checked os 4 .any (λw args=>(Rows.refinementJoinsSpec.pre enc Tryz.prog Tryz.f4 [] false w args/\laidMetH Tryz.prog aR3 w)/\sizedMet enc Tryz.prog Tryz.f4 (OpenSpec.ofChange Rows.refinementJoinsSpec) false w args) (Rows.refinementJoinsSpec.post enc Tryz.prog Tryz.f4 false true false false):=by
 refine returnsInHanded_of_change_and (C:=Tryz.checked) (X:=λw _=>laidMetH Tryz.prog aR3 w) (λ_ _ _ hh h=>h.of_heap hh) Tryz.own started (by kernel_rfl) Tryz.func4
  (ChangeSpec.witness_shaped (enc:=enc) (C:=Tryz.checked) (os:=os) (X:=λw _=>laidMetH Tryz.prog aR3 w) false (World.doorLaid Tryz.prog 4000 os) #[.agg #[.int .u8 0,.slice none 0 0,.bool false,.int .u8 0,.slice none 0 0,.bool false,.bool false]] 8 rfl (World.shaped_of_RefB (by kernel_rfl) (by kernel_rfl)) (by kernel_rfl) (by kernel_rfl) (by kernel_rfl) (a09 os _)) ?_
 intro W base args ds gs before hval0 hW _ _ hL _;have hval:∀ (j:Nat) t v,Tryz.f4.params[j]?=some t->args[j]?=some v->Value.okWide Tryz.prog W .any base t v:=hval0;have hW':=hW;obtain⟨p,q,hA0,hV,rfl,hfz,hnd⟩:=hW;have hA:DataW.TrodAll enc Tryz.prog W 0 (λ_=>true) true Tryz.f4.params.toList args.toList ds p:=hA0;rw[Tryz.params4]at hA hval;obtain⟨v0,d0,rfl,rfl,h0⟩:=trodAll_one hA;obtain⟨rfl,rfl⟩:=trodVars_none hV
 obtain⟨x0,y0,w0⟩:=aT2 Tryz.underlying26 (aCO Tryz.underlying26 (T:=(.prod (.prod (.int .u8) (.prod (.list (.prod (.int .i8) (.prod (.int .i8) (.prod (.int .i8) (.int .i8))))) .bool)) (.prod (.prod (.int .u8) (.prod (.list (.prod (.int .i8) (.prod (.int .i8) (.prod (.int .i8) (.int .i8))))) .bool)) .bool))) (by kernel_rfl) ⟨rfl,(aCO Tryz.underlying24 (T:=(.prod (.int .u8) (.prod (.list (.prod (.int .i8) (.prod (.int .i8) (.prod (.int .i8) (.int .i8))))) .bool))) (by kernel_rfl) ⟨rfl,(aHY Tryz.underlying5 (by kernel_rfl)),rfl,(aME Tryz.underlying22 (by kernel_rfl) (aMO (n:=3) Tryz.underlying52 (by kernel_rfl) (aHY Tryz.underlying51 (by kernel_rfl)))),rfl,(aKK Tryz.underlying4 (by kernel_rfl))⟩),rfl,(aCO Tryz.underlying24 (T:=(.prod (.int .u8) (.prod (.list (.prod (.int .i8) (.prod (.int .i8) (.prod (.int .i8) (.int .i8))))) .bool))) (by kernel_rfl) ⟨rfl,(aHY Tryz.underlying5 (by kernel_rfl)),rfl,(aME Tryz.underlying22 (by kernel_rfl) (aMO (n:=3) Tryz.underlying52 (by kernel_rfl) (aHY Tryz.underlying51 (by kernel_rfl)))),rfl,(aKK Tryz.underlying4 (by kernel_rfl))⟩),rfl,(aKK Tryz.underlying4 (by kernel_rfl))⟩) (hval 0 26 v0 rfl rfl) h0
 refine(aZX KD (x:=(x0,())) (aTG x0 (a0Q w0.1) (a0Q w0.2.1)) (a2Q hL) (vs:=#[v0]) (aZW y0 (a3G))).mono λe W' ⟨he,hb⟩=>?_
 subst he;exact aU3 (tb:=4) Tryz.laidOut (λt ht=>by rw[Tryz.params4]at ht; exact aRG (by kernel_rfl) t ht) rfl Tryz.underlying4 rfl rfl rfl rfl hW' hb
theorem refinementJoins_holds:Rows.RefinementJoinsSaid :=
 OpenClaim.holds_of_wide 4 Tryz.f4 rfl rfl rfl rfl rfl rfl rfl ⟨rfl,rfl,rfl,rfl,rfl⟩ rfl rfl rfl rfl rfl (by kernel_rfl) Tryz.func4 (by kernel_rfl)
  (of_decide_eq_true (by kernel_rfl)) (by unfold Func.isWrapper; first|(rw[if_pos (by decide +kernel)]; kernel_rfl)|(rw[if_neg (by decide +kernel)]; exact⟨rfl,rfl⟩))
  (λos started H enc _=>refinementJoins_lifted os started H enc)
theorem refinementJoins_card:Rows.RefinementJoinsCardSaid :=
 Claim7.holds_tied_plain_at .later [] [.data,.data,.data,.sentinel,.sentinel] true (true,"33e047b0af78c8fb7bfd7db96a16d110cf00f1f826dbc35bc3c5963cbd2d27d7") true
  refinementJoins_holds (λ_ h=>by cases h) (by kernel_rfl) (λ_ h=>by cases h) refinementJoins_row_tie rfl ⟨rfl,rfl⟩ (by kernel_rfl) rfl
  (λf fn hf hfn=>by
   obtain rfl:f=4:=Option.some.inj ((show Tryz.prog.funcNamed "schisma/schismalaw19.RefinementJoins"=some 4 by kernel_rfl).symm.trans hf) |>.symm;obtain rfl:fn=Tryz.f4:=(Option.some.inj (Tryz.func4.symm.trans hfn)).symm;exact⟨by kernel_rfl,λj t ht=>by
    rw[Tryz.params4]at ht;have hm:t∈[26]:=by simpa using Array.mem_of_getElem? ht
    have hall:([26].all λu=>!Tryz.prog.wantsStandIn u)=true:=by kernel_rfl
    exact(show Tryz.prog.wantsStandIn t=false by simpa using List.all_eq_true.1 hall t hm)⟩)
  (by kernel_rfl)
end Go.Proofs.YtmghkhgpkefgeaaGreatDoor
