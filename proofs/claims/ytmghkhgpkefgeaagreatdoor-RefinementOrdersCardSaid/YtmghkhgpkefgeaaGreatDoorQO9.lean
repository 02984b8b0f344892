/- RefinementOrders: P19.1: for any two described temperaments, Refines, Steps and Between say what the definitions say, or return ErrConflict or ErrOrder. -/
import Derived.Test.YtmghkhgpkefgeaaGreatDoorTie
import Derived.Test.YtmghkhgpkefgeaaGreatDoorCards
import Derived.SevenTiedAt
import Derived.Test.YtmghkhgpkefgeaaGreatDoorQO8
namespace Go.Proofs.YtmghkhgpkefgeaaGreatDoor
open Go Go.ChangeShapes Go.WideShapes Go.ChangeAt Go.RowKit Go.Joins Go.PM
set_option maxRecDepth 100000 in
theorem refinementOrders_lifted(os:Os) (started:os.Started) (H:Type) (enc:TypeId×Value→H) :
  ReturnsInHanded {} Tryz.checked os 6 .any (fun w args=>(Rows.refinementOrdersSpec.pre enc Tryz.prog Tryz.f6 [] false w args∧laidMetH Tryz.prog bAW w)∧sizedMet enc Tryz.prog Tryz.f6 (OpenSpec.ofChange Rows.refinementOrdersSpec) false w args) (Rows.refinementOrdersSpec.post enc Tryz.prog Tryz.f6 false true false false):=by
 refine returnsInHanded_of_change_and (C:=Tryz.checked) (X:=fun w _=>laidMetH Tryz.prog bAW w) (fun _ _ _ hh h=>h.of_heap hh) Tryz.own started (by kernel_rfl) Tryz.func6
  (ChangeSpec.witness_shaped (enc:=enc) (C:=Tryz.checked) (os:=os) (X:=fun w _=>laidMetH Tryz.prog bAW w) false (World.doorLaid Tryz.prog 4000 os) #[.agg #[.int .u8 0,.slice none 0 0,.bool false,.int .u8 0,.slice none 0 0,.bool false,.bool false]] 8 rfl (World.shaped_of_RefB (by kernel_rfl) (by kernel_rfl)) (by kernel_rfl) (by kernel_rfl) (by kernel_rfl) (bKH os _)) ?_
 intro W base args ds gs before hval0 hW _ _ hL _;have hval:∀ (j:Nat) t v,Tryz.f6.params[j]?=some t→args[j]?=some v→Value.okWide Tryz.prog W .any base t v:=hval0;have hW':=hW;obtain⟨p,q,hA0,hV,rfl,hfz,hnd⟩:=hW;have hA:DataW.TrodAll enc Tryz.prog W 0 (fun _=>true) true Tryz.f6.params.toList args.toList ds p:=hA0
 rw[Tryz.params6]at hA hval;obtain⟨v0,d0,rfl,rfl,h0⟩:=trodAll_one hA;obtain⟨rfl,rfl⟩:=trodVars_none hV;obtain⟨x0,y0,w0⟩:=bCI Tryz.underlying26 (aP7 Tryz.underlying26 (T:=(.prod (.prod (.int .u8) (.prod (.list (.prod (.int .i8) (.prod (.int .i8) (.prod (.int .i8) (.int .i8))))) .bool)) (.prod (.prod (.int .u8) (.prod (.list (.prod (.int .i8) (.prod (.int .i8) (.prod (.int .i8) (.int .i8))))) .bool)) .bool))) (by kernel_rfl) ⟨rfl,(aP7 Tryz.underlying24 (T:=(.prod (.int .u8) (.prod (.list (.prod (.int .i8) (.prod (.int .i8) (.prod (.int .i8) (.int .i8))))) .bool))) (by kernel_rfl) ⟨rfl,(aZA Tryz.underlying5 (by kernel_rfl)),rfl,(a6M Tryz.underlying22 (by kernel_rfl) (a54 (n:=3) Tryz.underlying52 (by kernel_rfl) (aZA Tryz.underlying51 (by kernel_rfl)))),rfl,(a0Y Tryz.underlying4 (by kernel_rfl))⟩),rfl,(aP7 Tryz.underlying24 (T:=(.prod (.int .u8) (.prod (.list (.prod (.int .i8) (.prod (.int .i8) (.prod (.int .i8) (.int .i8))))) .bool))) (by kernel_rfl) ⟨rfl,(aZA Tryz.underlying5 (by kernel_rfl)),rfl,(a6M Tryz.underlying22 (by kernel_rfl) (a54 (n:=3) Tryz.underlying52 (by kernel_rfl) (aZA Tryz.underlying51 (by kernel_rfl)))),rfl,(a0Y Tryz.underlying4 (by kernel_rfl))⟩),rfl,(a0Y Tryz.underlying4 (by kernel_rfl))⟩) (hval 0 26 v0 rfl rfl) h0
 refine(bIS OR (x:=(x0,())) (a9R x0 (bJK w0.1) (bJK w0.2.1)) (bLB hL) (vs:=#[v0]) (bIR y0 (bKO))).mono fun e W' ⟨he,hb⟩=>?_
 subst he;exact bDE (tb:=4) Tryz.laidOut (fun t ht=>by rw[Tryz.params6]at ht; exact bA3 (by kernel_rfl) t ht) rfl Tryz.underlying4 rfl rfl rfl rfl hW' hb
theorem refinementOrders_holds:Rows.RefinementOrdersSaid :=
 OpenClaim.holds_of_wide 6 Tryz.f6 rfl rfl rfl rfl rfl rfl rfl ⟨rfl,rfl,rfl,rfl,rfl⟩ rfl rfl rfl rfl rfl (by kernel_rfl) Tryz.func6 (by kernel_rfl)
  (of_decide_eq_true (by kernel_rfl)) (by unfold Func.isWrapper; first|(rw[if_pos (by decide +kernel)]; kernel_rfl)|(rw[if_neg (by decide +kernel)]; exact⟨rfl,rfl⟩))
  (fun os started H enc _=>refinementOrders_lifted os started H enc)
theorem refinementOrders_card:Rows.RefinementOrdersCardSaid :=
 Claim7.holds_tied_plain_at .later [] [.data,.data,.data,.sentinel,.sentinel] true (true,"33e047b0af78c8fb7bfd7db96a16d110cf00f1f826dbc35bc3c5963cbd2d27d7") true
  refinementOrders_holds (fun _ h=>by cases h) (by kernel_rfl) (fun _ h=>by cases h) refinementOrders_row_tie rfl ⟨rfl,rfl⟩ (by kernel_rfl) rfl
  (fun f fn hf hfn=>by
   obtain rfl:f=6:=Option.some.inj ((show Tryz.prog.funcNamed "schisma/schismalaw19.RefinementOrders"=some 6 by kernel_rfl).symm.trans hf) |>.symm
   obtain rfl:fn=Tryz.f6:=(Option.some.inj (Tryz.func6.symm.trans hfn)).symm;exact⟨by kernel_rfl,fun j t ht=>by
    rw[Tryz.params6]at ht;have hm:t∈[26]:=by simpa using Array.mem_of_getElem? ht
    have hall:([26].all fun u=>!Tryz.prog.wantsStandIn u)=true:=by kernel_rfl
    exact(show Tryz.prog.wantsStandIn t=false by simpa using List.all_eq_true.1 hall t hm)⟩)
  (by kernel_rfl)
end Go.Proofs.YtmghkhgpkefgeaaGreatDoor
