/- IsomorphyLists returns true for any two kinds, any rank and any most of a box, and its arguments read behind the call as they read before. -/
import Derived.Test.YtjgapmocogjkmaaGreatDoorTie
import Derived.Test.YtjgapmocogjkmaaGreatDoorCards
import Derived.SevenTiedAt
import Derived.Test.YtjgapmocogjkmaaGreatDoorQL9
namespace Go.Proofs.YtjgapmocogjkmaaGreatDoor
open Go Go.ChangeShapes Go.WideShapes Go.ChangeAt Go.RowKit Go.Joins Go.PM
set_option maxRecDepth 100000 in
theorem isomorphyLists_lifted (os : Os) (started : os.Started) (H : Type) (enc : TypeId×Value→H) :
  ReturnsInHanded {} Tryz.checked os 11 .any (fun w args=>(Rows.isomorphyListsSpec.pre enc Tryz.prog Tryz.f11 [] false w args∧laidMetH Tryz.prog aLL w)∧sizedMet enc Tryz.prog Tryz.f11 (OpenSpec.ofChange Rows.isomorphyListsSpec) false w args) (Rows.isomorphyListsSpec.post enc Tryz.prog Tryz.f11 false true false false):=by
 refine returnsInHanded_of_change_and (C:=Tryz.checked) (X:=fun w _=>laidMetH Tryz.prog aLL w) (fun _ _ _ hh h=>h.of_heap hh) Tryz.own started (by kernel_rfl) Tryz.func11
  (ChangeSpec.witness_shaped (enc:=enc) (C:=Tryz.checked) (os:=os) (X:=fun w _=>laidMetH Tryz.prog aLL w) false (World.doorLaid Tryz.prog 4000 os) #[.bool false,.int .u8 0,.int .u8 0] 8 rfl (World.shaped_of_RefB (by kernel_rfl) (by kernel_rfl)) (by kernel_rfl) (by kernel_rfl) (by kernel_rfl) (aXQ os _)) ?_
 intro W base args ds gs before hval0 hW _ _ hL _
 have hval : ∀ (j : Nat) t v,Tryz.f11.params[j]? = some t→args[j]? = some v→Value.okWide Tryz.prog W .any base t v:=hval0
 have hW':=hW
 obtain ⟨p,q,hA0,hV,rfl,hfz,hnd⟩:=hW
 have hA : DataW.TrodAll enc Tryz.prog W 0 (fun _=>true) true Tryz.f11.params.toList args.toList ds p:=hA0
 rw [Tryz.params11] at hA hval
 obtain ⟨v0,v1,v2,d0,d1,d2,p0,p1,p2,rfl,rfl,rfl,h0,h1,h2⟩:=trodAll_three hA
 obtain ⟨rfl,rfl⟩:=trodVars_none hV
 obtain ⟨x0,y0,w0⟩:=aVT Tryz.underlying4 (hval 0 4 v0 rfl rfl) h0
 obtain ⟨x1,y1,w1⟩:=aQE Tryz.underlying5 (hval 1 5 v1 rfl rfl) h1
 obtain ⟨x2,y2,w2⟩:=aQE Tryz.underlying5 (hval 2 5 v2 rfl rfl) h2
 refine (aYE bFM (x:=(x0,x1,x2,())) (aV4 (bounds_u8 w1) (bounds_u8 w2)) (a0Y hL) (vs:=#[v0,v1,v2]) (aBU y0 (aBU y1 (aBU y2 (aZ2))))).mono fun e W' ⟨he,hb⟩=>?_
 subst he
 exact aOW (tb:=4) Tryz.laidOut (fun t ht=>by rw [Tryz.params11] at ht; exact aMM (by kernel_rfl) t ht) rfl Tryz.underlying4 rfl rfl rfl rfl hW' hb
theorem isomorphyLists_holds : Rows.IsomorphyListsSaid :=
 OpenClaim.holds_of_wide 11 Tryz.f11 rfl rfl rfl rfl rfl rfl rfl ⟨rfl,rfl,rfl,rfl,rfl⟩ rfl rfl rfl rfl rfl (by kernel_rfl) Tryz.func11 (by kernel_rfl)
  (of_decide_eq_true (by kernel_rfl)) (by unfold Func.isWrapper; first | (rw [if_pos (by decide +kernel)]; kernel_rfl) | (rw [if_neg (by decide +kernel)]; exact ⟨rfl,rfl⟩))
  (fun os started H enc _=>isomorphyLists_lifted os started H enc)
theorem isomorphyLists_card : Rows.IsomorphyListsCardSaid :=
 Claim7.holds_tied_plain_at .later [] [.data,.data,.data,.sentinel,.sentinel] true (true,"ee564db018781ac6b746287faee2405be17d6e71022097e3d2e7e57e0d1c5cc8") true
  isomorphyLists_holds (fun _ h=>by cases h) (by kernel_rfl) (fun _ h=>by cases h) isomorphyLists_row_tie rfl ⟨rfl,rfl⟩ (by kernel_rfl) rfl
  (fun f fn hf hfn=>by
   obtain rfl : f = 11:=Option.some.inj ((show Tryz.prog.funcNamed "schisma/schismalaw46.IsomorphyLists" = some 11 by kernel_rfl).symm.trans hf) |>.symm
   obtain rfl : fn = Tryz.f11:=(Option.some.inj (Tryz.func11.symm.trans hfn)).symm
   exact ⟨by kernel_rfl,fun j t ht=>by
    rw [Tryz.params11] at ht
    have hm : t ∈ [4,5,5]:=by simpa using Array.mem_of_getElem? ht
    have hall : ([4,5,5].all fun u=>!Tryz.prog.wantsStandIn u) = true:=by kernel_rfl
    exact (show Tryz.prog.wantsStandIn t = false by simpa using List.all_eq_true.1 hall t hm)⟩)
  (by kernel_rfl)
end Go.Proofs.YtjgapmocogjkmaaGreatDoor
