/- Texts of one proof, joined (7). -/
import Derived.Shelf.SlSortCmp.WholeK
import Derived.Ground.SlsfProg
import Derived.Test.YtfjcjchcmdhmnaaGreatDoorProg
import Derived.Shelf.Sort.Plain
import Derived.WalkKit
import Derived.Lib.Walk
import Derived.Lib.SliceRun
import Derived.Lib.AtoiTie
import Derived.Lib.ParseIntBTie
import Derived.Test.YtfjcjchcmdhmnaaGreatDoorTP6
set_option linter.unusedSimpArgs false
set_option linter.unusedVariables false
set_option maxRecDepth 100000
noncomputable section
namespace Go.PM
open Go Go.RowKit Go.Proofs Tryz
set_option maxHeartbeats 4000000
def f38(x:aL [.int .i64]):oK [.clo 31 [(.list TyO)]]:=match x with
 | (v0,()) =>
  aB (f61 (v0,())) λy1 =>
  some ((y1.1,()),())
abbrev e38:Ent:=⟨13,_,_,f38⟩
theorem ZA:Ent.OK Tryz.prog e38:=oI (aQ (oV aTI oW)) func13 (by kernel_rfl) (by rintro⟨v0,⟨⟩⟩; kernel_rfl)
abbrev EM:List (Nat×Kd):=[(1,.box 31 TyA),(2,.own 40 (.prod TyE (.prod TyE TyO))),(3,.int .i64),(5,.bown 75 40 (.prod TyE (.prod TyE TyO))),(14,.clo 31 [(.list TyO)])]
abbrev OZ:List (Ex×List (Nat×Kd)):=[(.normal,[(5,.bown 75 40 (.prod TyE (.prod TyE TyO)))])]
def aDQ(x:Shape.den EM)(e:aL [.agg (.prod TyE (.prod TyE TyO))]):oS EM OZ:=match x,e with
 | (v1,v2,v3,v5,v14,()),(e0,()) =>
  aB (f40 (v1,e0,())) λy3 =>
  aB (f48 (y3.1,v1,())) λy4 =>
  bif eqI y4.1 0 then
   bif Nat.ble [e0].length 1048576 then bif Nat.ble v5.length 1048576 then some (.inl (v1,v2,v3,(v5++[e0]),(v14.1,()),())) else none else none
  else some (.inl (v1,v2,v3,v5,(v14.1,()),()))
def aH0(x:Shape.den EM):AS [(.list TyO)]:=match x with
 | (v1,v2,v3,v5,v14,())=>(v14.1,())
def SZ(x:Shape.den EM):oX OZ:=RU EM OZ (λx=>CH (aH0 x)) aDQ x
def f28(x:aL [.agg TyA]):oK [.list (.prod TyE (.prod TyE TyO)),.int .i64]:=match x with
 | (v0,()) =>
  aB (f24 (v0,())) λy1 =>
  bif !(eqI y1.1 0) then
   some ([],y1.1,())
  else aB (f38 (v0.1,())) λy2 =>
  aB (SZ (v0,[],0,[],(y2.1.1,()),())) λz5 =>
  some (z5.1,0,())
def c28:Code:=cM Tryz.f28
abbrev E28:Env:=qK [e24,e38,e40,e48]
theorem aOV:fC Tryz.prog E28:=aQ ⟨aE6,ZA,aBH,YY,trivial⟩
def FY:Code:=zT c28 0
def aV0:Code:=inLoop FY
def aTS(id:Nat):Option bT:=none
def aTW(id:Nat):Option bT:=bif Nat.beq id 7 then some ⟨EM,OZ,SZ⟩ else none
theorem aKB:aO aV0=7:=by kernel_rfl
theorem aDB:FY=.rangeFunc (D9 FY) (PB FY) (l8 FY) (inLoop FY):=by kernel_rfl
theorem aI6:∀ y e,IC Tryz.prog E28 27 (j7 Tryz.f28) aTS aTW (PB FY).toList (l8 FY) (inLoop FY) [.agg (.prod TyE (.prod TyE TyO))] EM OZ y e=aDQ y e:=by
 rintro⟨v1,v2,v3,v5,v14,⟨⟩⟩ ⟨e0,⟨⟩⟩
 kernel_rfl
theorem aRJ:∀ x,TR 31 [(.list TyO)] EM (D9 FY) x=some (aH0 x):=by
 rintro⟨v1,v2,v3,v5,v14,⟨⟩⟩
 kernel_rfl
theorem aLD:qL Tryz.prog 27 false [] FY ⟨EM,OZ,SZ⟩:=EC aOV aV aDB func31 (c:=cM f31) (by kernel_rfl) aRO (by kernel_rfl) (gY (l:=[]) (by kernel_rfl) trivial) aRJ aI6
theorem aPQ:bP c28=[FY]:=by kernel_rfl
theorem aTM:∀ x,KB Tryz.prog E28 Tryz.f28 (j7 Tryz.f28) aTS aTW c28 [.agg TyA] [.list (.prod TyE (.prod TyE TyO)),.int .i64] x=f28 x:=by
 rintro⟨v0,⟨⟩⟩
 kernel_rfl
abbrev e28:Ent:=⟨28,_,_,f28⟩
theorem aUQ:Ent.OK Tryz.prog e28:=yL aV aOV func28 (c:=c28) (by kernel_rfl) (aU:=j7 Tryz.f28) (lt:=aTS) (rt:=aTW) (gY aPQ ⟨zO aDB aKB rfl aLD,trivial⟩) aTM
abbrev zP:List (Nat×Kd):=[(1,.box 31 TyA),(2,.box 31 TyA),(3,.box 40 (.prod TyE (.prod TyE TyO))),(4,.box 34 TyE),(5,.box 31 TyA),(6,.box 40 (.prod TyE (.prod TyE TyO))),(7,.box 4 .bool),(15,.clo 31 [(.list TyO)])]
abbrev IK:List (Ex×List (Nat×Kd)):=[(.normal,[(1,.box 31 TyA),(2,.box 31 TyA),(3,.box 40 (.prod TyE (.prod TyE TyO))),(4,.box 34 TyE),(5,.box 31 TyA),(6,.box 40 (.prod TyE (.prod TyE TyO)))]),(.ret,[(2,.box 31 TyA),(3,.box 40 (.prod TyE (.prod TyE TyO))),(4,.box 34 TyE)])]
def DF(x:Shape.den zP)(e:aL [.agg (.prod TyE (.prod TyE TyO))]):oS zP IK:=match x,e with
 | (v1,v2,v3,v4,v5,v6,v7,v15,()),(e0,()) =>
  aB (f40 (v1,e0,())) λy2 =>
  aB (f39 (y2.1,())) λy3 =>
  bif !(eqI y3.2.1 0) then
   some (.inr (.inr (((0,([],([],[]))),(0,(0,(0,0))),y3.2.1,()))))
  else bif v7 then
   aB (f48 (y3.1,v5,())) λy4 =>
   bif ltI y4.1 0 then
    some (.inl (v1,v2,v3,v4,y3.1,e0,true,(v15.1,()),()))
   else some (.inl (v1,v2,v3,v4,v5,v6,v7,(v15.1,()),()))
  else some (.inl (v1,v2,v3,v4,y3.1,e0,true,(v15.1,()),()))
def aAM(x:Shape.den zP):AS [(.list TyO)]:=match x with
 | (v1,v2,v3,v4,v5,v6,v7,v15,())=>(v15.1,())
def DG(x:Shape.den zP):oX IK:=RU zP IK (λx=>CH (aAM x)) DF x
def f47(x:aL [.agg TyA]):oK [.agg TyA,.agg (.prod TyE (.prod TyE TyO)),.int .i64]:=match x with
 | (v0,()) =>
  aB (f38 (v0.1,())) λy1 =>
  aB (DG (v0,(0,([],([],[]))),(0,(0,(0,0))),0,(0,([],([],[]))),(0,(0,(0,0))),false,(y1.1.1,()),())) λz5 =>
  j8 z5 (λa6=>aB (nY ((a6.1.2.1.length:Int),[a6.1.2.2.1,a6.1.2.2.2],())) λy8 =>
   bif !(eqI y8.2.1 0) then
    some ((0,([],([],[]))),(0,(0,(0,0))),y8.2.1,())
   else aB (gQ (y8.1,a6.1.2.1,())) λy9 =>
   bif !(eqI y9.2.1 0) then
    some ((0,([],([],[]))),(0,(0,(0,0))),y9.2.1,())
   else some ((a6.2.2.2.2.1.1,(y9.1,a6.2.2.2.2.1.2.2)),a6.2.2.2.2.2.1,0,())) λb7 =>
  some (b7.1,b7.2.1,b7.2.2.1,())
def c47:Code:=cM Tryz.f19
abbrev E47:Env:=qK [e38,e39,e40,e48,Q2,zQ]
theorem aON:fC Tryz.prog E47:=aQ ⟨ZA,aTL,aBH,YY,UI,GP,trivial⟩
def GD:Code:=zT c47 0
def aVI:Code:=inLoop GD
def aTA(id:Nat):Option bT:=none
def aUE(id:Nat):Option bT:=bif Nat.beq id 6 then some ⟨zP,IK,DG⟩ else none
theorem aJ6:aO aVI=6:=by kernel_rfl
theorem aB2:GD=.rangeFunc (D9 GD) (PB GD) (l8 GD) (inLoop GD):=by kernel_rfl
theorem aJ9:∀ y e,IC Tryz.prog E47 71 (j7 Tryz.f19) aTA aUE (PB GD).toList (l8 GD) (inLoop GD) [.agg (.prod TyE (.prod TyE TyO))] zP IK y e=DF y e:=by
 rintro⟨v1,v2,v3,v4,v5,v6,v7,v15,⟨⟩⟩ ⟨e0,⟨⟩⟩
 kernel_rfl
theorem aQ5:∀ x,TR 31 [(.list TyO)] zP (D9 GD) x=some (aAM x):=by
 rintro⟨v1,v2,v3,v4,v5,v6,v7,v15,⟨⟩⟩
 kernel_rfl
theorem aPE:qL Tryz.prog 71 false [] GD ⟨zP,IK,DG⟩:=EC aON aV aB2 func31 (c:=cM f31) (by kernel_rfl) aRO (by kernel_rfl) (gY (l:=[]) (by kernel_rfl) trivial) aQ5 aJ9
theorem aRP:bP c47=[GD]:=by kernel_rfl
theorem aUH:∀ x,KB Tryz.prog E47 Tryz.f19 (j7 Tryz.f19) aTA aUE c47 [.agg TyA] [.agg TyA,.agg (.prod TyE (.prod TyE TyO)),.int .i64] x=f47 x:=by
 rintro⟨v0,⟨⟩⟩
 kernel_rfl
abbrev e47:Ent:=⟨19,_,_,f47⟩
theorem aND:Ent.OK Tryz.prog e47:=yL aV aON func19 (c:=c47) (by kernel_rfl) (aU:=j7 Tryz.f19) (lt:=aTA) (rt:=aUE) (gY aRP ⟨zO aB2 aJ6 rfl aPE,trivial⟩) aUH
def f26(x:aL [.agg TyA]):oK [.agg TyA,.int .i64]:=match x with
 | (v0,()) =>
  aB (f24 (v0,())) λy1 =>
  bif !(eqI y1.1 0) then
   some ((0,([],([],[]))),y1.1,())
  else aB (f47 (v0,())) λy2 =>
  some (y2.1,y2.2.2.1,())
abbrev e26:Ent:=⟨27,_,_,f26⟩
theorem aUJ:Ent.OK Tryz.prog e26:=oI (aQ (oV aE6 (oV aND oW))) func27 (by kernel_rfl) (by rintro⟨v0,⟨⟩⟩; kernel_rfl)
abbrev OH:List (Nat×Kd):=[(0,.list TyE),(1,.list TyE),(11,.list TyE),(12,.int .i64),(13,.int .i64),(42,.agg TyO),(43,.int .i64)]
abbrev U6:List (Ex×List (Nat×Kd)):=[(.ret,[(8,.int .i64),(9,.int .i64),(10,.bool)]),(.exit 4,[(0,.list TyE),(1,.list TyE),(11,.list TyE),(12,.int .i64),(13,.int .i64)])]
def AP(x:Shape.den OH):oS OH U6:=match x with
 | (v0,v1,v11,v12,v13,v42,v43,()) =>
  bif ltI v43 2 then
   bif eqI v43 0 then
    aB (f65 (v0,v1,v13,v42.1,())) λy6 =>
    aB (f46 (y6.1,v11,())) λy7 =>
    bif y7.1 then
     some (.inr (.inl (v13,v42.1,true,())))
    else some (.inl (v0,v1,v11,v12,v13,v42,(aH .i64 (v43+1)),()))
   else bif eqI v43 1 then aB (f65 (v0,v1,v13,v42.2,())) λy8 =>
   aB (f46 (y8.1,v11,())) λy9 =>
   bif y9.1 then
    some (.inr (.inl (v13,v42.2,true,())))
   else some (.inl (v0,v1,v11,v12,v13,v42,(aH .i64 (v43+1)),())) else none
  else some (.inr (.inr ((v0,v1,v11,v12,v13,()))))
def D8(x:Shape.den OH):oX U6:=bF AP (2^64) x
abbrev PY:List (Nat×Kd):=[(0,.list TyE),(1,.list TyE),(11,.list TyE),(12,.int .i64),(13,.int .i64)]
abbrev VQ:List (Ex×List (Nat×Kd)):=[(.ret,[(8,.int .i64),(9,.int .i64),(10,.bool)]),(.exit 2,[(0,.list TyE),(1,.list TyE),(11,.list TyE),(12,.int .i64)])]
def U0(x:Shape.den PY):oS PY VQ:=match x with
 | (v0,v1,v11,v12,v13,()) =>
  bif !(ltI v12 v13) then
   aB (D8 (v0,v1,v11,v12,v13,((aH .i64 (v12-(if v13<(IntKind.wrap .i64 (0-v13)) then (IntKind.wrap .i64 (0-v13)) else v13))),(aH .i64 ((if v13<(IntKind.wrap .i64 (0-v13)) then (IntKind.wrap .i64 (0-v13)) else v13)-v12))),0,())) λz13 =>
   j8 z13 (λa14=>some (.inr (.inl (a14.1,a14.2.1,a14.2.2.1,())))) λb15 =>
   some (.inl (b15.1,b15.2.1,b15.2.2.1,b15.2.2.2.1,(aH .i64 (b15.2.2.2.2.1+1)),()))
  else some (.inr (.inr ((v0,v1,v11,v12,()))))
def DJ(x:Shape.den PY):oX VQ:=bF U0 (2^64) x
abbrev OY:List (Nat×Kd):=[(0,.list TyE),(1,.list TyE),(11,.list TyE),(12,.int .i64)]
abbrev SM:List (Ex×List (Nat×Kd)):=[(.ret,[(8,.int .i64),(9,.int .i64),(10,.bool)]),(.exit 0,[(0,.list TyE),(1,.list TyE),(11,.list TyE)])]
def TD(x:Shape.den OY):oS OY SM:=match x with
 | (v0,v1,v11,v12,()) =>
  bif !(ltI 2000 v12) then
   aB (DJ (v0,v1,v11,v12,(IntKind.wrap .i64 (0-v12)),())) λz19 =>
   j8 z19 (λa20=>some (.inr (.inl (a20.1,a20.2.1,a20.2.2.1,())))) λb21 =>
   bif ltI 16 b21.2.2.2.1 then
    some (.inr (.inr ((b21.1,b21.2.1,b21.2.2.1,()))))
   else some (.inl (b21.1,b21.2.1,b21.2.2.1,(aH .i64 (b21.2.2.2.1+1)),()))
  else some (.inr (.inr ((v0,v1,v11,()))))
def H6(x:Shape.den OY):oX SM:=bF TD (2^64) x
def f49(x:aL [.list TyE,.list TyE,.list TyE,.list TyE]):oK [.int .i64,.int .i64,.bool]:=match x with
 | (v0,v1,v2,v3,()) =>
  aB (f65 (v3,v2,1,(-1),())) λy1 =>
  aB (H6 (v0,v1,y1.1,0,())) λz22 =>
  j8 z22 (λa23=>some (a23.1,a23.2.1,a23.2.2.1,())) λb24 =>
  none
def c49:Code:=cM f21
abbrev E49:Env:=qK [e46,e65]
theorem ZL:fC Tryz.prog E49:=aQ ⟨aEZ,aNH,trivial⟩
def aDY:Code:=inLoop (zT c49 0)
def aED:Code:=inLoop (zT aDY 0)
def aML:Code:=inLoop (zT aED 0)
def aMX(id:Nat):Option bT:=bif Nat.beq id 9 then some ⟨OH,U6,D8⟩ else bif Nat.beq id 6 then some ⟨PY,VQ,DJ⟩ else bif Nat.beq id 3 then some ⟨OY,SM,H6⟩ else none
def aO0(id:Nat):Option bT:=none
theorem aKI:∀ x,E8 Tryz.prog E49 65 (j7 f21) aMX aO0 false [] aML OH U6 x=AP x:=by
 rintro⟨v0,v1,v11,v12,v13,v42,v43,⟨⟩⟩
 kernel_rfl
theorem aL6:qL Tryz.prog 65 false [] (.loop aML) ⟨OH,U6,D8⟩:=xB ZL.callee aV.mixed _ (gY (l:=[]) (by kernel_rfl) trivial) aKI
theorem aS1:bP aED=[.loop aML]:=by kernel_rfl
theorem aJN:∀ x,E8 Tryz.prog E49 65 (j7 f21) aMX aO0 false [] aED PY VQ x=U0 x:=by
 rintro⟨v0,v1,v11,v12,v13,⟨⟩⟩
 kernel_rfl
theorem aNG:qL Tryz.prog 65 false [] (.loop aED) ⟨PY,VQ,DJ⟩:=xB ZL.callee aV.mixed _ (gY aS1 ⟨AR (i:=9) (by kernel_rfl) rfl aL6,trivial⟩) aJN
theorem aUT:bP aDY=[.loop aED]:=by kernel_rfl
theorem aK9:∀ x,E8 Tryz.prog E49 65 (j7 f21) aMX aO0 false [] aDY OY SM x=TD x:=by
 rintro⟨v0,v1,v11,v12,⟨⟩⟩
 kernel_rfl
theorem aOM:qL Tryz.prog 65 false [] (.loop aDY) ⟨OY,SM,H6⟩:=xB ZL.callee aV.mixed _ (gY aUT ⟨AR (i:=6) (by kernel_rfl) rfl aNG,trivial⟩) aK9
theorem aSB:bP c49=[.loop aDY]:=by kernel_rfl
theorem aTY:∀ x,KB Tryz.prog E49 f21 (j7 f21) aMX aO0 c49 [.list TyE,.list TyE,.list TyE,.list TyE] [.int .i64,.int .i64,.bool] x=f49 x:=by
 rintro⟨v0,v1,v2,v3,⟨⟩⟩
 kernel_rfl
abbrev e49:Ent:=⟨21,_,_,f49⟩
theorem aS2:Ent.OK Tryz.prog e49:=yL aV ZL func21 (c:=c49) (by kernel_rfl) (aU:=j7 f21) (lt:=aMX) (rt:=aO0) (gY aSB ⟨AR (i:=3) (by kernel_rfl) rfl aOM,trivial⟩) aTY
abbrev PF:List (Nat×Kd):=[(2,.box 31 TyA),(3,.box 31 TyA),(4,.box 42 (.prod (.prod TyE (.prod TyE TyO)) TyO)),(5,.box 4 .bool),(6,.box 34 TyE),(21,.agg (.prod TyA TyA)),(22,.int .i64)]
abbrev UZ:List (Ex×List (Nat×Kd)):=[(.ret,[(4,.box 42 (.prod (.prod TyE (.prod TyE TyO)) TyO)),(5,.box 4 .bool),(6,.box 34 TyE)]),(.exit 0,[(2,.box 31 TyA),(3,.box 31 TyA),(4,.box 42 (.prod (.prod TyE (.prod TyE TyO)) TyO)),(5,.box 4 .bool),(6,.box 34 TyE)])]
def HF(x:Shape.den PF):oS PF UZ:=match x with
 | (v2,v3,v4,v5,v6,v21,v22,()) =>
  bif ltI v22 2 then
   bif eqI v22 0 then
    aB (f24 (v21.1,())) λy3 =>
    bif !(eqI y3.1 0) then
     some (.inr (.inl (((0,(0,(0,0))),(0,0)),false,y3.1,())))
    else some (.inl (v2,v3,v4,v5,v6,v21,(aH .i64 (v22+1)),()))
   else bif eqI v22 1 then aB (f24 (v21.2,())) λy4 =>
   bif !(eqI y4.1 0) then
    some (.inr (.inl (((0,(0,(0,0))),(0,0)),false,y4.1,())))
   else some (.inl (v2,v3,v4,v5,v6,v21,(aH .i64 (v22+1)),())) else none
  else some (.inr (.inr ((v2,v3,v4,v5,v6,()))))
def BH(x:Shape.den PF):oX UZ:=bF HF (2^64) x
abbrev CF:List (Nat×Kd):=[(2,.box 31 TyA),(3,.box 31 TyA),(4,.box 42 (.prod (.prod TyE (.prod TyE TyO)) TyO)),(5,.box 4 .bool),(6,.box 34 TyE),(67,.clo 31 [(.list TyO)])]
abbrev KU:List (Ex×List (Nat×Kd)):=[(.normal,[(4,.box 42 (.prod (.prod TyE (.prod TyE TyO)) TyO)),(5,.box 4 .bool),(6,.box 34 TyE)]),(.ret,[(4,.box 42 (.prod (.prod TyE (.prod TyE TyO)) TyO)),(5,.box 4 .bool),(6,.box 34 TyE)])]
def MF(x:Shape.den CF)(e:aL [.agg (.prod TyE (.prod TyE TyO))]):oS CF KU:=match x,e with
 | (v2,v3,v4,v5,v6,v67,()),(e0,()) =>
  aB (f40 (v2,e0,())) λy12 =>
  aB (f48 (y12.1,v3,())) λy13 =>
  bif !(eqI y13.1 0) then
   some (.inl (v2,v3,v4,v5,v6,(v67.1,()),()))
  else aB (f49 (v2.2.2.1,v2.2.2.2,v2.2.1,v3.2.1,())) λy14 =>
  bif y14.2.2.1 then
   bif !(ltI 1000 (if y14.1<(IntKind.wrap .i64 (0-y14.1)) then (IntKind.wrap .i64 (0-y14.1)) else y14.1)) then
    bif !(ltI 1000 (if y14.2.1<(IntKind.wrap .i64 (0-y14.2.1)) then (IntKind.wrap .i64 (0-y14.2.1)) else y14.2.1)) then
     some (.inr (.inr (((e0,(y14.1,y14.2.1)),true,0,()))))
    else some (.inl (v2,v3,v4,v5,v6,(v67.1,()),()))
   else some (.inl (v2,v3,v4,v5,v6,(v67.1,()),()))
  else some (.inl (v2,v3,v4,v5,v6,(v67.1,()),()))
def Z0(x:Shape.den CF):AS [(.list TyO)]:=match x with
 | (v2,v3,v4,v5,v6,v67,())=>(v67.1,())
def C8(x:Shape.den CF):oX KU:=RU CF KU (λx=>CH (Z0 x)) MF x
def f27(x:aL [.agg TyA,.agg TyA]):oK [.agg (.prod (.prod TyE (.prod TyE TyO)) TyO),.bool,.int .i64]:=match x with
 | (v0,v1,()) =>
  aB (BH (v0,v1,((0,(0,(0,0))),(0,0)),false,0,(v0,v1),0,())) λz5 =>
  j8 z5 (λa6=>some (a6.1,a6.2.1,a6.2.2.1,())) λb7 =>
  bif !(eqI (b7.1.2.1.length:Int) (b7.2.1.2.1.length:Int)) then
   some (((0,(0,(0,0))),(0,0)),false,5,())
  else aB (f47 (b7.1,())) λy8 =>
  bif !(eqI y8.2.2.1 0) then
   some (((0,(0,(0,0))),(0,0)),false,y8.2.2.1,())
  else aB (f47 (b7.2.1,())) λy9 =>
  bif !(eqI y9.2.2.1 0) then
   some (((0,(0,(0,0))),(0,0)),false,y9.2.2.1,())
  else aB (f25 (y8.1,y9.1,())) λy10 =>
  bif y10.1 then
   aB (f38 (b7.1.1,())) λy11 =>
   aB (C8 (b7.1,b7.2.1,b7.2.2.1,b7.2.2.2.1,y9.2.2.1,(y11.1.1,()),())) λz15 =>
   j8 z15 (λa16=>some (((0,(0,(0,0))),(0,0)),false,3,())) λb17 =>
   some (b17.1,b17.2.1,b17.2.2.1,())
  else some (((0,(0,(0,0))),(0,0)),false,0,())
def c27:Code:=cM f7
abbrev E27:Env:=qK [e24,e25,e38,e40,e47,e48,e49]
theorem aFJ:fC Tryz.prog E27:=aQ ⟨aE6,aTK,ZA,aBH,aND,YY,aS2,trivial⟩
def aNA:Code:=inLoop (zT c27 0)
def GI:Code:=zT c27 1
def aWN:Code:=inLoop GI
def aRV(id:Nat):Option bT:=bif Nat.beq id 2 then some ⟨PF,UZ,BH⟩ else none
def aSF(id:Nat):Option bT:=bif Nat.beq id 20 then some ⟨CF,KU,C8⟩ else none
theorem aKJ:∀ x,E8 Tryz.prog E27 109 (j7 f7) aRV aSF false [] aNA PF UZ x=HF x:=by
 rintro⟨v2,v3,v4,v5,v6,v21,v22,⟨⟩⟩
 kernel_rfl
theorem aNE:qL Tryz.prog 109 false [] (.loop aNA) ⟨PF,UZ,BH⟩:=xB aFJ.callee aV.mixed _ (gY (l:=[]) (by kernel_rfl) trivial) aKJ
theorem aKZ:aO aWN=20:=by kernel_rfl
theorem aCK:GI=.rangeFunc (D9 GI) (PB GI) (l8 GI) (inLoop GI):=by kernel_rfl
theorem aJK:∀ y e,IC Tryz.prog E27 109 (j7 f7) aRV aSF (PB GI).toList (l8 GI) (inLoop GI) [.agg (.prod TyE (.prod TyE TyO))] CF KU y e=MF y e:=by
 rintro⟨v2,v3,v4,v5,v6,v67,⟨⟩⟩ ⟨e0,⟨⟩⟩
 kernel_rfl
theorem aQW:∀ x,TR 31 [(.list TyO)] CF (D9 GI) x=some (Z0 x):=by
 rintro⟨v2,v3,v4,v5,v6,v67,⟨⟩⟩
 kernel_rfl
theorem aNC:qL Tryz.prog 109 false [] GI ⟨CF,KU,C8⟩:=EC aFJ aV aCK func31 (c:=cM f31) (by kernel_rfl) aRO (by kernel_rfl) (gY (l:=[]) (by kernel_rfl) trivial) aQW aJK
theorem aQU:bP c27=[.loop aNA,GI]:=by kernel_rfl
theorem aTV:∀ x,KB Tryz.prog E27 f7 (j7 f7) aRV aSF c27 [.agg TyA,.agg TyA] [.agg (.prod (.prod TyE (.prod TyE TyO)) TyO),.bool,.int .i64] x=f27 x:=by
 rintro⟨v0,v1,⟨⟩⟩
 kernel_rfl
abbrev e27:Ent:=⟨7,_,_,f27⟩
theorem aF0:Ent.OK Tryz.prog e27:=yL aV aFJ func7 (c:=c27) (by kernel_rfl) (aU:=j7 f7) (lt:=aRV) (rt:=aSF) (gY aQU ⟨AR (i:=2) (by kernel_rfl) rfl aNE,zO aCK aKZ rfl aNC,trivial⟩) aTV
def f12(x:aL []):oK [.bool]:=some (true,())
abbrev e12:Ent:=⟨10,_,_,f12⟩
theorem aS8:Ent.OK Tryz.prog e12:=oI (aQ (oV aUN (oV aUJ (oV aF0 (oV aUQ oW))))) func10 (by kernel_rfl) (by rintro⟨⟨⟩⟩; kernel_rfl)
end Go.PM
namespace Go.PM
open Go Go.RowKit
section
variable {α:Type} (P:Program) (E:Env) (nt aU:Nat) (hs:Nat->Option (Nat×Nat))
def aHJ(t n:Nat) (F:Frm) (k:Frm->Option α):Option α:=match bB F t with
 | .lit (.int d v)=>KK n 0 v λj=>k ((t,.lit (.int d j))::F)
 | _=>none
def s8:Nat->Code->Frm->Heap->(Ex->Frm->Heap->Option α)->Option α
 | 0,_,_,_,_=>none
 | _+1,.skip,F,H,k=>k .normal F H
 | _+1,.label _,F,H,k=>k .normal F H
 | _+1,.region id ops draw,F,H,k=>uB P E nt ops draw F H λF H=>GG aU F λF=>match hs id with
  | some (t,n)=>aHJ t n F λF=>k .normal F H
  | none=>k .normal F H
 | m+1,.seq a b,F,H,k=>s8 m a F H λex F H=>match ex with
  | .normal=>s8 m b F H k
  | .exit i=>k (.exit i) F H
  | .ret=>k .ret F H
 | m+1,.cond c a b,F,H,k=>match ev F c with
  | .lit (.bool t)=>aC3 F c t λF t=>bif t then s8 m a F H k else s8 m b F H k
  | _=>none
 | m+1,.block id a,F,H,k=>s8 m a F H λex F H=>match ex with
  | .exit i=>bif Nat.beq i id then k .normal F H else k (.exit i) F H
  | .normal=>k .normal F H
  | .ret=>k .ret F H
 | m+1,.loop a,F,H,k=>s8 m a F H λex F H=>match ex with
  | .normal=>s8 m (.loop a) F H k
  | .exit i=>k (.exit i) F H
  | .ret=>k .ret F H
 | _+1,.exit id,F,H,k=>k (.exit id) F H
 | m+1,.scope a,F,H,k=>s8 m a F H k
 | _+1,.ret,F,H,k=>k .ret F H
 | _+1,_,_,_,_=>none
end
section
variable {α:Type} {P:Program} {E:Env} {nt aU:Nat} {hs:Nat->Option (Nat×Nat)}
def aB3(P:Program) (nt:Nat) (a:Code) (r:Ex×Frm×Heap):Nat->Frm->Heap->Prop
 | 0,_,_=>False
 | k+1,F,H=>(r.1≠.normal/\CU P nt a F H r)\/∃ F1 H1,CU P nt a F H (.normal,F1,H1)/\aB3 P nt a r k F1 H1
theorem aEQ {a:Code}{r:Ex×Frm×Heap}{n:Nat}{F:Frm}{H:Heap}(h:aB3 P nt a r n F H):CU P nt (.loop a) F H r:=by
 intro n0 wi Gi μi act w hfl hI;refine wp_loop_ghost (λk a1 w1=>∃ F H,aB3 P nt a r k F H/\I n0 wi Gi μi nt F H a1 w1) n ⟨F,H,h,hI⟩ ?_;rintro k act w ⟨F,H,h,hI⟩;cases k with
 | zero=>exact h.elim
 | succ k =>
  rcases h with ⟨hne,h⟩|⟨F1,H1,h,hc⟩
  ·refine wp_mono (h n0 wi Gi μi act w hfl hI) ?_;obtain⟨ex,F',H'⟩:=r;rintro e a' w' ⟨rfl,hI'⟩;cases ex with
   | normal=>exact absurd rfl hne
   | exit i=>exact⟨rfl,hI'⟩
   | ret=>exact⟨rfl,hI'⟩
  ·refine wp_mono (h n0 wi Gi μi act w hfl hI) ?_;rintro e a' w' ⟨rfl,hI'⟩;exact⟨k,Nat.lt_succ_self k,F1,H1,hc,hI'⟩
theorem aHA {z:α}{t n:Nat}{F:Frm}{k:Frm->Option α}(h:aHJ t n F k=some z):∃ F',k F'=some z/\∀ s,bB F' s=bB F s:=by
 unfold aHJ at h;split at h
 ·rename_i d v hv;have h:=wK h;refine⟨_,h,λs=>?_⟩;rw[cS]
  by_cases hs:s=t
  ·subst hs; rw[if_pos rfl,hv]
  ·rw[if_neg hs]
 ·cases h
theorem QH(hcl:bN P (cJ P E))(hP:P.follows .mixedOrders=true):∀ (n:Nat) (c:Code) (F:Frm) (H:Heap) (k:Ex->Frm->Heap->Option α) (z:α),
  s8 P E nt aU hs n c F H k=some z->∃ r:Ex×Frm×Heap,k r.1 r.2.1 r.2.2=some z/\CU P nt c F H r/\∀ a,c=.loop a->∃ m,aB3 P nt a r m F H:=by
 intro n
 induction n with
 | zero=>intro c F H k z h; cases h
 | succ n ih =>
  intro c F H k z h;cases c with
  | skip=>exact⟨(.normal,F,H),h,λ_ _ _ _ _ _ _ hI=>wp_skip ⟨rfl,hI⟩,λa e=>by cases e⟩
  | label l=>exact⟨(.normal,F,H),h,λ_ _ _ _ _ _ _ hI=>wp_label ⟨rfl,hI⟩,λa e=>by cases e⟩
  | region id ops draw =>
   simp only[s8]at h;obtain⟨F1,H1,h1,h2⟩:=JV (id:=id) hcl hP h;obtain⟨F2,h3,h4⟩:=vO aU F1 λF=>match hs id with
    | some (t,n)=>aHJ t n F λF=>k .normal F H1
    | none=>k .normal F H1
   rw[h3]at h1;split at h1
   ·obtain⟨F3,h5,h6⟩:=aHA h1;exact⟨(.normal,F3,H1),h5,λ_ _ _ _ _ _ _ hI=>h2 hI λa' w' hI'=>⟨rfl,(hI'.WG h4).congr h6⟩,λa e=>by cases e⟩
   ·exact⟨(.normal,F2,H1),h1,λ_ _ _ _ _ _ _ hI=>h2 hI λa' w' hI'=>⟨rfl,hI'.WG h4⟩,λa e=>by cases e⟩
  | seq x y =>
   simp only[s8]at h;obtain⟨⟨ex,F1,H1⟩,h1,h2,-⟩:=ih x F H _ z h;cases ex with
   | normal =>
    obtain⟨r,h3,h4,-⟩:=ih y F1 H1 k z h1;refine⟨r,h3,λn0 wi Gi μi a w hfl hI=>wp_seq (wp_mono (h2 n0 wi Gi μi a w hfl hI) ?_),λa e=>by cases e⟩;rintro e a' w' ⟨rfl,hI'⟩;exact h4 n0 wi Gi μi a' w' hfl hI'
   | exit i =>
    refine⟨(.exit i,F1,H1),h1,λn0 wi Gi μi a w hfl hI=>wp_seq (wp_mono (h2 n0 wi Gi μi a w hfl hI) ?_),λa e=>by cases e⟩;rintro e a' w' ⟨rfl,hI'⟩;exact⟨rfl,hI'⟩
   | ret =>
    refine⟨(.ret,F1,H1),h1,λn0 wi Gi μi a w hfl hI=>wp_seq (wp_mono (h2 n0 wi Gi μi a w hfl hI) ?_),λa e=>by cases e⟩;rintro e a' w' ⟨rfl,hI'⟩;exact⟨rfl,hI'⟩
  | cond c x y =>
   simp only[s8]at h;split at h
   ·rename_i t ht;replace h:=zI h ht;have hc:∀ {n0 wi Gi μi a w},I n0 wi Gi μi nt F H a w->a.eval c=.bool t:=λhI=>by
     obtain⟨G,μ,e,hW,hF⟩:=hI;have hc:=aZ hF c;rwa[ht,VR]at hc
    cases t with
    | true =>
     obtain⟨r,h3,h4,-⟩:=ih x F H k z h;exact⟨r,h3,λn0 wi Gi μi a w hfl hI=>wp_cond (hc hI) (h4 n0 wi Gi μi a w hfl hI),λa e=>by cases e⟩
    | false =>
     obtain⟨r,h3,h4,-⟩:=ih y F H k z h;exact⟨r,h3,λn0 wi Gi μi a w hfl hI=>wp_cond (hc hI) (h4 n0 wi Gi μi a w hfl hI),λa e=>by cases e⟩
   ·cases h
  | block id x =>
   simp only[s8]at h;obtain⟨⟨ex,F1,H1⟩,h1,h2,-⟩:=ih x F H _ z h;cases ex with
   | normal =>
    refine⟨(.normal,F1,H1),h1,λn0 wi Gi μi a w hfl hI=>wp_block (wp_mono (h2 n0 wi Gi μi a w hfl hI) ?_),λa e=>by cases e⟩;rintro e a' w' ⟨rfl,hI'⟩;exact⟨rfl,hI'⟩
   | ret =>
    refine⟨(.ret,F1,H1),h1,λn0 wi Gi μi a w hfl hI=>wp_block (wp_mono (h2 n0 wi Gi μi a w hfl hI) ?_),λa e=>by cases e⟩;rintro e a' w' ⟨rfl,hI'⟩;exact⟨rfl,hI'⟩
   | exit i =>
    simp only at h1;cases hi:Nat.beq i id with
    | true =>
     rw[hi]at h1;have:=oE hi;subst this;refine⟨(.normal,F1,H1),h1,λn0 wi Gi μi a w hfl hI=>wp_block (wp_mono (h2 n0 wi Gi μi a w hfl hI) ?_),λa e=>by cases e⟩;rintro e a' w' ⟨rfl,hI'⟩;simp only[Ex.to,Exit.inBlock,if_true];exact⟨trivial,hI'⟩
    | false =>
     rw[hi]at h1;have hne:¬ i=id:=λe=>by rw[e]at hi; simp at hi
     refine⟨(.exit i,F1,H1),h1,λn0 wi Gi μi a w hfl hI=>wp_block (wp_mono (h2 n0 wi Gi μi a w hfl hI) ?_),λa e=>by cases e⟩;rintro e a' w' ⟨rfl,hI'⟩;simp only[Ex.to,Exit.inBlock,hne,if_false];exact⟨trivial,hI'⟩
  | loop x =>
   simp only[s8]at h;obtain⟨⟨ex,F1,H1⟩,h1,h2,-⟩:=ih x F H _ z h;obtain⟨r,h3,m,hm⟩:∃ r:Ex×Frm×Heap,k r.1 r.2.1 r.2.2=some z/\∃ m,aB3 P nt x r m F H:=by
    cases ex with
    | normal =>
     obtain⟨r,h3,h4,h5⟩:=ih (.loop x) F1 H1 k z h1;obtain⟨m,hm⟩:=h5 x rfl;exact⟨r,h3,m+1,.inr ⟨F1,H1,h2,hm⟩⟩
    | exit i=>exact⟨(.exit i,F1,H1),h1,1,.inl ⟨λe=>(by cases e),h2⟩⟩
    | ret=>exact⟨(.ret,F1,H1),h1,1,.inl ⟨λe=>(by cases e),h2⟩⟩
   exact⟨r,h3,aEQ hm,λa e=>by cases e; exact⟨m,hm⟩⟩
  | exit id=>exact⟨(.exit id,F,H),h,λ_ _ _ _ _ _ _ hI=>wp_exit ⟨rfl,hI⟩,λa e=>by cases e⟩
  | scope x =>
   simp only[s8]at h;obtain⟨⟨ex,F1,H1⟩,h1,h2,-⟩:=ih x F H k z h;refine⟨(ex,F1,H1),h1,λn0 wi Gi μi a w hfl hI=>wp_scope_straight (wp_mono (h2 n0 wi Gi μi a w hfl hI) ?_),λa e=>by cases e⟩;rintro e a' w' ⟨rfl,hI'⟩;cases ex <;> exact⟨rfl,hI'⟩
  | ret=>exact⟨(.ret,F,H),h,λ_ _ _ _ _ _ _ hI=>wp_ret ⟨rfl,hI⟩,λa e=>by cases e⟩
  | rangeFunc=>simp only[s8]at h; cases h
  | goto l=>simp only[s8]at h; cases h
  | refuse s=>simp only[s8]at h; cases h
def aMM(P:Program)(E:Env)(fn:Func)(aU:Nat)(hs:Nat->Option (Nat×Nat))(n:Nat)(c:Code)(args rets:List Kd)(x:aL args):Option (aL rets) :=
 bif Nat.ble (eX args x).length fn.ntmps then s8 P E fn.ntmps aU hs n c (start aU 0 (eX args x)) [] (NV P fn.results.toList rets) else none
theorem aP8 {E:Env} (hP:tW P) (hE:fC P E) {g:Nat} {fn:Func} (hg:P.funcs[g]?=some fn) {c:Code} (hc:fn.body=some c) {aU n:Nat} {hs:Nat->Option (Nat×Nat)} {args rets:List Kd} {f:aL args->Option (aL rets)}
  (hb:∀ x,aMM P E fn aU hs n c args rets x=f x):wO P g args rets f:=by
 intro x y hy;rw[<- hb]at hy;unfold aMM at hy;obtain⟨hlen,hy⟩:=aG hy;obtain⟨⟨ex,F',H'⟩,h1,h2,-⟩:=QH hE.callee hP.mixed n c _ _ _ _ hy;obtain⟨vs,q,hex,hvs,hq,hd⟩:∃ vs q,(ex=.normal\/ex=.ret)/\jF P F' H' fn.results.toList=some vs/\ZJ H' (cG vs)=some q/\V5 rets q=some y:=by
  unfold NV at h1;split at h1
  ·cases h1
  ·rename_i hne;split at h1
   ·rename_i vs hvs;split at h1
    ·rename_i q hq;refine⟨vs,q,?_,hvs,hq,h1⟩;cases ex with
     | normal=>exact .inl rfl
     | ret=>exact .inr rfl
     | exit i=>exact absurd rfl (hne i)
    ·cases h1
   ·cases h1
 have hcall:∀ {n0 G μ w us},aM n0 G μ [] w->VRs w G μ (eX args x) us->lN P n0 w G μ g us.toArray (cG vs) H':=by
  intro n0 G μ w us hW hv;refine⟨enters hg (hP.names g fn hg) (by rw[hc]; rfl) _ _,calls_of_wp hg hc ?_⟩;have hI:I n0 w G μ fn.ntmps (start aU 0 (eX args x)) [] ⟨us.toArray++Array.replicate (fn.ntmps-us.toArray.size) undef,[]⟩ w:=⟨G,μ,Ext.refl _ _ _ _,hW,lB (by simpa using hv) (oL hlen)⟩;refine wp_mono (h2 n0 w G μ _ w (λr=>hW.top r (Nat.zero_le _)) hI) ?_;rintro e a' w' ⟨rfl,G',μ',e',hW',hF'⟩;obtain⟨ws,h3,h4⟩:=gH (P:=P) hW' hF' hvs
  have hres:(results fn a'.tmps).run P w'=.ok (if hh:ws.toArray.size=1 then ws.toArray[0] else .tuple ws.toArray) w':=by
   rw[mR,Array.mapM_eq_mapM_toList];simp only[Sem.run_bind,Sem.run_map,h3,Result.andThen_ok,Sem.run_pure]
  have hpost:a'.defers=[]/\∃ v,(results fn a'.tmps).run P w'=.ok v w'/\(∃ v' G'' μ'',Ending.returned v=.returned v'/\Ext n0 w G μ w' G'' μ''/\aM n0 G'' μ'' H' w'/\VR w' G'' μ'' (cG vs) v') :=
   ⟨hF'.defers,_,hres,_,G',μ',rfl,e',hW',iH h4⟩
  rcases hex with rfl|rfl
  ·exact hpost
  ·exact hpost
 have hp:=uI hcall (pP hq).1 (pP hq).2;intro w G us hlt hv;obtain⟨h3,h4⟩:=hp w G us hlt hv;refine⟨h3,h4.mono ?_⟩;rintro e w' ⟨v',G',rfl,e1,e2,e3⟩;exact⟨v',G',rfl,e1,e2,BW hd e3⟩
end
open Go Go.RowKit Go.Proofs Tryz
theorem IG {τ:Type}(p:Nat->Prop) [DecidablePred p](g:Nat->τ):∀ l:List Nat,(l.findSome? λi=>if p i then some (g i) else none)=(l.find? λi=>decide (p i)).map g
 | []=>rfl
 | i::l=>by
  rw[List.findSome?_cons,List.find?_cons]
  by_cases h:p i
  ·simp[h]
  ·simp[h,IG p g l]
theorem aLG(j:Nat):(!(ltI (j:Int) 0))=true:=by rw[aI,oF (by omega)]; rfl
theorem aD2 {s:List Int}{i:Nat}(h:i<s.length):s.getD i 0∈s:=by rw[oQ,List.getElem?_eq_getElem h]; exact List.getElem_mem h
theorem aSW(v:Int):f60 (v,())=some (decide (-1000000000<=v/\v<=1000000000),()):=by
 unfold f60; dsimp only;simp only[aI,qD,bR]
 by_cases h:¬ v < -1000000000
 ·rw[if_pos h]
  by_cases h2:v<=1000000000
  ·rw[oT (show -1000000000<=v/\v<=1000000000 by omega),oT (show ¬ 1000000000<v by omega)]
  ·rw[oF (show ¬ (-1000000000<=v/\v<=1000000000)by omega),oF (show ¬ ¬ 1000000000<v by omega)]
 ·rw[if_neg h,oF (by omega)]
def okE(v:Int):Prop:=-1000000000<=v/\v<=1000000000
instance (v:Int):Decidable (okE v):=by unfold okE; infer_instance
theorem aTH(v:Int):f59 (v,())=some (decide (¬ okE v),()):=by
 unfold f59; dsimp only;rw[aSW,aC]
 by_cases h:okE v
 ·rw[oF (not_not_intro h)];unfold okE at h;rw[oT h]; rfl
 ·rw[oT h];unfold okE at h;rw[oF h]; rfl
def rc(r:List Int):Int:=if 64<r.length then 4 else if (∀ i,i<r.length->okE (r.getD i 0)) then 0 else 4
theorem H7(r:List Int):f37 (r,())=some (rc r,()):=by
 unfold f37 rc; dsimp only;simp only[aI,bR]
 by_cases h64:64<r.length
 ·rw[if_pos h64,if_pos (by omega)]
 ·rw[if_neg h64,if_neg (by omega)];have hloop:CJ (r,(),(r.length:Int),0,())=some ((((List.range r.length).find? λi=>decide (¬ okE (r.getD i 0))).map λi:Nat=>.inl ((i:Int),())).getD (.inr ())):=by
   rw[<- IG (λi=>¬ okE (r.getD i 0)) (λi:Nat=>Sum.inl ((i:Int),()))];refine LM (N:=2^64) (step:=wB) (λi=>(r,(),(r.length:Int),(i:Int),())) (λi=>if ¬ okE (r.getD i 0) then some (.inl ((i:Int),())) else none) r.length (.inr ()) (by omega) ?_ ?_
   ·intro i hi;simp only[wB,aI,dE,aX,qD,bR,oN];rw[if_pos (by omega),if_pos (by omega),aTH,aC,c8 i (by omega),bR]
    by_cases h:¬ okE (r.getD i 0)
    ·rw[if_pos h,if_pos h]
    ·rw[if_neg h,if_neg h]
   ·simp only[wB,aI,bR];rw[if_neg (by omega)]
  have h70:L4 (r,(),())=some ((((List.range r.length).find? λi=>decide (¬ okE (r.getD i 0))).map λi:Nat=>(i:Int)).getD (-1),()):=by
   unfold L4; dsimp only;rw[hloop,aC];cases (List.range r.length).find? λi=>decide (¬ okE (r.getD i 0)) <;> rfl
  unfold TI; dsimp only;rw[h70,aC];cases hf:(List.range r.length).find? λi=>decide (¬ okE (r.getD i 0))with
  | none =>
   rw[if_pos (λi hi=>by
    have:=List.find?_eq_none.1 hf i (List.mem_range.2 hi);simpa using this)]
   rfl
  | some i =>
   rw[if_neg (λhall=>by
    have h1:=List.find?_some hf;have h2:=List.mem_range.1 (List.mem_of_find?_eq_some hf);simp only[decide_eq_true_eq]at h1;exact h1 (hall i h2))]
   show (aB (some (!(ltI ((i:Nat):Int) 0),())) λy1=>bif y1.1 then some (4,()) else some (0,()))=_;rw[aC,aLG]; rfl
theorem VO(a b:List Int) (ha:a.length<=9223372036854775806):f46 (a,b,())=some (decide (a=b),()):=by
 unfold f46; dsimp only;simp only[dE,qD,bR]
 by_cases hl:a.length=b.length
 ·rw[if_neg (by omega)];have:L6 (a,b,(a.length:Int),0,())=some (((List.range a.length).findSome? λi=>if ¬ a.getD i 0=b.getD i 0 then some (.inl (false,())) else none).getD (.inr ())):=LM (N:=2^64) (step:=IE) (λi=>(a,b,(a.length:Int),(i:Int),())) (λi=>if ¬ a.getD i 0=b.getD i 0 then some (.inl (false,())) else none) a.length (.inr ()) (by omega) (by
   intro i hi;simp only[IE,aI,dE,aX,bR,qD,oN];rw[if_pos (by omega),if_pos ⟨by omega,by omega⟩,if_pos ⟨by omega,by omega⟩,c8 i (by omega)]
   by_cases h:¬ a.getD i 0=b.getD i 0
   ·rw[if_pos h,if_pos h]
   ·rw[if_neg h,if_neg h]) (by
   simp only[IE,aI,bR];rw[if_neg (by omega)])
  rw[this,IG (λi=>¬ a.getD i 0=b.getD i 0),aC];cases hf:(List.range a.length).find? λi=>decide (¬ a.getD i 0=b.getD i 0)with
  | none =>
   have hall:∀ i,i<a.length->a.getD i 0=b.getD i 0:=by
    intro i hi;have:=List.find?_eq_none.1 hf i (List.mem_range.2 hi);simpa using this
   have:a=b:=by
    apply List.ext_getElem hl;intro i h1 h2;have:=hall i h1;rw[oQ,oQ,List.getElem?_eq_getElem h1,List.getElem?_eq_getElem h2]at this;exact this
   rw[oT this]; rfl
  | some i =>
   have h1:=List.find?_some hf;have:¬ a=b:=λe=>by subst e; simp at h1
   rw[oF this]; rfl
 ·rw[if_pos (by omega),oF];rintro rfl; exact hl rfl
theorem aAF(a b:List Int)(ha:a.length<=9223372036854775806):f43 (a,b,())=some (decide (a=b),()):=by
 unfold f43; dsimp only;rw[VO a b ha,aC]
abbrev Lay:Type:=Int×List Int×List Int×List Int
def ShL(l:Lay):Prop:=l.2.1.length<=1000/\l.2.2.1.length<=1000/\l.2.2.2.length<=1000
theorem aW8 {a:Lay}(b:Lay)(h:ShL a):f19 (a,b,())=some (decide (a=b),()):=by
 obtain⟨k,o,r,u⟩:=a;obtain⟨k',o',r',u'⟩:=b;obtain⟨h1,h2,h3⟩:=h;dsimp only at h1 h2 h3;unfold f19; dsimp only;rw[aAF _ _ (by omega),aAF _ _ (by omega),aAF _ _ (by omega),aC,aC,aC];simp only[dE,bR,oP]
 by_cases e1:k=k'
 ·by_cases e2:o=o'
  ·by_cases e3:r=r'
   ·simp[e1,e2,e3]
   ·simp[e1,e2,e3]
  ·simp[e1,e2]
 ·simp[e1]
theorem aTF {a:Lay}(b:Lay)(h:ShL a):f25 (a,b,())=some (decide (a=b),()):=by
 obtain⟨k,o,r,u⟩:=a;obtain⟨k',o',r',u'⟩:=b;obtain⟨h1,h2,h3⟩:=h;dsimp only at h1 h2 h3;unfold f25; dsimp only;rw[VO _ _ (by omega),VO _ _ (by omega),VO _ _ (by omega),aC,aC,aC];simp only[dE,bR,oP]
 by_cases e1:k=k'
 ·by_cases e2:o=o'
  ·by_cases e3:r=r'
   ·simp[e1,e2,e3]
   ·simp[e1,e2,e3]
  ·simp[e1,e2]
 ·simp[e1]
abbrev zL:Lay:=(0,[],[],[])
def ce(l:Lay):Int :=
 if ¬ l.1=1/\¬ l.1=2 then 12 else
 if ¬ rc l.2.1=0 then rc l.2.1 else
 if ¬ rc l.2.2.1=0 then rc l.2.2.1 else if ¬ (l.2.2.1.length:Int)=l.2.1.length then 5 else
 if ¬ rc l.2.2.2=0 then rc l.2.2.2 else if ¬ (l.2.2.2.length:Int)=l.2.1.length then 5 else 0
def ce3(l:Lay):Option Int :=
 if ¬ rc l.2.1=0 then some (rc l.2.1) else
 if ¬ rc l.2.2.1=0 then some (rc l.2.2.1) else if ¬ (l.2.2.1.length:Int)=l.2.1.length then some 5 else
 if ¬ rc l.2.2.2=0 then some (rc l.2.2.2) else if ¬ (l.2.2.2.length:Int)=l.2.1.length then some 5 else none
def aXM:Option Int->Sum (Int×Unit) Unit
 | some e=>.inl (e,())
 | none=>.inr ()
theorem aV7(l:Lay):ce l=if ¬ l.1=1/\¬ l.1=2 then 12 else (ce3 l).getD 0:=by
 unfold ce ce3
 repeat' split
 all_goals rfl
theorem aI8(l:Lay):G6 (l,(l.2.1,l.2.2.1,l.2.2.2),0,())=some (aXM (ce3 l)):=by
 obtain⟨k,o,r,u⟩:=l;have s0:xF ((k,o,r,u),(o,r,u),0,())=if ¬ rc o=0 then some (.inr (.inl (rc o,()))) else some (.inl ((k,o,r,u),(o,r,u),1,())):=by
  simp only[xF,aI,dE,qD,bR];rw[if_pos (by decide),if_pos trivial,H7,aC];dsimp only
  by_cases h:rc o=0
  ·rw[if_neg (not_not_intro h),if_neg (not_not_intro trivial),if_neg (not_not_intro h)]; rfl
  ·rw[if_pos h,if_pos h]
 have s1:xF ((k,o,r,u),(o,r,u),1,())=if ¬ rc r=0 then some (.inr (.inl (rc r,()))) else if ¬ (r.length:Int)=o.length then some (.inr (.inl (5,()))) else some (.inl ((k,o,r,u),(o,r,u),2,())):=by
  simp only[xF,aI,dE,qD,bR];rw[if_pos (by decide),if_neg (by decide),if_pos trivial,H7,aC];rfl
 have s2:xF ((k,o,r,u),(o,r,u),2,())=if ¬ rc u=0 then some (.inr (.inl (rc u,()))) else if ¬ (u.length:Int)=o.length then some (.inr (.inl (5,()))) else some (.inl ((k,o,r,u),(o,r,u),3,())):=by
  simp only[xF,aI,dE,qD,bR];rw[if_pos (by decide),if_neg (by decide),if_neg (by decide),if_pos trivial,H7,aC];rfl
 have s3:xF ((k,o,r,u),(o,r,u),3,())=some (.inr (.inr ())):=rfl;unfold G6 ce3;dsimp only;rw[show (2:Nat)^64=18446744073709551612+1+1+1+1 from rfl,bD,s0]
 by_cases h0:rc o=0
 ·rw[if_neg (not_not_intro h0),if_neg (not_not_intro h0)];dsimp only;rw[bD,s1]
  by_cases h1:rc r=0
  ·rw[if_neg (not_not_intro h1),if_neg (not_not_intro h1)]
   by_cases h2:(r.length:Int)=o.length
   ·rw[if_neg (not_not_intro h2),if_neg (not_not_intro h2)];dsimp only;rw[bD,s2]
    by_cases h3:rc u=0
    ·rw[if_neg (not_not_intro h3),if_neg (not_not_intro h3)]
     by_cases h4:(u.length:Int)=o.length
     ·rw[if_neg (not_not_intro h4),if_neg (not_not_intro h4)];dsimp only;rw[bD,s3]; rfl
     ·rw[if_pos h4,if_pos h4]; rfl
    ·rw[if_pos h3,if_pos h3]; rfl
   ·rw[if_pos h2,if_pos h2]; rfl
  ·rw[if_pos h1,if_pos h1]; rfl
 ·rw[if_pos h0,if_pos h0]; rfl
theorem aM6(l:Lay):f24 (l,())=some (ce l,()):=by
 have hl:=aI8 l;rw[aV7];obtain⟨k,o,r,u⟩:=l;unfold f24;dsimp only at hl ⊢;simp only[dE,qD,bR,hl,aC]
 by_cases h1:k=1
 ·rw[if_neg (by omega),if_neg (by omega)];cases ce3 (k,o,r,u) <;> rfl
 ·by_cases h2:k=2
  ·rw[if_pos h1,if_neg (by omega),if_neg (by omega)];cases ce3 (k,o,r,u) <;> rfl
  ·rw[if_pos h1,if_pos h2,if_pos ⟨h1,h2⟩]
def mxE(a b:Int) (r s:List Int) (i:Nat):Int:=aH .i64 (aH .i64 (a*r.getD i 0)+aH .i64 (b*s.getD i 0))
def mx(a b:Int)(r s:List Int):List Int:=(List.range r.length).map (mxE a b r s)
theorem EF(a b:Int)(r s:List Int):(mx a b r s).length=r.length:=by simp[mx]
theorem TV {a b:Int}{r s:List Int}(hl:s.length=r.length)(hr:r.length<=1000):f65 (r,s,a,b,())=some (mx a b r s,()):=by
 have hloop:UH (r,s,a,b,[],(r.length:Int),0,())=some (mx a b r s,()):=by
  refine c7 (N:=2^64) (step:=N0) (λi=>(r,s,a,b,(List.range i).map (mxE a b r s),(r.length:Int),(i:Int),())) r.length _ (by omega) ?_ ?_
  ·intro i hi;simp only[N0,aI,aX,gP,bR,oN,List.length_map,List.length_range,List.length_singleton];rw[if_pos (by omega),if_pos (by omega),if_pos (by omega),if_pos (by omega),if_pos (by omega),c8 i (by omega),List.range_succ,List.map_append];rfl
  ·simp only[N0,aI,bR];rw[if_neg (by omega)];rfl
 unfold f65; dsimp only;rw[hloop,aC]
def trn(l:Lay) (g:S4):Lay:=(l.1,l.2.1,mx g.1 g.2.2.1 l.2.2.1 l.2.2.2,mx g.2.1 g.2.2.2 l.2.2.1 l.2.2.2)
theorem aL2 {l:Lay}(g:S4)(h0:l.2.1.length<=1000)(h1:l.2.2.2.length=l.2.2.1.length)(h2:l.2.2.1.length<=1000):f40 (l,g,())=some (trn l g,()):=by
 obtain⟨k,o,r,u⟩:=l;obtain⟨a,b,c,d⟩:=g;dsimp only at h0 h1 h2;unfold f40; dsimp only;have hc:aKS (o,())=some (o,()):=by
  unfold aKS; dsimp only;rw[gP,bR,if_pos (by omega)]
 rw[hc,aC,TV h1 h2,aC,TV h1 h2,aC];rfl
theorem aJW(l:Lay)(z:Lay):H9 (l,z,(l.2.1,l.2.2.1,l.2.2.2),0,())=some (if rc l.2.1=0/\rc l.2.2.1=0/\rc l.2.2.2=0 then .inr (l,z,()) else .inl (zL,4,())):=by
 obtain⟨k,o,r,u⟩:=l;obtain⟨k',o',r',u'⟩:=z;have s0:wG ((k,o,r,u),(k',o',r',u'),(o,r,u),0,())=if ¬ rc o=0 then some (.inr (.inl (zL,4,()))) else some (.inl ((k,o,r,u),(k',o',r',u'),(o,r,u),1,())):=by
  simp only[wG,aI,dE,qD,bR];rw[if_pos (by decide),if_pos trivial,H7,aC];rfl
 have s1:wG ((k,o,r,u),(k',o',r',u'),(o,r,u),1,())=if ¬ rc r=0 then some (.inr (.inl (zL,4,()))) else some (.inl ((k,o,r,u),(k',o',r',u'),(o,r,u),2,())):=by
  simp only[wG,aI,dE,qD,bR];rw[if_pos (by decide),if_neg (by decide),if_pos trivial,H7,aC];rfl
 have s2:wG ((k,o,r,u),(k',o',r',u'),(o,r,u),2,())=if ¬ rc u=0 then some (.inr (.inl (zL,4,()))) else some (.inl ((k,o,r,u),(k',o',r',u'),(o,r,u),3,())):=by
  simp only[wG,aI,dE,qD,bR];rw[if_pos (by decide),if_neg (by decide),if_neg (by decide),if_pos trivial,H7,aC];rfl
 have s3:wG ((k,o,r,u),(k',o',r',u'),(o,r,u),3,())=some (.inr (.inr ((k,o,r,u),(k',o',r',u'),()))):=rfl;unfold H9;dsimp only;rw[show (2:Nat)^64=18446744073709551612+1+1+1+1 from rfl,bD,s0]
 by_cases h0:rc o=0
 ·rw[if_neg (not_not_intro h0)];dsimp only;rw[bD,s1]
  by_cases h1:rc r=0
  ·rw[if_neg (not_not_intro h1)];dsimp only;rw[bD,s2]
   by_cases h3:rc u=0
   ·rw[if_neg (not_not_intro h3)];dsimp only;rw[bD,s3,if_pos ⟨h0,h1,h3⟩]
   ·rw[if_pos h3,if_neg λh=>h3 h.2.2]
  ·rw[if_pos h1,if_neg λh=>h1 h.2.1]
 ·rw[if_pos h0,if_neg λh=>h0 h.1]
theorem aTB(l:Lay):f39 (l,())=some (if rc l.2.1=0/\rc l.2.2.1=0/\rc l.2.2.2=0 then (l,0,()) else (zL,4,())):=by
 have:=aJW l zL;obtain⟨k,o,r,u⟩:=l;unfold f39;dsimp only at this ⊢;rw[show (H9 ((k,o,r,u),((0,[],[],[]):Lay),(o,r,u),0,()))=_ from this,aC]
 by_cases h:rc o=0/\rc r=0/\rc u=0
 ·rw[if_pos h,if_pos h]; rfl
 ·rw[if_neg h,if_neg h]; rfl
def pC(k:Int):List (Int×Int):=if k=2 then aH2 else aHK
def iM(k:Int):List S4:=if k=2 then aAO else aBF
theorem aSX(k:Int):f61 (k,())=some (pC k,()):=by
 unfold f61 pC; dsimp only;rw[dE,bR]
 by_cases h:k=2
 ·rw[if_pos h,if_pos h]; rfl
 ·rw[if_neg h,if_neg h]; rfl
theorem aFN(k:Int):f38 (k,())=some ((pC k,()),()):=by
 unfold f38; dsimp only;rw[aSX,aC]
theorem P1(k:Int):CH (pC k,())=some ((iM k).map λg=>(g,())):=by
 unfold pC iM
 by_cases h:k=2
 ·rw[if_pos h,if_pos h]; rfl
 ·rw[if_neg h,if_neg h]; rfl
set_option maxHeartbeats 4000000
def aXB(v0:Ty.den (.prod .bool (.prod (.int .u8) (.prod (.prod (.int .i8) (.prod (.int .i8) (.int .i8))) (.prod (.prod (.int .i8) (.prod (.int .i8) (.int .i8))) (.prod (.int .i8) (.prod (.int .i8) (.int .i8))))))))(t:Int):Option (aL [.agg TyA]) :=
  bif v0.1 then
   bif eqI t 0 then some ((2,([],[],[])),())
   else bif eqI t 1 then some ((2,([(Int.tmod (IntKind.wrap .i64 v0.2.2.1.1) 10)],[(Int.tmod (IntKind.wrap .i64 v0.2.2.2.1.1) 10)],[(Int.tmod (IntKind.wrap .i64 v0.2.2.2.2.1) 10)])),())
   else bif eqI t 2 then some ((2,([(Int.tmod (IntKind.wrap .i64 v0.2.2.1.1) 10),(Int.tmod (IntKind.wrap .i64 v0.2.2.1.2.1) 10)],[(Int.tmod (IntKind.wrap .i64 v0.2.2.2.1.1) 10),(Int.tmod (IntKind.wrap .i64 v0.2.2.2.1.2.1) 10)],[(Int.tmod (IntKind.wrap .i64 v0.2.2.2.2.1) 10),(Int.tmod (IntKind.wrap .i64 v0.2.2.2.2.2.1) 10)])),())
   else bif eqI t 3 then some ((2,([(Int.tmod (IntKind.wrap .i64 v0.2.2.1.1) 10),(Int.tmod (IntKind.wrap .i64 v0.2.2.1.2.1) 10),(Int.tmod (IntKind.wrap .i64 v0.2.2.1.2.2) 10)],[(Int.tmod (IntKind.wrap .i64 v0.2.2.2.1.1) 10),(Int.tmod (IntKind.wrap .i64 v0.2.2.2.1.2.1) 10),(Int.tmod (IntKind.wrap .i64 v0.2.2.2.1.2.2) 10)],[(Int.tmod (IntKind.wrap .i64 v0.2.2.2.2.1) 10),(Int.tmod (IntKind.wrap .i64 v0.2.2.2.2.2.1) 10),(Int.tmod (IntKind.wrap .i64 v0.2.2.2.2.2.2) 10)])),())
   else none
  else
   bif eqI t 0 then some ((1,([],[],[])),())
   else bif eqI t 1 then some ((1,([(Int.tmod (IntKind.wrap .i64 v0.2.2.1.1) 10)],[(Int.tmod (IntKind.wrap .i64 v0.2.2.2.1.1) 10)],[(Int.tmod (IntKind.wrap .i64 v0.2.2.2.2.1) 10)])),())
   else bif eqI t 2 then some ((1,([(Int.tmod (IntKind.wrap .i64 v0.2.2.1.1) 10),(Int.tmod (IntKind.wrap .i64 v0.2.2.1.2.1) 10)],[(Int.tmod (IntKind.wrap .i64 v0.2.2.2.1.1) 10),(Int.tmod (IntKind.wrap .i64 v0.2.2.2.1.2.1) 10)],[(Int.tmod (IntKind.wrap .i64 v0.2.2.2.2.1) 10),(Int.tmod (IntKind.wrap .i64 v0.2.2.2.2.2.1) 10)])),())
   else bif eqI t 3 then some ((1,([(Int.tmod (IntKind.wrap .i64 v0.2.2.1.1) 10),(Int.tmod (IntKind.wrap .i64 v0.2.2.1.2.1) 10),(Int.tmod (IntKind.wrap .i64 v0.2.2.1.2.2) 10)],[(Int.tmod (IntKind.wrap .i64 v0.2.2.2.1.1) 10),(Int.tmod (IntKind.wrap .i64 v0.2.2.2.1.2.1) 10),(Int.tmod (IntKind.wrap .i64 v0.2.2.2.1.2.2) 10)],[(Int.tmod (IntKind.wrap .i64 v0.2.2.2.2.1) 10),(Int.tmod (IntKind.wrap .i64 v0.2.2.2.2.2.1) 10),(Int.tmod (IntKind.wrap .i64 v0.2.2.2.2.2.2) 10)])),())
   else none
def f29(x:aL [.agg (.prod .bool (.prod (.int .u8) (.prod (.prod (.int .i8) (.prod (.int .i8) (.int .i8))) (.prod (.prod (.int .i8) (.prod (.int .i8) (.int .i8))) (.prod (.int .i8) (.prod (.int .i8) (.int .i8)))))))]):oK [.agg TyA]:=match x with
 | (v0,())=>aXB v0 (IntKind.wrap .i64 (Int.tmod v0.2.1 4))
def c29:Code:=cM f5
abbrev E29:Env:=qK []
theorem aOK:fC Tryz.prog E29:=aQ trivial
def aWE(id:Nat):Option (Nat×Nat):=bif Nat.beq id 4 then some (4,4) else none
theorem aS3:∀ x,aMM Tryz.prog E29 f5 (bO f5) aWE 60 c29 [.agg (.prod .bool (.prod (.int .u8) (.prod (.prod (.int .i8) (.prod (.int .i8) (.int .i8))) (.prod (.prod (.int .i8) (.prod (.int .i8) (.int .i8))) (.prod (.int .i8) (.prod (.int .i8) (.int .i8)))))))] [.agg TyA] x=f29 x:=by
 rintro⟨⟨a,b,⟨c,d,e⟩,⟨f,g,h⟩,⟨i,j,k⟩⟩,⟨⟩⟩
 kernel_rfl
abbrev e29:Ent:=⟨5,_,_,f29⟩
theorem aUM:Ent.OK Tryz.prog e29:=aP8 aV aOK func5 (c:=c29) (by kernel_rfl) aS3
end Go.PM
namespace Go.PM
open Go Go.RowKit Go.Proofs
set_option maxHeartbeats 4000000
end Go.PM
namespace Go.PM
open Go Go.RowKit Go.Proofs
def Sm(B:Int) (r:List Int):Prop:=∀ v∈r,-B<=v/\v<=B
structure D5 (B:Int) (l:Lay):Prop where
 kind:l.1=1\/l.1=2
 len:l.2.1.length<=3
 right:l.2.2.1.length=l.2.1.length
 up:l.2.2.2.length=l.2.1.length
 o:Sm B l.2.1
 r:Sm B l.2.2.1
 u:Sm B l.2.2.2
theorem Sm.get {B:Int}{r:List Int}(h:Sm B r){i:Nat}(hi:i<r.length) : -B<=r.getD i 0/\r.getD i 0<=B:=h _ (aD2 hi)
theorem wV {r:List Int}{B:Int}(h:Sm B r)(hB:B<=1000000000)(hl:r.length<=64):rc r=0:=by
 unfold rc;rw[if_neg (by omega),if_pos];intro i hi;have:=h.get hi;unfold okE;omega
theorem SD {B:Int}{l:Lay}(h:D5 B l)(hB:B<=1000000000):ce l=0:=by
 have h1:=h.len;have h2:=h.right;have h3:=h.up;have e1:rc l.2.1=0:=wV h.o hB (by omega);have e2:rc l.2.2.1=0:=wV h.r hB (by omega);have e3:rc l.2.2.2=0:=wV h.u hB (by omega);have hk:=h.kind;unfold ce;simp only[e1,e2,e3,h2,h3];rcases hk with hk|hk <;> simp[hk]
def xN(g:S4):Prop:=(-1<=g.1/\g.1<=1)/\(-1<=g.2.1/\g.2.1<=1)/\(-1<=g.2.2.1/\g.2.2.1<=1)/\(-1<=g.2.2.2/\g.2.2.2<=1)
instance (g:S4):Decidable (xN g):=by unfold xN; infer_instance
theorem I8 {k:Int}{g:S4}(h:g∈iM k):xN g:=by
 have h4:∀ g∈aBF,xN g:=by decide
 have h6:∀ g∈aAO,xN g:=by decide
 unfold iM at h;split at h
 ·exact h6 g h
 ·exact h4 g h
theorem aEA {a x B:Int}(ha : -1<=a/\a<=1)(hx : -B<=x/\x<=B) : -B<=a*x/\a*x<=B:=by rcases(by omega:a = -1\/a=0\/a=1)with rfl|rfl|rfl <;> omega
theorem T3 {a b B:Int}{r s:List Int}{i:Nat}(ha : -1<=a/\a<=1)(hb : -1<=b/\b<=1)(hr : -B<=r.getD i 0/\r.getD i 0<=B)(hs : -B<=s.getD i 0/\s.getD i 0<=B)(hB:B<=1000000000) :
  mxE a b r s i=a*r.getD i 0+b*s.getD i 0/\-(2*B)<=mxE a b r s i/\mxE a b r s i<=2*B:=by
 have h1:=aEA ha hr;have h2:=aEA hb hs;have:mxE a b r s i=a*r.getD i 0+b*s.getD i 0:=by
  unfold mxE;rw[wrap64 (x:=a*r.getD i 0) (by omega) (by omega),wrap64 (x:=b*s.getD i 0) (by omega) (by omega),wrap64 (by omega) (by omega)]
 rw[this];omega
theorem L7 {a b B:Int}{r s:List Int}(ha : -1<=a/\a<=1)(hb : -1<=b/\b<=1)(hr:Sm B r)(hs:Sm B s)(hl:s.length=r.length)(hB:B<=1000000000):Sm (2*B) (mx a b r s):=by
 intro v hv;unfold mx at hv;obtain⟨i,hi,rfl⟩:=List.mem_map.1 hv;have hi:=List.mem_range.1 hi;exact(T3 ha hb (hr.get hi) (hs.get (by omega)) hB).2
theorem DZ {B:Int}{l:Lay}{g:S4}(h:D5 B l)(hg:xN g)(hB0:0<=B)(hB:B<=1000000000):D5 (2*B) (trn l g):=by
 have h1:=h.right;have h2:=h.up;refine⟨h.kind,h.len,by show (mx _ _ _ _).length=_; rw[EF]; exact h1,by show (mx _ _ _ _).length=_; rw[EF]; exact h1,?_,?_,?_⟩
 ·intro v hv;have:=h.o v hv;omega
 ·exact L7 hg.1 hg.2.2.1 h.r h.u (by omega) hB
 ·exact L7 hg.2.1 hg.2.2.2 h.r h.u (by omega) hB
theorem XX {k:Int}:0<(iM k).length:=by unfold iM; split <;> decide
end Go.PM
namespace Go.PM
open Go Go.RowKit
def aF5(P:Program)(E:Env)(fn:Func)(aU:Nat)(lt rt:Nat->Option bT)(c:Code)(ae:TypeId)(t:Ty) args rets (x:aL args):Option (aL rets) :=
 bif Nat.ble (eX args x).length fn.ntmps then sC P E fn.ntmps aU lt rt false [] c (start aU 0 (eX args x)) [some (arB ae t [])] (NV P fn.results.toList rets) else none
section
variable {P:Program}
theorem aUW {E} (hP:tW P) (hE:fC P E) {g:Nat} {fn} (hg:P.funcs[g]?=some fn) {c} (hc:fn.body=some c) {aU lt rt ae t args rets f}
  (hl:∀ a∈bP c,CB P fn.ntmps lt rt false [] a) (hb:∀ x,aF5 P E fn aU lt rt c ae t args rets x=f x):wO P g args rets f:=by
 intro x y hy;rw[<- hb]at hy;unfold aF5 at hy;obtain⟨hlen,hy⟩:=aG hy;obtain⟨⟨ex,F',H'⟩,h1,h2⟩:=gR hE.callee hP.mixed c _ _ _ _ hl hy;obtain⟨vs,q,hex,hvs,hq,hd⟩:∃ vs q,(ex=.normal\/ex=.ret)/\jF P F' H' fn.results.toList=some vs/\ZJ H' (cG vs)=some q/\V5 rets q=some y:=by
  unfold NV at h1;split at h1
  ·cases h1
  ·rename_i hne;split at h1
   ·rename_i vs hvs;split at h1
    ·rename_i q hq;refine⟨vs,q,?_,hvs,hq,h1⟩;cases ex with
     | normal=>exact .inl rfl
     | ret=>exact .inr rfl
     | exit i=>exact absurd rfl (hne i)
    ·cases h1
   ·cases h1
 obtain⟨hq1,hq2⟩:=pP hq;intro w G us hlt hv;have at0:∀ (s:Nat) (k1:Blk),([some (arB ae t [])]:Heap)[s]?=some (some k1)->s=0/\k1=arB ae t []:=by
  intro s k1 hs;cases s with
  | zero=>simp only[List.getElem?_cons_zero,oJ]at hs; exact⟨rfl,hs.symm⟩
  | succ s=>simp at hs
 have hW:aM (nO w) (Gd.of G) ⟨λ_=>none,λr=>if r=0 then some 0 else none,λ_=>0⟩ [some (arB ae t [])] w:=by
  refine⟨(λr k b h hb=>by cases hb),(λr k g h hg=>?_),(λr s k l b h _ _ _ hb=>by cases hb),hlt,(λr hr=>⟨rfl,?_⟩),λ_ h=>h,⟨(λ_ _ _ h=>by cases h),(λ_ _ h=>by cases h),(λ_ _ h=>by cases h),(λr k u l h hgr ht=>?_),(λr s k k' u l u' l' h1 g1 t1 h2 g2 t2=>by rw[(at0 r k h1).1,(at0 s k' h2).1])⟩⟩
  ·obtain⟨rfl,rfl⟩:=at0 r k h;cases hg;exact⟨rfl,rfl⟩
  ·have:r≠0:=by rintro rfl; simp at hr
   simp[this]
  ·obtain⟨rfl,rfl⟩:=at0 r k h;cases ht;exact⟨rfl,λ_ _=>rfl,λj row hj=>by simp at hj⟩
 have e0:Ext (nO w) w (Gd.of G) aF w (Gd.of G) ⟨λ_=>none,λr=>if r=0 then some 0 else none,λ_=>0⟩ :=
  ⟨⟨λb hb=>⟨hb,rfl⟩,λ_ _ h=>(by cases h),λ_ _ h=>(by cases h),λ_ _ h=>h,λ_ _ h=>h,λ_ _ h=>(by cases h)⟩,rfl,rfl,rfl,oM _,λ_ _ _=>rfl,λ_ h=>.inl h⟩
 refine⟨enters hg (hP.names g fn hg) (by rw[hc]; rfl) _ _,(callsIn_wide (n:=0)).1 (callsIn_of_wp_marks hg hc trivial ?_)⟩;have hI:I (nO w) w (Gd.of G) aF fn.ntmps (start aU 0 (eX args x)) [some (arB ae t [])] ⟨us++Array.replicate (fn.ntmps-us.size) undef,[]⟩ w:=⟨Gd.of G,_,e0,hW,lB hv.aP (oL hlen)⟩;refine wpIn_mono (h2 none 0 _ w (Gd.of G) aF _ w (λ_=>rfl) (λr _=>⟨rfl,rfl⟩) hI.aUK) ?_;rintro e1 ⟨tm,ds⟩ w' ⟨rfl,hI',_⟩
 have hend:∀ w',IM (nO w) w (Gd.of G) aF fn.ntmps F' H' { tmps:=tm,defers:=[] } w'->LeavesIn Fence.wide 0 P fn tm (λen w'=>∃ v' G',en=.returned v'/\Ext (nO w) w (Gd.of G) aF w' (Gd.of G') aF/\(∀ b,G' b->b<w'.heap.size)/\VR w' (Gd.of G') aF (VA rets y) v') [] .returning w':=by
  rintro w' ⟨G1,μ1,e1,e2,hF',_⟩;obtain⟨ws,h3,h4⟩:=gH (P:=P) e2 hF' hvs;have hres:(results fn tm).run P w'=.ok (if hh:ws.toArray.size=1 then ws.toArray[0] else .tuple ws.toArray) w':=by
   rw[mR,Array.mapM_eq_mapM_toList];simp only[Sem.run_bind,Sem.run_map,h3,Result.andThen_ok,Sem.run_pure]
  have hval:=xI (G:=⟨λb=>G1 b\/∃ r k,H'[r]?=some (some k)/\μ1.loc r=some b,G1.row⟩) (G':=Gd.of λb=>G1 b\/∃ r k,H'[r]?=some (some k)/\μ1.loc r=some b) (λb h=>h) _ _ _ hq2
    (tA (G':=⟨λb=>G1 b\/∃ r k,H'[r]?=some (some k)/\μ1.loc r=some b,G1.row⟩) e2 (λ_ _ h=>h) (λb hb=>.inl hb) (λr k b hr _ hb=>.inr ⟨r,k,hr,hb⟩) depth _ q _ hq1 (iH h4))
  have hext:Ext (nO w) w (Gd.of G) aF w' (Gd.of λb=>G1 b\/∃ r k,H'[r]?=some (some k)/\μ1.loc r=some b) aF:={
   bS:=λb hb=>⟨.inl (e1.bS b hb).1,(e1.bS b hb).2⟩
   map:=λ_ _ h=>h
   len:=λ_ _ h=>h
   room:=e1.room
   row:=λ_ _ h=>h
   os:=e1.os
   tape:=e1.tape
   output:=e1.output
   size:=e1.size
   old:=e1.old
   new:=λb hb=>by
    rcases hb with hb|⟨r,k,hr,hb⟩
    ·exact e1.new b hb
    ·obtain⟨c,_,_,_,g5,g6⟩:=e2.blk r k b hr hb;cases hf:k.frozen with
     | true=>exact e1.new b (g5 hf)
     | false=>exact .inr (g6 hf).1 }
  have hlt':∀ b,(G1 b\/∃ r k,H'[r]?=some (some k)/\μ1.loc r=some b)->b<w'.heap.size:=by
   rintro b (hb|⟨r,k,hr,hb⟩)
   ·exact e2.lt b hb
   ·exact e2.hZ hr hb
  exact⟨_,hres,_,_,rfl,hext,hlt',BW hd hval⟩
 rcases hex with rfl|rfl
 ·exact o5 (λb hb=>hW.base b hb) hend ds w' hI'
 ·exact o5 (λb hb=>hW.base b hb) hend ds w' hI'
end
end Go.PM
namespace Go.Proofs
open Go.Shelf Tryz
def Tryz.V0:Go.Shelf.Ren:=⟨fun|6=>17|14=>37|15=>38|20=>51|21=>52|22=>53|23=>54|24=>55|25=>56|26=>57|27=>58|28=>59|29=>60|46=>77|47=>78|48=>79|49=>80|50=>81|57=>107|n=>n,fun|0=>0|3=>3|4=>4|5=>5|9=>9|22=>33|24=>31|25=>60|39=>89|45=>107|46=>108|50=>112|53=>115|55=>117|66=>149|70=>153|76=>179|77=>180|n=>n,fun|n=>n⟩
theorem Tryz.aK1:Go.Proofs.SlLaysF0.n6 Tryz.prog Tryz.V0:={
 mixed:=by kernel_rfl
 f6:=⟨f17.name,by decide,func17.trans (congrArg some (by kernel_rfl))⟩
 f14:=⟨Tryz.f37.name,by decide,func37.trans (congrArg some (by kernel_rfl))⟩
 f15:=func38.trans (congrArg some (by kernel_rfl))
 f20:=⟨Tryz.f51.name,by decide,func51.trans (congrArg some (by kernel_rfl))⟩
 f21:=⟨Tryz.f52.name,by decide,func52.trans (congrArg some (by kernel_rfl))⟩
 f22:=⟨Tryz.f53.name,by decide,func53.trans (congrArg some (by kernel_rfl))⟩
 f23:=⟨f54.name,by decide,func54.trans (congrArg some (by kernel_rfl))⟩
 f24:=⟨f55.name,by decide,func55.trans (congrArg some (by kernel_rfl))⟩
 f25:=⟨f56.name,by decide,func56.trans (congrArg some (by kernel_rfl))⟩
 f26:=⟨Tryz.f57.name,by decide,func57.trans (congrArg some (by kernel_rfl))⟩
 f27:=⟨f58.name,by decide,func58.trans (congrArg some (by kernel_rfl))⟩
 f28:=func59.trans (congrArg some (by kernel_rfl))
 f29:=func60.trans (congrArg some (by kernel_rfl))
 f46:=⟨f77.name,by decide,func77.trans (congrArg some (by kernel_rfl))⟩
 f47:=func78.trans (congrArg some (by kernel_rfl))
 f48:=func79.trans (congrArg some (by kernel_rfl))
 f49:=⟨f80.name,by decide,func80.trans (congrArg some (by kernel_rfl))⟩
 f50:=⟨f81.name,by decide,func81.trans (congrArg some (by kernel_rfl))⟩
 f57:=⟨f107.name,by decide,func107.trans (congrArg some (by kernel_rfl))⟩
 t0:=underlying0
 a0:=isAgg0
 z0:=sizeOf0
 v0:=zeroValue0
 t3:=underlying3
 a3:=isAgg3
 z3:=sizeOf3
 v3:=zeroValue3
 t4:=underlying4
 a4:=isAgg4
 z4:=sizeOf4
 v4:=zeroValue4
 t5:=underlying5
 a5:=isAgg5
 z5:=sizeOf5
 v5:=zeroValue5
 t9:=underlying9
 a9:=isAgg9
 z9:=sizeOf9
 v9:=zeroValue9
 t22:=underlying33
 a22:=isAgg33
 z22:=sizeOf33
 v22:=zeroValue33
 t25:=underlying60
 a25:=isAgg60
 z25:=sizeOf60
 v25:=zeroValue60
 t39:=underlying89
 a39:=isAgg89
 z39:=sizeOf89
 v39:=zeroValue89
 t45:=underlying107
 a45:=isAgg107
 z45:=sizeOf107
 v45:=zeroValue107
 t46:=underlying108
 a46:=isAgg108
 z46:=sizeOf108
 v46:=zeroValue108
 t50:=underlying112
 a50:=isAgg112
 z50:=sizeOf112
 v50:=zeroValue112
 t53:=underlying115
 a53:=isAgg115
 z53:=sizeOf115
 v53:=zeroValue115
 t55:=underlying117
 a55:=isAgg117
 z55:=sizeOf117
 v55:=zeroValue117
 t66:=underlying149
 a66:=isAgg149
 z66:=sizeOf149
 v66:=zeroValue149
 t70:=underlying153
 a70:=isAgg153
 z70:=sizeOf153
 v70:=zeroValue153
 t76:=underlying179
 a76:=isAgg179
 z76:=sizeOf179
 v76:=zeroValue179
 t77:=underlying180
 a77:=isAgg180
 z77:=sizeOf180
 v77:=zeroValue180 }
open Go.RowKit Go.Lib Go.Sort in
/-- slices.SortFunc at structs: a permutation,sorted by 'cmp(a,b)<0' (the shelf's contract,laid at this instance). -/
theorem Tryz.O0 {α:Type} [Inhabited α] (enc:α->List Value) (hk:∀ x,(enc x).length=4) (h1:∀ x,∀ v∈enc x,v.oneCell'=true) (cf:α->α->Int) (hO:SWO (ltOf cf)) (g:Nat) (cb:Array Value) (blk off cap:Nat) (d:Array α) (w:World) (eg:∀ args w,(callFunc g args).run Tryz.prog w=.ok (.enter g args) w) (hcmp:CmpLays Tryz.prog g cb enc 4 cf blk off d.size w) (hH:HoldsK enc 4 w blk off d) (hblk:blk<w.heap.size) (hsz:d.size<4611686018427387904) :
  Calls Tryz.prog 17 #[.slice (some ⟨blk,off,none⟩) d.size cap,.func (.func g) #[] cb] w λe w' =>
   e=.returned (.tuple #[])/\∃ d' n os,PermIn 0 d.size d d'/\SortedIn (ltOf cf) 0 d.size d'/\w'=sortWorldK enc 4 w blk off n d' os:=AnyQ.slices_SortFunc Tryz.aK1 4 isAgg31 sizeOf31 enc hk h1 cf hO g cb blk off cap d w eg hcmp hH hblk hsz
end Go.Proofs
namespace Go.PM
open Go Go.RowKit
def ins(x:Int):List Int->List Int
 | []=>[x]
 | y::l=>bif ltI y x then y::ins x l else x::y::l
theorem aM3 x:∀ l,List.Perm (ins x l) (x::l)
 | []=>.refl _
 | y::l=>by
  unfold ins;cases ltI y x with
  | true=>exact((aM3 x l).cons y).trans (.swap x y l)
  | false=>rfl
section
variable {P:Program} {n0:Nat->Prop} {w:World} {G:Gd} {μ:Mp} {H:Heap}
theorem aH3:∀ (l:List Int),aD (.int .i64) l=l.map λn=>PV.lit (.int .i64 n)
 | []=>rfl
 | x::l=>by rw[fH,aH3 l]; rfl
theorem aKH(hW:aM n0 G μ H w) os:Ext n0 w G μ (Sort.grow w os) G μ/\aM n0 G μ H (Sort.grow w os):=by
 have hg:∀ b,b<w.heap.size->(Sort.grow w os).heap[b]?=w.heap[b]?:=λb hb=>by
  show (w.heap++os)[b]?=_;grind
 have e:Ext n0 w G μ (Sort.grow w os) G μ:={
  bS:=λb hb=>⟨hb,hg b (hW.lt b hb)⟩
  map:=λ_ _ h=>h
  len:=λ_ _ h=>h
  room:=λb n hb=>by
   obtain⟨c,t,fr,h1,h2⟩:=hb;exact⟨c,t,fr,by grind,h2⟩
  row:=λ_ _ h=>h
  os:=rfl
  tape:=rfl
  output:=rfl
  size:=by simp
  old:=λb hb _=>hg b hb
  new:=λb hb=>.inl hb }
 refine⟨e,hW.aU e ⟨λ_=>rfl,λj b hj=>⟨hg b (hW.rows.sep j b hj).1,id⟩⟩ (λr k b hr hb=>⟨hg b (hW.hZ hr hb),id⟩) λb hb=>Nat.lt_of_lt_of_le (hW.lt b hb) e.size⟩
end
def aGU {α:Type} (lt:α->α->Bool) (x:α):List α->List α
 | []=>[x]
 | y::l=>bif lt y x then y::aGU lt x l else x::y::l
def YL {α}(lt:α->α->Bool):List α->List α
 | []=>[]
 | x::l=>aGU lt x (YL lt l)
structure LO {α:Type} (D:α->Bool) (lt:α->α->Bool):Prop where
 irrefl:∀ x,D x=true->lt x x=false
 trans:∀ x y z,D x=true->D y=true->D z=true->lt x y=true->lt y z=true->lt x z=true
 ntrans:∀ x y z,D x=true->D y=true->D z=true->lt x y=false->lt y z=false->lt x z=false
 anti:∀ x y,D x=true->D y=true->lt x y=false->lt y x=false->x=y
section
variable {α:Type} {D:α->Bool} {lt:α->α->Bool}
theorem OV x:∀ l,List.Perm (aGU lt x l) (x::l)
 | []=>.refl _
 | y::l=>by
  unfold aGU;cases lt y x with
  | true=>exact((OV x l).cons y).trans (.swap x y l)
  | false=>rfl
theorem IV:∀ l ,List.Perm (YL lt l) l
 | []=>.refl _
 | x::l=>(OV x (YL lt l)).trans ((IV l).cons x)
theorem RE(h:LO D lt) x (hx:D x=true):∀ l ,(∀ y∈l,D y=true)->l.Pairwise (λa b=>lt b a=false)->(aGU lt x l).Pairwise (λa b=>lt b a=false)
 | [],_,_=>by simp[aGU]
 | y::l,hd,hs=>by
  have⟨h1,h2⟩:=List.pairwise_cons.1 hs;have hy:=hd y (by simp);unfold aGU;cases hb:lt y x with
  | true =>
   refine List.pairwise_cons.2 ⟨λz hz=>?_,RE h x hx l (λz hz=>hd z (by grind)) h2⟩;rcases List.mem_cons.1 ((OV x l).mem_iff.1 hz)with rfl|hz
   ·cases hc:lt z y with
    | false=>rfl
    | true=>have:=h.trans z y z hx hy hx hc hb; rw[h.irrefl z hx]at this; grind
   grind
  | false =>
   refine List.pairwise_cons.2 ⟨λz hz=>?_,hs⟩;rcases List.mem_cons.1 hz with rfl|hz
   ·omega
   ·exact h.ntrans z y x (hd z (by grind)) hy hx (h1 z hz) hb
theorem QB(h:LO D lt):∀ l ,(∀ y∈l,D y=true)->(YL lt l).Pairwise (λa b=>lt b a=false)
 | [],_=>.nil
 | x::l,hd=>RE h x (hd x (by simp)) _ (λy hy=>hd y (by simp[(IV l).mem_iff.1 hy])) (QB h l λy hy=>hd y (by grind))
theorem aB6(h:LO D lt){l l'}(hd:∀ y∈l,D y=true)(hp:List.Perm l' l)(hs:l'.Pairwise (λa b=>lt b a=false)):YL lt l=l':=by
 refine List.Perm.eq_of_pairwise (λa b ha hb h1 h2=>?_) (QB h l hd) hs ((IV l).trans hp.symm);exact h.anti a b (hd a ((IV l).mem_iff.1 ha)) (hd b (hp.mem_iff.1 hb)) h2 h1
end
section
variable {P:Program} {n0:Nat->Prop} {w w':World} {G G':Gd} {μ μ':Mp} {H:Heap}
theorem XF {b:Nat}:∀ {ps:List PV} {off:Nat},aK w G μ b off ps->∃ vs:List Value,VRs w G μ ps vs/\vs.length=ps.length/\∀ c (hc:c<vs.length),w.cell? ⟨b,off+c,none⟩=some vs[c]
 | [],off,_=>⟨[],by rw[VRs],rfl,λc hc=>absurd hc (Nat.not_lt_zero _)⟩
 | p::ps,off,h=>by
  rw[aK]at h;obtain⟨⟨v,h1,h2⟩,h3⟩:=h;obtain⟨vs,k1,k2,k3⟩:=XF h3;refine⟨v::vs,?_,by simp[k2],λc hc=>?_⟩
  ·rw[VRs]; exact⟨v,vs,rfl,h2,k1⟩
  ·cases c with
   | zero=>exact h1
   | succ c =>
    have:=k3 c (by simpa using hc);rw[Nat.add_assoc,Nat.add_comm 1 c]at this;simpa using this
theorem KX(t:Ty):∀ (l:List t.den) (i c:Nat) (hi:i<l.length),c<t.size->(aD t l)[i*t.size+c]?=(enc t l[i])[c]?
 | [],i,c,hi,_=>by cases hi
 | x::l,0,c,hi,hc=>by rw[fH,Nat.zero_mul,Nat.zero_add,List.getElem?_append_left (by rw[fX]; exact hc)]; rfl
 | x::l,i+1,c,hi,hc=>by
  rw[fH,List.getElem?_append_right (by rw[fX,Nat.add_mul]; omega),fX,show (i+1)*t.size+c-t.size=i*t.size+c by rw[Nat.add_mul]; omega,KX t l i c (by simpa using hi) hc];rfl
structure ElK (t:Ty) where
 x:t.den
 vs:List Value
def WR {t:Ty}(w:World)(G:Nat->Prop)(D:t.den->Bool)(e:ElK t):Prop:=D e.x=true/\VRs w (Gd.of G) aF (enc t e.x) e.vs/\e.vs.length=t.size
def O5 {α:Type}(D:List α->α->Bool)(lt:α->α->Bool)(l:List α):Option (List α):=bif Nat.blt 0 l.length&&Nat.blt l.length 4611686018427387904&&l.all (D l) then some (YL lt l) else none
def aBL(t:Ty)(g2:FuncId)(D:List t.den->t.den->Bool)(lt:t.den->t.den->Bool)(args:List PV)(H:Heap):Option RK:=match args with
 | [.own r sz,p]=>match dY H r with
  | some k=>match k.tag with
   | some g=>match qM g.t t g.l with
    | some l=>match aHQ g2 p with
     | some _=>bif Nat.beq sz t.size&&!k.frozen then some ⟨List t.den,O5 D lt l,λl'=>(.tuple [],H.set r (some ⟨aD t l',k.ty,k.grown,false,some ⟨t,l'⟩⟩))⟩ else none
     | none=>none
    | none=>none
   | none=>none
  | none=>none
 | _=>none
def aL5(P:Program) (g2:FuncId) (t:Ty) (D:t.den->Bool) (cf:t.den->t.den->Int):Prop :=
 ∀ (w:World) (G:Nat->Prop) (x y:t.den) (vx vy:List Value),Lt w G->D x=true->D y=true->VRs w (Gd.of G) aF (enc t x) vx->VRs w (Gd.of G) aF (enc t y) vy ->
  Calls P g2 #[.agg vx.toArray,.agg vy.toArray] w λe w'=>e=.returned (.int .i64 (cf x y))/\∃ q os',w'=Sort.grow (w.drewN q) os'
theorem aK6 {g g2:FuncId} {t:Ty} (hpl:t.plain=true) (hk0:0<t.size) {D:List t.den->t.den->Bool} {cf:t.den->t.den->Int}
  (hLO:∀ l,LO (D l) λx y=>decide (cf x y<0)) (hf:∀ l,aL5 P g2 t (D l) cf)
  (henter:∀ (xs:Array Value) (w:World),(callFunc g xs).run P w=.ok (.enter g xs) w) (eg:∀ (xs:Array Value) (w:World),(callFunc g2 xs).run P w=.ok (.enter g2 xs) w)
  (hS:∀ {α:Type} [Inhabited α] (enc:α->List Value) (hk:∀ x,(enc x).length=t.size) (h1:∀ x,∀ v∈enc x,v.oneCell'=true) (cf:α->α->Int) (hO:Sort.SWO (Proofs.ltOf cf)) (cb:Array Value) (blk off cap:Nat) (d:Array α) (w:World) (hcmp:Proofs.CmpLays P g2 cb enc t.size cf blk off d.size w) (hH:Sort.HoldsK enc t.size w blk off d) (hblk:blk<w.heap.size) (hsz:d.size<4611686018427387904),
   Calls P g #[.slice (some ⟨blk,off,none⟩) d.size cap,.func (.func g2) #[] cb] w λe w'=>e=.returned (.tuple #[])/\∃ d' n os,Sort.PermIn 0 d.size d d'/\Sort.SortedIn (Proofs.ltOf cf) 0 d.size d'/\w'=Proofs.sortWorldK enc t.size w blk off n d' os) :
  vB P (g,aBL t g2 D (λx y=>decide (cf x y<0))):=by
 intro args H rh h y hy n0 G μ w us hW hv;change aBL t g2 D (λx y=>decide (cf x y<0)) args H=some rh at h;show lN P n0 w G μ g us.toArray (rh.out y).1 (rh.out y).2;unfold aBL at h;split at h
 ·rename_i r sz p;split at h
  ·rename_i k hk;split at h
   ·rename_i gg hg;split at h
    ·rename_i l hl;split at h
     ·rename_i pk hpk;obtain⟨hb,h⟩:=IZ h;simp only[oA,Bool.not_eq_true']at hb;have hfz:=hb.2;replace hb:=oE hb.1;simp only[oJ]at h;subst h;subst hb;unfold O5 at hy;obtain⟨hlen,hy⟩:=aG hy;simp only[oJ]at hy;subst hy;simp only[oA]at hlen;obtain⟨⟨hl0,hlen⟩,hall⟩:=hlen;have hl0:=cF hl0;have hlen:=cF hlen;obtain⟨gt,gl⟩:=gg;obtain⟨e0,he⟩:=fY hl;dsimp only at e0 he;subst e0;dsimp only at he;subst he;clear hl
      dsimp only at hl0 hlen hall hg ⊢;obtain⟨hcells,hmlen⟩:=hW.tags r k _ (aE hk) hg;dsimp only at hcells hmlen;have hLO:=hLO gl;have hf:=hf gl;have hD:∀ x∈gl,D gl x=true:=List.all_eq_true.1 hall;generalize hDD:D gl=D' at hLO hf hD;rw[VRs]at hv;obtain⟨v,us1,rfl,h1,h2⟩:=hv;rw[VRs]at h2;obtain⟨pv,us2,rfl,h2,h3⟩:=h2;rw[VRs]at h3;subst h3;have hpv:pv=.func (.func g2) #[] #[]:=by
       have:=HV (g:=g2) (p:=p) hpk;rw[this,VR]at h2;exact h2
      subst hpv;rw[VR]at h1;obtain⟨n,h3,h4⟩:=h1;rw[hmlen]at h3;cases h3;rcases h4 with ⟨h5,ao,rfl⟩|⟨b,c,h5,rfl,h7,h8,h9s⟩
      ·omega
      refine⟨henter _ _,?_⟩;obtain⟨cc,a1,a2,a3,_,a5⟩:=hW.blk r k b (aE hk) h5;have hnG:=(a5 hfz).2;rw[hcells,h9s]at a2;rw[h9s];have each:∀ i (hi:i<gl.length),∃ e:ElK gt,WR w G.ok D' e/\e.x=gl[i]/\∀ c (hc:c<e.vs.length),w.cell? ⟨b,i*gt.size+c,none⟩=some e.vs[c]:=λi hi=>by
       have hcs:aK w G μ b (i*gt.size) (enc gt gl[i]):=aK.mk λc p hp=>by
        have hc:c<gt.size:=by
         have:=(oO.1 hp).1;rwa[fX]at this
        have:=a2.get (i:=i*gt.size+c) (p:=p) (by rw[KX gt gl i c hi hc]; exact hp);rwa[Nat.zero_add]at this
       obtain⟨vs,v1,v2,v3⟩:=XF hcs;have v1:VRs w G aF (enc gt gl[i]) vs:=bG _ _ (vH _ _) v1;exact⟨⟨gl[i],vs⟩,⟨hD _ (List.getElem_mem hi),j9 (G:=G) (G':=Gd.of G.ok) (λb h=>h) _ _ _ (tE _ _ hpl) v1,by rw[v2,fX]⟩,rfl,v3⟩
      obtain⟨x0,x0ok,_⟩:=each 0 hl0;have inst:Inhabited {e:ElK gt // WR w G.ok D' e}:=⟨⟨x0,x0ok⟩⟩;have each2:∀ i,∃ e:{e:ElK gt // WR w G.ok D' e},∀ hi:i<gl.length,e.1.x=gl[i]/\∀ c (hc:c<e.1.vs.length),w.cell? ⟨b,i*gt.size+c,none⟩=some e.1.vs[c]:=λi=>by
       by_cases hi:i<gl.length
       ·obtain⟨e,e1,e2⟩:=each i hi;exact⟨⟨e,e1⟩,λ_=>e2⟩
       ·exact⟨default,λh=>absurd h hi⟩
      obtain⟨f,hfx⟩:=Classical.axiomOfChoice each2;obtain⟨d,hd⟩:∃ d:Array {e:ElK gt // WR w G.ok D' e},d=((List.range gl.length).map f).toArray:=⟨_,rfl⟩;have hds:d.size=gl.length:=by rw[hd]; simp
      have hdg:∀ i,i<gl.length->d[i]! =f i:=λi hi=>by
       rw[getElem!_pos d i (by omega)];simp[hd]
      obtain⟨en,hen⟩:∃ en:{e:ElK gt // WR w G.ok D' e}->List Value,en=λe=>e.1.vs:=⟨_,rfl⟩
      have hek:∀ x,(en x).length=gt.size:=λx=>by rw[hen]; exact x.2.2.2
      have he1:∀ x,∀ v∈en x,v.oneCell'=true:=λx=>by rw[hen]; exact R8 gt x.1.x x.1.vs x.2.2.1
      have hcell:∀ j,j<gl.length*gt.size->w.cell? ⟨b,j,none⟩=some (Sort.flatK en gt.size d)[j]!:=λj hj=>by
       have hj1:j/gt.size<gl.length:=Nat.div_lt_of_lt_mul (by rw[Nat.mul_comm]; exact hj);have hj2:j%gt.size<gt.size:=Nat.mod_lt _ hk0;rw[Sort.get_flatK _ _ _ _ (by rw[hds]; exact hj),hdg _ hj1];have:=(hfx _ hj1).2 (j%gt.size) (by rw[(f (j/gt.size)).2.2.2]; exact hj2);rw[Nat.mul_comm,Nat.div_add_mod]at this;rw[this,hen]
       congr 1
       rw[getElem!_pos]
      have hcs:gl.length*gt.size<=cc.size:=by
       rcases oG cc.size (gl.length*gt.size)with hlt|hge
       ·have:=hcell cc.size hlt;simp[World.cell?,a1]at this
       ·exact hge
      have hT:∀ (m:Nat) (F:Array Value),A8 { w with drawn:=w.drawn+m } (Sort.putRow id (Sort.ahead w m) b 0 F) b (Sort.putCells id 0 F cc) k.ty:=λm F=>{
       at_:=by
        show (w.heap.modify b _)[b]?=_;rw[Array.getElem?_modify,if_pos rfl,a1]; rfl
       other:=λx hx=>by
        show (w.heap.modify b _)[x]?=_;rw[Array.getElem?_modify,if_neg (Ne.symm hx)]
       os:=rfl
       tape:=rfl
       output:=rfl
       size:=by show (w.heap.modify b _).size=_; simp
       drawn:=rfl }
      have hps:∀ F:Array Value,(Sort.putCells id 0 F cc).size=cc.size:=λF=>by simp[Sort.putCells]
      have e12:∀ (m:Nat) (F:Array Value),Ext n0 w G μ (Sort.putRow id (Sort.ahead w m) b 0 F) G μ:=λm F =>
       (NJ (n0:=n0) (w:=w) (G:=G) (μ:=μ) (Nat.le_add_right w.drawn m)).trans (o6 (DC hW (w.drawn+m)) (aE hk) hfz h5 (c:=cc) (by exact a1) (hT m F) (hps F))
      have growE:∀ {w1:World} (os:Array Obj),(∀ b,G b->b<w1.heap.size)->Ext n0 w1 G μ (Sort.grow w1 os) G μ:=λ{w1} os hlt=>by
       have hgr:∀ b,b<w1.heap.size->(Sort.grow w1 os).heap[b]?=w1.heap[b]?:=λb hb=>by
        show (w1.heap++os)[b]?=_;rw[Array.getElem?_append_left hb]
       exact {
        bS:=λb hb=>⟨hb,hgr b (hlt b hb)⟩
        map:=λ_ _ h=>h
        len:=λ_ _ h=>h
        row:=λ_ _ h=>h
        room:=λb n hb=>by
         obtain⟨c,t,fr,h1,h2⟩:=hb;exact⟨c,t,fr,by rw[hgr b (eI h1)]; exact h1,h2⟩
        os:=rfl
        tape:=rfl
        output:=rfl
        size:=by show _<=(w1.heap++os).size; simp
        old:=λb hb _=>hgr b hb
        new:=λb hb=>.inl hb }
      have hlt1:∀ (m:Nat) (F:Array Value) b',G b'->b'<(Sort.putRow id (Sort.ahead w m) b 0 F).heap.size:=λm F b' hb'=>Nat.lt_of_lt_of_le (hW.lt b' hb') (e12 m F).size
      have e123:∀ (m:Nat) (F:Array Value) (os:Array Obj),Ext n0 w G μ (Sort.grow (Sort.putRow id (Sort.ahead w m) b 0 F) os) G μ:=λm F os=>(e12 m F).trans (growE os (hlt1 m F))
      have hH:Sort.HoldsK en gt.size w b 0 d:=by
       intro j hj;rw[Sort.size_flatK,hds]at hj;refine⟨?_,by simp[World.frozen?,a1]⟩;rw[Nat.zero_add];exact hcell j hj
      have hO:Sort.SWO (Proofs.ltOf λx y:{e:ElK gt // WR w G.ok D' e}=>cf x.1.x y.1.x) :=
       ⟨λx=>hLO.irrefl _ x.2.1,λx y z=>hLO.trans _ _ _ x.2.1 y.2.1 z.2.1,λx y z=>hLO.ntrans _ _ _ x.2.1 y.2.1 z.2.1⟩
      have hcmp:Proofs.CmpLays P g2 #[] en gt.size (λx y=>cf x.1.x y.1.x) b 0 d.size w:=by
       intro m os dk _ x y;have eW:=e123 m (Sort.flatK en gt.size dk) os;have mono0:Mono w (Gd.of G.ok) aF (Proofs.sortWorldK en gt.size w b 0 m dk os) (Gd.of G.ok) aF:=⟨λb hb=>⟨hb,(eW.bS b hb).2⟩,λ_ _ h=>h,λ_ _ h=>h,eW.room,λ_ _ h=>h,λ_ _ _=>rfl⟩;have hx:=VRs.mono mono0 _ _ x.2.2.1;have hy:=VRs.mono mono0 _ _ y.2.2.1;have hlt:Lt (Proofs.sortWorldK en gt.size w b 0 m dk os) G.ok:=hW.lt.step (λb hb=>⟨hb,(eW.bS b hb).2⟩) λb' hb'=>Nat.lt_of_lt_of_le (hW.lt b' hb') eW.size
       have:=hf _ G.ok x.1.x y.1.x _ _ hlt x.2.1 y.2.1 hx hy;rw[hen]at this ⊢;exact this
      have hcall:=hS en hek he1 (λx y=>cf x.1.x y.1.x) hO #[] b 0 c d w hcmp hH (eI a1) (by omega);rw[hds]at hcall;refine hcall.mono ?_;rintro e w' ⟨rfl,d',m,os,⟨hp1,-,hp3⟩,hs,rfl⟩;have hd's:d'.size=gl.length:=by rw[hp1,hds]
      have hgl:d.toList.map (λx=>x.1.x)=gl:=by
       apply List.ext_getElem
       ·simp[hds]
       ·intro i h1 h2;have:=hdg i h2;rw[getElem!_pos d i (by omega)]at this;simp only[List.getElem_map,Array.getElem_toList,this];exact(hfx i h2).1
      have hperm:List.Perm (d'.toList.map λx=>x.1.x) gl:=by
       have hh:List.Perm (d'.toList.map λx=>x.1.x) (d.toList.map λx=>x.1.x):=by
        refine List.Perm.map _ ?_;have q1:d'.extract 0 gl.length=d':=by rw[<- hd's]; simp
        have q2:d.extract 0 gl.length=d:=by rw[<- hds]; simp
        rw[q1,q2]at hp3;exact hp3
       rwa[hgl]at hh
      have hsort:(d'.toList.map λx=>x.1.x).Pairwise (λa b=>decide (cf b a<0)=false):=by
       refine List.pairwise_map.2 (List.pairwise_iff_getElem.2 λi j hi hj hij=>?_);have:=hs i j (Nat.zero_le _) hij (by simpa[hd's]using hj);rw[getElem!_pos d' i (by simpa using hi),getElem!_pos d' j (by simpa using hj)]at this;simpa[Proofs.ltOf]using this
      have hL:YL (λx y=>decide (cf x y<0)) gl=d'.toList.map λx=>x.1.x:=aB6 hLO hD hperm hsort
      have hLl:(d'.toList.map λx=>x.1.x).length=gl.length:=by simp[hd's]
      rw[hL];have hnew:∀ i (hi:i<gl.length*gt.size),(Sort.putCells id 0 (Sort.flatK en gt.size d') cc)[i]?=some (Sort.flatK en gt.size d')[i]!:=λi hi=>by
       have h9:i<cc.size:=by omega
       have h10:i<(Sort.flatK en gt.size d').size:=by rw[Sort.size_flatK,hd's]; exact hi
       simp only[Sort.putCells,Array.getElem?_mapIdx,Array.getElem?_eq_getElem h9,Option.map_some,Nat.zero_le,true_and,Nat.zero_add,h10,if_true,Nat.sub_zero,id]
      have hkk:aK (Sort.putRow id (Sort.ahead w m) b 0 (Sort.flatK en gt.size d')) G μ b 0 (aD gt (d'.toList.map λx=>x.1.x)):=by
       refine aK.mk λj p hp=>?_
       have hj:j<gl.length*gt.size:=by
        have:=(oO.1 hp).1;rwa[aS,hLl]at this
       have hj1:j/gt.size<gl.length:=Nat.div_lt_of_lt_mul (by rw[Nat.mul_comm]; exact hj);have hj2:j%gt.size<gt.size:=Nat.mod_lt _ hk0;have hj3:j/gt.size<d'.size:=by omega
       have hjj:j/gt.size*gt.size+j%gt.size=j:=by rw[Nat.mul_comm]; exact Nat.div_add_mod _ _
       rw[<- hjj,KX gt _ _ _ (by rw[hLl]; exact hj1) hj2]at hp;simp only[List.getElem_map,Array.getElem_toList]at hp;have hx:=d'[j/gt.size].2.2.1;obtain⟨v,q1,q2⟩:=hx.get hp;have q2':VR w G μ p v:=by
        have h3:=xI (G:=Gd.of G.ok) (G':=G) (λb h=>h) aF p v ?_ q2
        ·exact h3.aP
        ·have:=tE gt d'[j/gt.size].1.x hpl;exact LL this (List.mem_of_getElem? hp)
       refine⟨v,?_,VR.mono (e12 m _).toMono _ _ q2'⟩;simp only[World.cell?,(hT m _).at_,Nat.zero_add];rw[hnew j hj,Sort.get_flatK _ _ _ _ (by rw[hd's]; exact hj),getElem!_pos d' _ hj3,hen,List.getElem!_eq_getElem?_getD,q1];rfl
      have w1:=DC hW (w.drawn+m);have w2:=qQ w1 (aE hk) hfz h5 (c:=cc) (k':=⟨aD gt (d'.toList.map λx=>x.1.x),k.ty,k.grown,false,some ⟨gt,d'.toList.map λx=>x.1.x⟩⟩) (by exact a1) (hT m _) (hps _) rfl (by rw[h9s]; exact hkk)
       (λhgr=>by rw[hps,a3 hgr,hcells,aS,aS,hLl])
       (λg hg=>by cases hg; exact⟨rfl,by rw[hmlen,hLl]⟩)
       (λt l h1 h2=>by cases h2; cases hpl)
      obtain⟨e3,w3⟩:=aKH w2 os;refine⟨_,G,μ,rfl,(e12 m _).trans e3,w3,?_⟩;rw[VR]; exact⟨#[],rfl,by rw[VRs]⟩
     ·cases h
    ·cases h
   ·cases h
  ·cases h
 ·cases h
end
end Go.PM
namespace Go.PM
def cmpL:List Int->List Int->Int
 | [],[]=>0
 | [],_::_=>-1
 | _::_,[]=>1
 | a::l,b::m=>if a<b then -1 else if b<a then 1 else cmpL l m
theorem C7:∀ l,cmpL l l=0
 | []=>rfl
 | a::l=>by simp[cmpL,C7 l]
theorem JG:∀ {l m},¬ cmpL l m<0->¬ cmpL m l<0->l=m
 | [],[],_,_=>rfl
 | [],_::_,h,_=>by simp[cmpL]at h
 | _::_,[],_,h=>by simp[cmpL]at h
 | a::l,b::m,h,k=>by
  simp only[cmpL]at h k
  by_cases h1:a<b
  ·grind
  ·by_cases h2:b<a
   ·omega
   ·rw[if_neg h1,if_neg h2]at h;rw[if_neg h2,if_neg h1]at k;have:a=b:=by omega
    rw[this,JG h k]
theorem zR:∀ {l m n},cmpL l m<0->cmpL m n<0->cmpL l n<0
 | [],[],_,h,_=>by simp[cmpL]at h
 | [],_::_,[],_,k=>by simp[cmpL]at k
 | [],_::_,_::_,_,_=>by simp[cmpL]
 | _::_,[],_,h,_=>by simp[cmpL]at h
 | _::_,_::_,[],_,k=>by simp[cmpL]at k
 | a::l,b::m,c::n,h,k=>by
  simp only[cmpL]at h k ⊢
  by_cases h1:a<b
  ·grind
  ·by_cases h2:b<a
   ·rw[if_neg h1,if_pos h2]at h; omega
   ·rw[if_neg h1,if_neg h2]at h
    by_cases h3:b<c
    ·rw[if_pos (show a<c by omega)]; omega
    ·by_cases h4:c<b
     ·rw[if_neg h3,if_pos h4]at k; omega
     ·rw[if_neg h3,if_neg h4]at k;rw[if_neg (show ¬ a<c by omega),if_neg (show ¬ c<a by omega)];exact zR h k
theorem M9 {α β:Type} f (g:α->β):∀ l:List Nat,(l.findSome? λi=>(f i).map g)=(l.findSome? f).map g
 | []=>rfl
 | i::l=>by
  rw[List.findSome?_cons,List.findSome?_cons];cases h:f i with
  | some y=>rfl
  | none=>exact M9 f g l
def OE(l m:List Int) (i:Nat):Option Int :=
 if ¬ i<m.length then some 1 else if l.getD i 0<m.getD i 0 then some (-1) else if m.getD i 0<l.getD i 0 then some 1 else none
theorem aJ0:∀ l m j,((List.range' j (l.length-j)).findSome? (OE l m)).getD (if l.length<m.length then -1 else 0)=cmpL (l.drop j) (m.drop j)\/l.length<j
 | l,m,j=>by
  rcases Nat.lt_or_ge l.length j with h|h
  ·exact .inr h
  ·left;generalize hn:l.length-j=n
   induction n generalizing j with
   | zero =>
    have h1:l.drop j=[]:=List.drop_eq_nil_of_le (by omega);rw[h1];simp only[List.range'_zero,List.findSome?_nil,Option.getD_none]
    by_cases h2:l.length<m.length
    ·rw[if_pos h2,List.drop_eq_getElem_cons (show j<m.length by omega)]; rfl
    ·rw[if_neg h2,List.drop_eq_nil_of_le (show m.length<=j by omega)]; rfl
   | succ n ih =>
    have hj:j<l.length:=by omega
    rw[List.range'_succ,List.findSome?_cons,List.drop_eq_getElem_cons hj];unfold OE
    by_cases h2:j<m.length
    ·rw[if_neg (λh=>h h2),List.drop_eq_getElem_cons h2];have g1:l.getD j 0=l[j]:=by rw[List.getD_eq_getElem?_getD,List.getElem?_eq_getElem hj]; rfl
     have g2:m.getD j 0=m[j]:=by rw[List.getD_eq_getElem?_getD,List.getElem?_eq_getElem h2]; rfl
     rw[g1,g2];simp only[cmpL]
     by_cases h3:l[j]<m[j]
     ·rw[if_pos h3,if_pos h3]; rfl
     ·rw[if_neg h3,if_neg h3]
      by_cases h4:m[j]<l[j]
      ·rw[if_pos h4,if_pos h4]; rfl
      ·rw[if_neg h4,if_neg h4];exact ih (j+1) (by omega) (by omega)
    ·rw[if_pos h2,List.drop_eq_nil_of_le (show m.length<=j by omega)]; rfl
theorem L0:∀ {l m},cmpL l m=0->l=m
 | [],[],_=>rfl
 | [],_::_,h=>by simp[cmpL]at h
 | _::_,[],h=>by simp[cmpL]at h
 | a::l,b::m,h=>by
  simp only[cmpL]at h
  by_cases h1:a<b
  ·omega
  ·rw[if_neg h1]at h
   by_cases h2:b<a
   ·omega
   ·rw[if_neg h2]at h;rw[L0 h,show a=b by omega]
def D6(a b:List Int×List Int):Int:=if ¬ cmpL a.1 b.1=0 then cmpL a.1 b.1 else cmpL a.2 b.2
theorem aIS a:D6 a a=0:=by simp[D6,C7]
theorem aPB {a b}(h:D6 a b=0):a=b:=by
 unfold D6 at h
 by_cases h1:cmpL a.1 b.1=0
 ·rw[if_neg (not_not_intro h1)]at h;exact Prod.ext (L0 h1) (L0 h)
 omega
def least {α:Type} (f:α->List Int×List Int):List α->α->α
 | [],b=>b
 | x::l,b=>least f l (if D6 (f x) (f b)<0 then x else b)
theorem W5 {α} f:∀ l (b:α),least f l b=b\/least f l b∈l
 | [],b=>.inl rfl
 | x::l,b=>by
  unfold least;rcases W5 f l (if D6 (f x) (f b)<0 then x else b)with h|h
  ·grind
  grind
end Go.PM
namespace Go.PM
open Go Go.RowKit Go.Proofs Tryz
set_option maxHeartbeats 4000000
theorem aAY {p:Prop}(h:p):Hid p:=h
theorem aBK(b1 o1 c1 b2 o2 c2:Nat)(l m:List Int)(w:World)(hl:∀ j x,l[j]?=some x->w.cell? ⟨b1,o1+j,none⟩=some (.int .i64 x))(hm:∀ j x,m[j]?=some x->w.cell? ⟨b2,o2+j,none⟩=some (.int .i64 x))(hln:l.length<=1048576)(hmn:m.length<=1048576) :
  Calls Tryz.prog 48 #[.slice (some ⟨b1,o1,none⟩) l.length c1,.slice (some ⟨b2,o2,none⟩) m.length c2] w λe w'=>e=.returned (.int .i64 (cmpL l m))/\w'=w:=by
 have HL:=aAY hl;have HM:=aAY hm;clear hl hm;have e74:∀ args w,(callFunc 72 args).run Tryz.prog w=.ok (.enter 72 args) w:=λargs w=>enters func72 (by kernel_rfl) (by kernel_rfl) args w
 go_enter func48,ntmps48
 go_wp2
 go_loop [11] (λi=>∃ k:Nat,k<=l.length/\i=.int .i64 k/\Hid (cmpL (l.drop k) (m.drop k)=cmpL l m)) (λi=>l.length-(RowKit.intOf i).toNat)
 case atStart=>exact⟨0,Nat.zero_le _,rfl,aAY rfl⟩
 case round =>
  obtain⟨k,hk,rfl,hc⟩:=hrel
  by_cases hkn:k<l.length
  ·obtain⟨x,hx⟩:∃ x,l[k]?=some x:=⟨l[k],List.getElem?_eq_getElem hkn⟩;have hcx:=HL.out k x hx;have hdx:l.drop k=x::l.drop (k+1):=by
    rw[List.drop_eq_getElem_cons hkn]
    congr 1
    exact(oO.1 hx).2
   by_cases hkm:k<m.length
   ·obtain⟨y,hy⟩:∃ y,m[k]?=some y:=⟨m[k],List.getElem?_eq_getElem hkm⟩;have hcy:=HM.out k y hy;have hdy:m.drop k=y::m.drop (k+1):=by
     rw[List.drop_eq_getElem_cons hkm]
     congr 1
     exact(oO.1 hy).2
    have hc2:Hid ((if x<y then -1 else if y<x then 1 else cmpL (l.drop (k+1)) (m.drop (k+1)))=cmpL l m):=by
     have:=hc.out;rw[hdx,hdy]at this;exact this
    clear hdx hdy hc hx hy
    go_wp2_with (go_at_fn 72; refine(Tryz.cmp_Compare_int x y w).mono ?_; rintro e w' ⟨rfl,rfl⟩)
    ·rename_i h;have e:Lib.compareInt x y=cmpL l m:=by
      rw[<- hc2.out];unfold Lib.compareInt at h ⊢
      by_cases h1:x<y
      ·rw[if_pos h1,if_pos h1]
      ·by_cases h2:y<x
       ·rw[if_neg h1,if_pos h2,if_neg h1,if_pos h2]
       ·rw[if_neg h1,if_neg h2]at h; simp at h
     clear hc2
     go_ret
     exact⟨oZ (λz=>Ending.returned (.int .i64 z)) e,rfl⟩
    ·rename_i h;refine⟨⟨k+1,by omega,by go_num,aAY ?_⟩,by simp[RowKit.intOf]; omega⟩;rw[<- hc2.out];unfold Lib.compareInt at h
     by_cases h1:x<y
     ·rw[if_pos h1]at h; simp at h
     ·by_cases h2:y<x
      ·rw[if_neg h1,if_pos h2]at h; simp at h
      ·rw[if_neg h1,if_neg h2]
   ·have hc2:Hid (1=cmpL l m):=by
     have:=hc.out;rw[hdx,List.drop_eq_nil_of_le (show m.length<=k by omega)]at this;exact this
    clear hdx hc hx
    go_wp2
    go_ret
    exact⟨oZ (λz=>Ending.returned (.int .i64 z)) hc2.out,rfl⟩
  ·have hke:k=l.length:=by omega
   subst hke;have hc2:Hid ((if l.length<m.length then -1 else 0)=cmpL l m):=by
    have:=hc.out;rw[List.drop_length]at this;rw[<- this]
    by_cases h:l.length<m.length
    ·rw[if_pos h,List.drop_eq_getElem_cons h]; rfl
    ·rw[if_neg h,List.drop_eq_nil_of_le (show m.length<=l.length by omega)]; rfl
   clear hc
   go_wp2
   ·rename_i h;have e:=hc2.out;rw[if_pos (by omega)]at e;clear hc2
    go_ret
    exact⟨oZ (λz=>Ending.returned (.int .i64 z)) e,rfl⟩
   ·rename_i h;have e:=hc2.out;rw[if_neg (by omega)]at e;clear hc2
    go_ret
    exact⟨oZ (λz=>Ending.returned (.int .i64 z)) e,rfl⟩
theorem YN(ao bo:Option Addr)(c1 c2 n:Nat)(w:World) :
  Calls Tryz.prog 48 #[.slice ao 0 c1,.slice bo n c2] w λe w'=>e=.returned (.int .i64 (if 0<n then -1 else 0))/\w'=w:=by
 have e74:∀ args w,(callFunc 72 args).run Tryz.prog w=.ok (.enter 72 args) w:=λargs w=>enters func72 (by kernel_rfl) (by kernel_rfl) args w
 go_enter func48,ntmps48
 go_wp2
 go_loop [11] (λi=>i=.int .i64 0) (λi=>0)
 case atStart=>rfl
 case round =>
  subst hrel
  go_wp2
  all_goals (go_ret; exact⟨rfl,rfl⟩)
theorem YU(b1 o1 n:Nat)(bo:Option Addr)(c1 c2:Nat)(x:Int)(w:World)(hn:0<n)(hx:w.cell? ⟨b1,o1,none⟩=some (.int .i64 x)) :
  Calls Tryz.prog 48 #[.slice (some ⟨b1,o1,none⟩) n c1,.slice bo 0 c2] w λe w'=>e=.returned (.int .i64 1)/\w'=w:=by
 have e74:∀ args w,(callFunc 72 args).run Tryz.prog w=.ok (.enter 72 args) w:=λargs w=>enters func72 (by kernel_rfl) (by kernel_rfl) args w
 go_enter func48,ntmps48
 go_wp2
 go_loop [11] (λi=>i=.int .i64 0) (λi=>0)
 case atStart=>rfl
 case round =>
  subst hrel
  go_wp2
  all_goals (go_ret; exact⟨rfl,rfl⟩)
theorem aA8 {w:World} {G:Nat->Prop} {l m:List Int} {v u:Value} (hv:VR w (Gd.of G) aF (kD (.int .i64) l none) v) (hu:VR w (Gd.of G) aF (kD (.int .i64) m none) u) (hl:l.length<=1048576) (hm:m.length<=1048576) :
  Calls Tryz.prog 48 #[v,u] w λe w'=>e=.returned (.int .i64 (cmpL l m))/\w'=w:=by
 unfold kD at hv hu;rw[VR]at hv hu;obtain⟨hv,-⟩:=hv;obtain⟨hu,-⟩:=hu;rw[VR]at hv hu;obtain⟨ao,c,rfl,-,-,h1⟩:=hv;obtain⟨bo,d,rfl,-,-,h2⟩:=hu;cases l with
 | nil =>
  refine(YN ao bo c d m.length w).mono ?_;rintro e w' ⟨rfl,rfl⟩;refine⟨?_,rfl⟩;cases m with
  | nil=>rfl
  | cons y m=>rfl
 | cons x l =>
  rcases h1 with h1|⟨b,off,rfl,-,h1⟩
  ·cases h1
  have hc:∀ (zs:List Int) (b off:Nat),aK w (Gd.of G) aF b off (aD (.int .i64) zs)->∀ j z,zs[j]?=some z->w.cell? ⟨b,off+j,none⟩=some (.int .i64 z):=λzs b off h j z hz=>by
   obtain⟨v,g1,g2⟩:=h.get (i:=j) (p:=.lit (.int .i64 z)) (by rw[aH3,List.getElem?_map,hz]; rfl);rw[VR]at g2;rw[g1,g2]
  cases m with
  | nil =>
   refine(YU b off (l.length+1) bo c d x w (Nat.succ_pos _) (by simpa using hc _ _ _ h1 0 x rfl)).mono ?_;rintro e w' ⟨rfl,rfl⟩;exact⟨rfl,rfl⟩
  | cons y m =>
   rcases h2 with h2|⟨b2,off2,rfl,-,h2⟩
   ·cases h2
   exact aBK b off c b2 off2 d (x::l) (y::m) w (hc _ _ _ h1) (hc _ _ _ h2) hl hm
theorem F7 {w:World} {G:Nat->Prop} {l m:List Int} {v u:Value} (hv:VR w (Gd.of G) aF (kD (.int .i64) l none) v) (hu:VR w (Gd.of G) aF (kD (.int .i64) m none) u) (hl:l.length<=1048576) (hm:m.length<=1048576) :
  Calls Tryz.prog 35 #[v,u] w λe w'=>e=.returned (.int .i64 (cmpL l m))/\w'=w:=by
 have e57:∀ args w,(callFunc 48 args).run Tryz.prog w=.ok (.enter 48 args) w:=λargs w=>enters func48 (by kernel_rfl) (by kernel_rfl) args w
 have h:=aA8 hv hu hl hm;clear hv hu
 go_enter func35,ntmps35
 go_wp2_with (go_at_fn 48; refine h.mono ?_; rintro e w' ⟨rfl,rfl⟩)
 go_ret
 exact⟨rfl,rfl⟩
abbrev M4:Ty:=.prod (.int .i64) (.prod (.list (.int .i64)) (.prod (.list (.int .i64)) (.list (.int .i64))))
def cfL(x y:M4.den):Int:=if cmpL x.2.2.1 y.2.2.1≠0 then cmpL x.2.2.1 y.2.2.1 else cmpL x.2.2.2 y.2.2.2
theorem aEN {w:World}{G:Nat->Prop}{x y:M4.den}{vx vy:List Value}(hG:Lt w G)(hx:VRs w (Gd.of G) aF (enc M4 x) vx)(hy:VRs w (Gd.of G) aF (enc M4 y) vy)(h1:x.2.2.1.length<=1048576)(h2:x.2.2.2.length<=1048576)(h3:y.2.2.1.length<=1048576)(h4:y.2.2.2.length<=1048576) :
  Calls Tryz.prog 15 #[.agg vx.toArray,.agg vy.toArray] w λe w'=>e=.returned (.int .i64 (cfL x y))/\∃ q os',w'=Sort.grow (w.drewN q) os':=by
 obtain⟨a,b,r,u⟩:=x;obtain⟨a',b',r',u'⟩:=y;have four:∀ {a:Int} {b r u:List Int} {vs:List Value},VRs w (Gd.of G) aF (enc M4 (a,b,r,u)) vs->∃ v1 v2 v3 v4,vs=[v1,v2,v3,v4]/\VR w (Gd.of G) aF (kD (.int .i64) r none) v3/\VR w (Gd.of G) aF (kD (.int .i64) u none) v4:=by
  intro a b r u vs h;have h:VRs w (Gd.of G) aF [.lit (.int .i64 a),kD (.int .i64) b none,kD (.int .i64) r none,kD (.int .i64) u none] vs:=h;rw[VRs]at h;obtain⟨v1,us,rfl,-,h⟩:=h;rw[VRs]at h;obtain⟨v2,us,rfl,-,h⟩:=h;rw[VRs]at h;obtain⟨v3,us,rfl,k3,h⟩:=h;rw[VRs]at h;obtain⟨v4,us,rfl,k4,h⟩:=h;rw[VRs]at h;subst h;exact⟨v1,v2,v3,v4,rfl,k3,k4⟩
 obtain⟨v1,v2,v3,v4,rfl,k3,k4⟩:=four hx;obtain⟨u1,u2,u3,u4,rfl,j3,j4⟩:=four hy;clear hx hy four;have hm:∀ o1 o2,Mono w (Gd.of G) aF ((w.alloc o1).alloc o2) (Gd.of G) aF:=λo1 o2=>by
  have hh:∀ b,b<w.heap.size->((w.alloc o1).alloc o2).heap[b]?=w.heap[b]?:=λb hb=>by rw[Below.heap_alloc _ _ _ (by simp; omega),Below.heap_alloc _ _ _ hb]
  exact⟨λb hb=>⟨hb,hh b (hG.lt b hb)⟩,λ_ _ h=>h,λ_ _ h=>h,λb n ⟨c,t,fr,e1,e2⟩=>⟨c,t,fr,by rw[hh b (eI e1)]; exact e1,e2⟩,λ_ _ h=>h,λ_ _ _=>rfl⟩
 have hl1:∀ o1 o2,Calls Tryz.prog 35 #[v3,u3] ((w.alloc o1).alloc o2) λe w2=>e=.returned (.int .i64 (cmpL r r'))/\w2=(w.alloc o1).alloc o2:=λo1 o2 =>
  F7 (VR.mono (hm o1 o2) _ _ k3) (VR.mono (hm o1 o2) _ _ j3) h1 h3
 have hl2:∀ o1 o2,Calls Tryz.prog 35 #[v4,u4] ((w.alloc o1).alloc o2) λe w2=>e=.returned (.int .i64 (cmpL u u'))/\w2=(w.alloc o1).alloc o2:=λo1 o2 =>
  F7 (VR.mono (hm o1 o2) _ _ k4) (VR.mono (hm o1 o2) _ _ j4) h2 h4
 have hgr:∀ o1 o2,∃ q os',(w.alloc o1).alloc o2=Sort.grow (w.drewN q) os':=λo1 o2=>⟨0,#[o1,o2],by rw[Sort.alloc_eq_grow,Sort.alloc_eq_grow,Sort.grow_grow]; rfl⟩
 obtain⟨z,hz⟩:∃ z,z=cfL (a,b,r,u) (a',b',r',u'):=⟨_,rfl⟩;rw[<- hz];have Hz:=aAY hz;have Hm:=aAY hm;clear hz hm k3 k4 j3 j4;generalize hc1:cmpL r r'=q1 at hl1;generalize hc2:cmpL u u'=q2 at hl2;have H1:=aAY hc1;have H2:=aAY hc2;have Hg:=aAY hgr;clear hc1 hc2 hgr h1 h2 h3 h4 hG;have e35:∀ args w,(callFunc 35 args).run Tryz.prog w=.ok (.enter 35 args) w:=λargs w=>enters func35 (by kernel_rfl) (by kernel_rfl) args w
 go_enter func15,ntmps15
 go_wp2_with (go_at_fn 35; first|(refine(hl1 _ _).mono ?_; rintro e w' ⟨rfl,rfl⟩)|(refine(hl2 _ _).mono ?_; rintro e w' ⟨rfl,rfl⟩))
 ·rename_i h;have e:q1=z:=by
   rw[Hz.out];unfold cfL;show q1=if cmpL r r'≠0 then cmpL r r' else cmpL u u'
   rw[H1.out,if_pos (by simpa using h)]
  go_ret
  exact⟨oZ (λz=>Ending.returned (.int .i64 z)) e,Hg.out _ _⟩
 ·rename_i h;have e:q2=z:=by
   rw[Hz.out];unfold cfL;show q2=if cmpL r r'≠0 then cmpL r r' else cmpL u u'
   rw[H1.out,H2.out,if_neg (by simpa using h)]
  go_ret
  exact⟨oZ (λz=>Ending.returned (.int .i64 z)) e,Hg.out _ _⟩
def J9(l:List M4.den) (x:M4.den):Bool:=(match l with
 | []=>false
 | y::_=>decide (x.1=y.1)&&decide (x.2.1=y.2.1))&&(Nat.ble x.2.2.1.length 1048576&&Nat.ble x.2.2.2.length 1048576)
def ltL(x y:M4.den):Bool:=decide (cfL x y<0)
theorem SC {x y:M4.den}:cfL x y<0↔cmpL x.2.2.1 y.2.2.1<0\/x.2.2.1=y.2.2.1/\cmpL x.2.2.2 y.2.2.2<0:=by
 unfold cfL
 by_cases h:cmpL x.2.2.1 y.2.2.1=0
 ·rw[if_neg (by simpa using h)];have e:x.2.2.1=y.2.2.1:=L0 h;constructor
  ·exact λk=>.inr ⟨e,k⟩
  ·rintro(k|⟨-,k⟩)
   ·omega
   ·exact k
 ·rw[if_pos h];constructor
  ·exact .inl
  ·rintro(k|⟨k,-⟩)
   ·exact k
   ·rw[k,C7]at h; exact absurd rfl h
theorem aT8(l:List M4.den):LO (J9 l) λx y=>decide (cfL x y<0) where
 irrefl x _:=by rw[decide_eq_false_iff_not,SC,C7,C7]; simp
 trans x y z _ _ _ h k:=by
  rw[decide_eq_true_eq,SC]at *;rcases h with h|⟨h1,h2⟩
  ·rcases k with k|⟨k1,k2⟩
   ·exact .inl (zR h k)
   ·rw[<- k1]; exact .inl h
  ·rcases k with k|⟨k1,k2⟩
   ·rw[h1]; exact .inl k
   ·exact .inr ⟨h1.trans k1,zR h2 k2⟩
 ntrans x y z _ _ _ h k:=by
  rw[decide_eq_false_iff_not,SC]at *;have tri:∀ a b:List Int,cmpL a b<0\/a=b\/cmpL b a<0:=λa b=>by
   by_cases h1:cmpL a b<0
   ·exact .inl h1
   ·by_cases h2:cmpL b a<0
    ·exact .inr (.inr h2)
    ·exact .inr (.inl (JG h1 h2))
  rintro(g|⟨g1,g2⟩)
  ·rcases tri x.2.2.1 y.2.2.1 with a|a|a
   ·exact h (.inl a)
   ·rw[a]at g; exact k (.inl g)
   ·exact k (.inl (zR a g))
  ·rcases tri x.2.2.1 y.2.2.1 with a|a|a
   ·exact h (.inl a)
   ·rcases tri x.2.2.2 y.2.2.2 with c|c|c
    ·exact h (.inr ⟨a,c⟩)
    ·rw[c]at g2; exact k (.inr ⟨a.symm.trans g1,g2⟩)
    ·exact k (.inr ⟨a.symm.trans g1,zR c g2⟩)
   ·exact k (.inl (by rw[g1]at a; exact a))
 anti x y hx hy h k:=by
  have h:¬ cfL x y<0:=by simpa using h
  have k:¬ cfL y x<0:=by simpa using k
  rw[SC]at h k;have e1:x.2.2.1=y.2.2.1:=JG (λa=>h (.inl a)) (λa=>k (.inl a));have e2:x.2.2.2=y.2.2.2:=JG (λa=>h (.inr ⟨e1,a⟩)) (λa=>k (.inr ⟨e1.symm,a⟩));unfold J9 at hx hy;cases l with
  | nil=>simp at hx
  | cons z l =>
   simp only[oA,decide_eq_true_eq]at hx hy;obtain⟨x1,x2,x3,x4⟩:=x;obtain⟨y1,y2,y3,y4⟩:=y;dsimp only at hx hy e1 e2;rw[e1,e2,hx.1.1,hx.1.2,hy.1.1,hy.1.2]
theorem aIU(l:List M4.den):aL5 Tryz.prog 15 M4 (J9 l) cfL:=by
 intro w G x y vx vy hG hx hy kx ky;unfold J9 at hx hy;simp only[oA]at hx hy;exact aEN hG kx ky (oL hx.2.1) (oL hx.2.2) (oL hy.2.1) (oL hy.2.2)
abbrev s54:Shr:=(17,aBL M4 15 J9 ltL)
theorem aS6:vB Tryz.prog s54 :=
 aK6 (t:=M4) rfl (by decide) aT8 aIU (λ_ _=>enters func17 (by kernel_rfl) (by kernel_rfl) _ _) (λ_ _=>enters func15 (by kernel_rfl) (by kernel_rfl) _ _)
  (λenc hk h1 cf hO cb blk off cap d w hcmp hH hblk hsz=>Tryz.O0 enc hk h1 cf hO 15 cb blk off cap d w (λ_ _=>enters func15 (by kernel_rfl) (by kernel_rfl) _ _) hcmp hH hblk hsz)
end Go.PM
namespace Go.PM
open Go Go.RowKit Go.Proofs Tryz
set_option maxHeartbeats 4000000
abbrev OL:List (Nat×Kd):=[(1,.box 38 (.prod (.int .i64) (.prod (.int .i64) (.int .i64)))),(4,.int .i64),(5,.int .i64),(36,.int .i64),(37,.int .i64)]
abbrev UR:List (Ex×List (Nat×Kd)):=[(.ret,[(2,.int .i64),(3,.int .i64)]),(.exit 0,[(4,.int .i64)])]
def aEB(x:Shape.den OL):Option (Shape.den OL⊕eB UR):=match x with
 | (v1,v4,v5,v36,v37,()) =>
  bif ltI v37 v36 then
   bif ltI 100000 (aH .i64 (v5*(aH .i64 ((aH .i64 ((aH .i64 (2*v1.2.2))+1))*(aH .i64 ((aH .i64 (2*v1.2.2))+1)))))) then
    some (.inr (.inl (0,4,())))
   else some (.inl ((v1.1,(v1.2.1,v1.2.2)),(aH .i64 (v4*(aH .i64 ((aH .i64 (2*v1.2.2))+1)))),(aH .i64 (v5*(aH .i64 ((aH .i64 ((aH .i64 (2*v1.2.2))+1))*(aH .i64 ((aH .i64 (2*v1.2.2))+1)))))),v36,(aH .i64 (v37+1)),()))
  else some (.inr (.inr ((v4,()))))
def DN(x:Shape.den OL):Option (eB UR):=bF aEB (2^64) x
def f51(x:aL [.agg (.prod (.int .i64) (.prod (.int .i64) (.int .i64)))]):Option (aL [.int .i64,.int .i64]):=match x with
 | (v0,()) =>
  bif !(eqI v0.1 1) then
   bif !(eqI v0.1 2) then
    some (0,12,())
   else bif ltI v0.2.1 0 then
    some (0,3,())
   else bif ltI 4 v0.2.1 then
    some (0,3,())
   else bif ltI v0.2.2 0 then
    some (0,3,())
   else bif ltI 0 v0.2.1 then
    bif ltI 100000 v0.2.2 then
     some (0,4,())
    else aB (DN ((v0.1,(v0.2.1,v0.2.2)),1,1,v0.2.1,0,())) λz1 =>
    j8 z1 (λa2=>some (a2.1,a2.2.1,())) λb3 =>
    some (b3.1,0,())
   else aB (DN ((v0.1,(v0.2.1,v0.2.2)),1,1,v0.2.1,0,())) λz4 =>
   j8 z4 (λa5=>some (a5.1,a5.2.1,())) λb6 =>
   some (b6.1,0,())
  else bif ltI v0.2.1 0 then
   some (0,3,())
  else bif ltI 4 v0.2.1 then
   some (0,3,())
  else bif ltI v0.2.2 0 then
   some (0,3,())
  else bif ltI 0 v0.2.1 then
   bif ltI 100000 v0.2.2 then
    some (0,4,())
   else aB (DN ((v0.1,(v0.2.1,v0.2.2)),1,1,v0.2.1,0,())) λz7 =>
   j8 z7 (λa8=>some (a8.1,a8.2.1,())) λb9 =>
   some (b9.1,0,())
  else aB (DN ((v0.1,(v0.2.1,v0.2.2)),1,1,v0.2.1,0,())) λz10 =>
  j8 z10 (λa11=>some (a11.1,a11.2.1,())) λb12 =>
  some (b12.1,0,())
def c51:Code:=cM f11
abbrev E51:Env:=qK []
theorem aNN:fC Tryz.prog E51:=aQ trivial
def aPM:Code:=kW c51 0
def aVN(id:Nat):Option bT:=bif Nat.beq id 9 then some ⟨OL,UR,DN⟩ else none
theorem aKT:∀ x,nP Tryz.prog E51 60 (bO f11) aVN aPM OL UR x=aEB x:=by
 rintro⟨v1,v4,v5,v36,v37,⟨⟩⟩
 kernel_rfl
theorem aOD:fJ Tryz.prog 60 aPM ⟨OL,UR,DN⟩:=kT aNN.callee aV.mixed _ (bQ (l:=[]) (by kernel_rfl) trivial) aKT
abbrev e51:Ent:=⟨11,[.agg (.prod (.int .i64) (.prod (.int .i64) (.int .i64)))],[.int .i64,.int .i64],f51⟩
theorem aUS:Ent.OK Tryz.prog e51:=HO aV aNN func11 (c:=c51) (by kernel_rfl) (aU:=bO f11) (lt:=aVN) (bQ (l:=[aPM]) (by kernel_rfl) ⟨j5 (i:=9) (by kernel_rfl) rfl aOD,trivial⟩) (by rintro⟨v0,⟨⟩⟩; kernel_rfl)
abbrev aGG:List (Nat×Kd):=[(1,.int .i64),(2,.box 38 (.prod (.int .i64) (.prod (.int .i64) (.int .i64)))),(5,.own 3 (.int .i64)),(6,.int .i64)]
abbrev aN7:List (Ex×List (Nat×Kd)):=[(.exit 0,[(5,.own 3 (.int .i64))])]
def NM(x:Shape.den aGG):Option (Shape.den aGG⊕eB aN7):=match x with
 | (v1,v2,v5,v6,()) =>
  bif !(ltI v6 0) then
   bif eqI (aH .i64 ((aH .i64 (2*v2.2.2))+1)) 0 then none else bif aN v6 v5.length then bif Nat.blt v6.toNat v5.length then bif eqI (aH .i64 ((aH .i64 (2*v2.2.2))+1)) 0 then none else some (.inl ((aH .i64 (v1.tdiv (aH .i64 ((aH .i64 (2*v2.2.2))+1)))),(v2.1,(v2.2.1,v2.2.2)),(v5.set v6.toNat (aH .i64 ((v1.tmod (aH .i64 ((aH .i64 (2*v2.2.2))+1)))-v2.2.2))),(aH .i64 (v6-1)),())) else none else none
  else some (.inr ((v5,())))
def MV(x:Shape.den aGG):Option (eB aN7):=bF NM (2^64) x
def f52(x:aL [.agg (.prod (.int .i64) (.prod (.int .i64) (.int .i64))),.int .i64]):Option (aL [.list (.int .i64)]):=match x with
 | (v0,v1,()) =>
  bif !(ltI v0.2.1 0) then bif !(ltI v0.2.1 v0.2.1) then bif !(ltI 1048576 v0.2.1) then aB (MV (v1,(v0.1,(v0.2.1,v0.2.2)),(List.replicate v0.2.1.toNat (0:Ty.den (.int .i64))),(aH .i64 (v0.2.1-1)),())) λz1 =>
  some (z1.1,()) else none else none else none
abbrev e52:Ent:=⟨12,[.agg (.prod (.int .i64) (.prod (.int .i64) (.int .i64))),.int .i64],[.list (.int .i64)],f52⟩
theorem aU2:Ent.OK Tryz.prog e52:=oU (aQ oW) func12 3 (lp:=MV) rfl (by kernel_rfl) (by rintro⟨v1,v2,v5,v6,⟨⟩⟩; kernel_rfl) (by rintro⟨v0,v1,⟨⟩⟩; kernel_rfl)
abbrev EW:List (Nat×Kd):=[(1,.bool),(7,.own 9 .str),(16,.list (.int .i64)),(17,.int .i64),(18,.int .i64)]
abbrev NX:List (Ex×List (Nat×Kd)):=[(.exit 0,[(1,.bool),(7,.own 9 .str)])]
def uG(x:Shape.den EW):Option (Shape.den EW⊕eB NX):=match x with
 | (v1,v7,v16,v17,v18,()) =>
  bif ltI v18 v17 then
   bif aN v18 v16.length then aB (kY ((v16.getD v18.toNat 0),())) λy3 =>
   bif Nat.ble [y3.1].length 1048576 then bif Nat.ble v7.length 1048576 then some (.inl (v1,(v7++[y3.1]),v16,v17,(aH .i64 (v18+1)),())) else none else none else none
  else some (.inr ((v1,v7,())))
def uQ(x:Shape.den EW):Option (eB NX):=bF uG (2^64) x
def DA(x:aL [.list (.int .i64),.bool]):Option (aL [.str,.int .i64]):=match x with
 | (v0,v1,()) =>
  aB (sP (v0,())) λy1 =>
  bif !(eqI y1.1 0) then
   some ((ByteArray.mk #[]),y1.1,())
  else aB (uQ (v1,[],v0,(v0.length:Int),0,())) λz4 =>
  aB (mI (z4.2.1,(ByteArray.mk #[32]),())) λy5 =>
  bif z4.1 then
   bif Nat.ble ((ByteArray.mk #[91]).size+y5.1.size) 9223372036854775807 then bif Nat.ble (((ByteArray.mk #[91])++y5.1).size+(ByteArray.mk #[62]).size) 9223372036854775807 then some ((((ByteArray.mk #[91])++y5.1)++(ByteArray.mk #[62])),0,()) else none else none
  else bif Nat.ble ((ByteArray.mk #[60]).size+y5.1.size) 9223372036854775807 then bif Nat.ble (((ByteArray.mk #[60])++y5.1).size+(ByteArray.mk #[93]).size) 9223372036854775807 then some ((((ByteArray.mk #[60])++y5.1)++(ByteArray.mk #[93])),0,()) else none else none
abbrev YG:Ent:=⟨36,[.list (.int .i64),.bool],[.str,.int .i64],DA⟩
theorem aAX:Ent.OK Tryz.prog YG:=oU (aQ (oV CV (oV D3 (oV PZ oW)))) func36 6 (lp:=uQ) rfl (by kernel_rfl) (by rintro⟨v1,v7,v16,v17,v18,⟨⟩⟩; kernel_rfl) (by rintro⟨v0,v1,⟨⟩⟩; kernel_rfl)
def f53(x:aL [.agg (.prod (.int .i64) (.prod (.list (.int .i64)) (.prod (.list (.int .i64)) (.list (.int .i64)))))]):Option (aL [.str]):=match x with
 | (v0,()) =>
  aB (DA (v0.2.2.1,true,())) λy1 =>
  aB (DA (v0.2.2.2,true,())) λy2 =>
  bif Nat.ble (y1.1.size+y2.1.size) 9223372036854775807 then some ((y1.1++y2.1),()) else none
def c53:Code:=cM f16
abbrev E53:Env:=qK [YG]
theorem aT0:fC Tryz.prog E53:=aQ ⟨aAX,trivial⟩
def aXT(id:Nat):Option bT:=none
abbrev e53:Ent:=⟨16,[.agg (.prod (.int .i64) (.prod (.list (.int .i64)) (.prod (.list (.int .i64)) (.list (.int .i64)))))],[.str],f53⟩
theorem aUY:Ent.OK Tryz.prog e53:=HO aV aT0 func16 (c:=c53) (by kernel_rfl) (aU:=bO f16) (lt:=aXT) (bQ (l:=[]) (by kernel_rfl) trivial) (by rintro⟨v0,⟨⟩⟩; kernel_rfl)
abbrev CR:List (Nat×Kd):=[(1,.box 38 (.prod (.int .i64) (.prod (.int .i64) (.int .i64)))),(2,.own 31 (.prod (.int .i64) (.prod (.list (.int .i64)) (.prod (.list (.int .i64)) (.list (.int .i64)))))),(3,.int .i64),(4,.int .i64),(6,.mpk 0),(7,.own 31 (.prod (.int .i64) (.prod (.list (.int .i64)) (.prod (.list (.int .i64)) (.list (.int .i64)))))),(8,.int .i64),(10,.box 31 (.prod (.int .i64) (.prod (.list (.int .i64)) (.prod (.list (.int .i64)) (.list (.int .i64)))))),(11,.box 31 (.prod (.int .i64) (.prod (.list (.int .i64)) (.prod (.list (.int .i64)) (.list (.int .i64)))))),(24,.int .i64),(25,.int .i64),(28,.int .i64),(29,.int .i64),(47,.clo 31 [(.list (.prod (.int .i64) (.int .i64)))]),(100000,.ar 1000000 .str)]
abbrev K0:List (Ex×List (Nat×Kd)):=[(.normal,[(1,.box 38 (.prod (.int .i64) (.prod (.int .i64) (.int .i64)))),(2,.own 31 (.prod (.int .i64) (.prod (.list (.int .i64)) (.prod (.list (.int .i64)) (.list (.int .i64)))))),(3,.int .i64),(4,.int .i64),(6,.mpk 0),(7,.own 31 (.prod (.int .i64) (.prod (.list (.int .i64)) (.prod (.list (.int .i64)) (.list (.int .i64)))))),(8,.int .i64),(11,.box 31 (.prod (.int .i64) (.prod (.list (.int .i64)) (.prod (.list (.int .i64)) (.list (.int .i64)))))),(24,.int .i64),(25,.int .i64),(28,.int .i64),(29,.int .i64),(100000,.ar 1000000 .str)])]
def LQ(x:Shape.den CR)(e:aL [.agg (.prod (.int .i64) (.prod (.int .i64) (.prod (.int .i64) (.int .i64))))]):Option (Shape.den CR⊕eB K0):=match x,e with
 | (v1,v2,v3,v4,v6,v7,v8,v10,v11,v24,v25,v28,v29,v47,u00,()),(e0,()) =>
  aB (f40 ((v10.1,(v10.2.1,(v10.2.2.1,v10.2.2.2))),(e0.1,(e0.2.1,(e0.2.2.1,e0.2.2.2))),())) λy5 =>
  aB (f48 ((y5.1.1,(y5.1.2.1,(y5.1.2.2.1,y5.1.2.2.2))),(v11.1,(v11.2.1,(v11.2.2.1,v11.2.2.2))),())) λy6 =>
  bif ltI y6.1 0 then
   some (.inl ((v1.1,(v1.2.1,v1.2.2)),v2,v3,v4,(),v7,v8,(v10.1,(v10.2.1,(v10.2.2.1,v10.2.2.2))),(y5.1.1,(y5.1.2.1,(y5.1.2.2.1,y5.1.2.2.2))),v24,v25,v28,v29,(v47.1,()),u00,()))
  else some (.inl ((v1.1,(v1.2.1,v1.2.2)),v2,v3,v4,(),v7,v8,(v10.1,(v10.2.1,(v10.2.2.1,v10.2.2.2))),(v11.1,(v11.2.1,(v11.2.2.1,v11.2.2.2))),v24,v25,v28,v29,(v47.1,()),u00,()))
def aAK(x:Shape.den CR):AS [(.list (.prod (.int .i64) (.int .i64)))]:=match x with
 | (v1,v2,v3,v4,v6,v7,v8,v10,v11,v24,v25,v28,v29,v47,u00,())=>(v47.1,())
def D0(x:Shape.den CR):Option (eB K0):=RU CR K0 (λx=>CH (aAK x)) LQ x
abbrev IN:List (Nat×Kd):=[(1,.box 38 (.prod (.int .i64) (.prod (.int .i64) (.int .i64)))),(2,.own 31 (.prod (.int .i64) (.prod (.list (.int .i64)) (.prod (.list (.int .i64)) (.list (.int .i64)))))),(3,.int .i64),(4,.int .i64),(6,.mpk 0),(7,.own 31 (.prod (.int .i64) (.prod (.list (.int .i64)) (.prod (.list (.int .i64)) (.list (.int .i64)))))),(8,.int .i64),(24,.int .i64),(25,.int .i64),(28,.int .i64),(29,.int .i64),(100000,.ar 1000000 .str)]
abbrev K7:List (Ex×List (Nat×Kd)):=[(.exit 2,[(1,.box 38 (.prod (.int .i64) (.prod (.int .i64) (.int .i64)))),(2,.own 31 (.prod (.int .i64) (.prod (.list (.int .i64)) (.prod (.list (.int .i64)) (.list (.int .i64)))))),(3,.int .i64),(4,.int .i64),(6,.mpk 0),(7,.own 31 (.prod (.int .i64) (.prod (.list (.int .i64)) (.prod (.list (.int .i64)) (.list (.int .i64)))))),(24,.int .i64),(25,.int .i64),(100000,.ar 1000000 .str)])]
def NK(x:Shape.den IN):Option (Shape.den IN⊕eB K7):=match x with
 | (v1,v2,v3,v4,v6,v7,v8,v24,v25,v28,v29,u00,()) =>
  bif ltI v29 v28 then
   bif !(ltI v1.2.1 0) then bif !(ltI v1.2.1 v1.2.1) then bif !(ltI 1048576 v1.2.1) then aB (f52 ((v1.1,(v1.2.1,v1.2.2)),v8,())) λy9 =>
   aB (f52 ((v1.1,(v1.2.1,v1.2.2)),v29,())) λy10 =>
   aB (f38 (v1.1,())) λy11 =>
   aB (D0 ((v1.1,(v1.2.1,v1.2.2)),v2,v3,v4,(),v7,v8,(v1.1,((List.replicate v1.2.1.toNat (0:Ty.den (.int .i64))),(y9.1,y10.1))),(v1.1,((List.replicate v1.2.1.toNat (0:Ty.den (.int .i64))),(y9.1,y10.1))),v24,v25,v28,v29,(y11.1.1,()),u00,())) λz12 =>
   aB (f53 ((z12.2.2.2.2.2.2.2.1.1,(z12.2.2.2.2.2.2.2.1.2.1,(z12.2.2.2.2.2.2.2.1.2.2.1,z12.2.2.2.2.2.2.2.1.2.2.2))),())) λy13 =>
   bif Nat.blt 0 z12.2.2.2.2.2.2.2.2.2.2.2.2.1.length then bif (K9 (z12.2.2.2.2.2.2.2.2.2.2.2.2.1.getD 0 []) y13.1) then
    some (.inl ((z12.1.1,(z12.1.2.1,z12.1.2.2)),z12.2.1,z12.2.2.1,z12.2.2.2.1,(),z12.2.2.2.2.2.1,z12.2.2.2.2.2.2.1,z12.2.2.2.2.2.2.2.2.1,z12.2.2.2.2.2.2.2.2.2.1,z12.2.2.2.2.2.2.2.2.2.2.1,(aH .i64 (z12.2.2.2.2.2.2.2.2.2.2.2.1+1)),z12.2.2.2.2.2.2.2.2.2.2.2.2.1,()))
   else bif Nat.blt 0 z12.2.2.2.2.2.2.2.2.2.2.2.2.1.length then bif Nat.ble [(z12.2.2.2.2.2.2.2.1.1,(z12.2.2.2.2.2.2.2.1.2.1,(z12.2.2.2.2.2.2.2.1.2.2.1,z12.2.2.2.2.2.2.2.1.2.2.2)))].length 1048576 then bif Nat.ble z12.2.2.2.2.2.1.length 1048576 then some (.inl ((z12.1.1,(z12.1.2.1,z12.1.2.2)),z12.2.1,z12.2.2.1,z12.2.2.2.1,(),(z12.2.2.2.2.2.1++[(z12.2.2.2.2.2.2.2.1.1,(z12.2.2.2.2.2.2.2.1.2.1,(z12.2.2.2.2.2.2.2.1.2.2.1,z12.2.2.2.2.2.2.2.1.2.2.2)))]),z12.2.2.2.2.2.2.1,z12.2.2.2.2.2.2.2.2.1,z12.2.2.2.2.2.2.2.2.2.1,z12.2.2.2.2.2.2.2.2.2.2.1,(aH .i64 (z12.2.2.2.2.2.2.2.2.2.2.2.1+1)),(aEV z12.2.2.2.2.2.2.2.2.2.2.2.2.1 0 y13.1),())) else none else none else none else none else none else none else none
  else some (.inr (((v1.1,(v1.2.1,v1.2.2)),v2,v3,v4,(),v7,v24,v25,u00,())))
def ED(x:Shape.den IN):Option (eB K7):=bF NK (2^64) x
abbrev KF:List (Nat×Kd):=[(1,.box 38 (.prod (.int .i64) (.prod (.int .i64) (.int .i64)))),(2,.own 31 (.prod (.int .i64) (.prod (.list (.int .i64)) (.prod (.list (.int .i64)) (.list (.int .i64)))))),(3,.int .i64),(4,.int .i64),(6,.mpk 0),(7,.own 31 (.prod (.int .i64) (.prod (.list (.int .i64)) (.prod (.list (.int .i64)) (.list (.int .i64)))))),(24,.int .i64),(25,.int .i64),(100000,.ar 1000000 .str)]
abbrev PU:List (Ex×List (Nat×Kd)):=[(.exit 0,[(7,.own 31 (.prod (.int .i64) (.prod (.list (.int .i64)) (.prod (.list (.int .i64)) (.list (.int .i64)))))),(100000,.ar 1000000 .str)])]
def T5(x:Shape.den KF):Option (Shape.den KF⊕eB PU):=match x with
 | (v1,v2,v3,v4,v6,v7,v24,v25,u00,()) =>
  bif ltI v25 v24 then
   aB (ED ((v1.1,(v1.2.1,v1.2.2)),v2,v3,v4,(),v7,v25,v24,v25,v4,0,u00,())) λz15 =>
   some (.inl ((z15.1.1,(z15.1.2.1,z15.1.2.2)),z15.2.1,z15.2.2.1,z15.2.2.2.1,(),z15.2.2.2.2.2.1,z15.2.2.2.2.2.2.1,(aH .i64 (z15.2.2.2.2.2.2.2.1+1)),z15.2.2.2.2.2.2.2.2.1,()))
  else some (.inr ((v7,u00,())))
def G9(x:Shape.den KF):Option (eB PU):=bF T5 (2^64) x
def f32(x:aL [.agg (.prod (.int .i64) (.prod (.int .i64) (.int .i64)))]):Option (aL [.list (.prod (.int .i64) (.prod (.list (.int .i64)) (.prod (.list (.int .i64)) (.list (.int .i64))))),.int .i64]):=match x with
 | (v0,()) =>
  aB (f51 ((v0.1,(v0.2.1,v0.2.2)),())) λy1 =>
  bif !(eqI y1.2.1 0) then
   some ([],y1.2.1,())
  else aB (G9 ((v0.1,(v0.2.1,v0.2.2)),[],0,y1.1,(),[],y1.1,0,[[]],())) λz16 =>
  aB (O5 J9 ltL z16.1) λy17 =>
  some (y17,0,())
def c32:Code:=cM f6
abbrev E32:Env:=WH [e38,e40,e48,e51,e52,e53] [s54]
theorem aBG:fC Tryz.prog E32:=yX ⟨ZA,aBH,YY,aUS,aU2,aUY,trivial⟩ ⟨aS6,trivial⟩
def aCR:Code:=inLoop (zT c32 0)
def aDW:Code:=inLoop (zT aCR 0)
def FX:Code:=zT aDW 0
def aWH:Code:=inLoop FX
def aLL(id:Nat):Option bT:=bif Nat.beq id 10 then some ⟨IN,K7,ED⟩ else bif Nat.beq id 7 then some ⟨KF,PU,G9⟩ else none
def aPD(id:Nat):Option bT:=bif Nat.beq id 16 then some ⟨CR,K0,D0⟩ else none
theorem aK2:aO aWH=16:=by kernel_rfl
theorem aCG:FX=.rangeFunc (D9 FX) (PB FX) (l8 FX) (inLoop FX):=by kernel_rfl
theorem aJV:∀ y e,IC Tryz.prog E32 74 (j7 f6) aLL aPD (PB FX).toList (l8 FX) (inLoop FX) [.agg (.prod (.int .i64) (.prod (.int .i64) (.prod (.int .i64) (.int .i64))))] CR K0 y e=LQ y e:=by
 rintro⟨v1,v2,v3,v4,v6,v7,v8,v10,v11,v24,v25,v28,v29,v47,u00,⟨⟩⟩ ⟨e0,⟨⟩⟩
 kernel_rfl
theorem aQE:∀ x,TR 31 [(.list (.prod (.int .i64) (.int .i64)))] CR (D9 FX) x=some (aAK x):=by
 rintro⟨v1,v2,v3,v4,v6,v7,v8,v10,v11,v24,v25,v28,v29,v47,u00,⟨⟩⟩
 kernel_rfl
theorem aNV:qL Tryz.prog 74 false [] FX ⟨CR,K0,D0⟩:=EC aBG aV aCG func31 (c:=cM f31) (by kernel_rfl) aRO (by kernel_rfl) (gY (l:=[]) (by kernel_rfl) trivial) aQE aJV
theorem aUF:bP aDW=[FX]:=by kernel_rfl
theorem aJX:∀ x,E8 Tryz.prog E32 74 (j7 f6) aLL aPD false [] aDW IN K7 x=NK x:=by
 rintro⟨v1,v2,v3,v4,v6,v7,v8,v24,v25,v28,v29,u00,⟨⟩⟩
 kernel_rfl
theorem aOO:qL Tryz.prog 74 false [] (.loop aDW) ⟨IN,K7,ED⟩:=xB aBG.callee aV.mixed _ (gY aUF ⟨zO aCG aK2 rfl aNV,trivial⟩) aJX
theorem aSZ:bP aCR=[.loop aDW]:=by kernel_rfl
theorem aJ1:∀ x,E8 Tryz.prog E32 74 (j7 f6) aLL aPD false [] aCR KF PU x=T5 x:=by
 rintro⟨v1,v2,v3,v4,v6,v7,v24,v25,u00,⟨⟩⟩
 kernel_rfl
theorem aLV:qL Tryz.prog 74 false [] (.loop aCR) ⟨KF,PU,G9⟩:=xB aBG.callee aV.mixed _ (gY aSZ ⟨AR (i:=10) (by kernel_rfl) rfl aOO,trivial⟩) aJ1
theorem aQQ:bP c32=[.loop aCR]:=by kernel_rfl
theorem aS9:∀ x,aF5 Tryz.prog E32 f6 (j7 f6) aLL aPD c32 1000000 .str [.agg (.prod (.int .i64) (.prod (.int .i64) (.int .i64)))] [.list (.prod (.int .i64) (.prod (.list (.int .i64)) (.prod (.list (.int .i64)) (.list (.int .i64))))),.int .i64] x=f32 x:=by
 rintro⟨v0,⟨⟩⟩
 kernel_rfl
abbrev e32:Ent:=⟨6,[.agg (.prod (.int .i64) (.prod (.int .i64) (.int .i64)))],[.list (.prod (.int .i64) (.prod (.list (.int .i64)) (.prod (.list (.int .i64)) (.list (.int .i64))))),.int .i64],f32⟩
theorem aMO:Ent.OK Tryz.prog e32:=aUW aV aBG func6 (c:=c32) (by kernel_rfl) (aU:=j7 f6) (lt:=aLL) (rt:=aPD) (gY aQQ ⟨AR (i:=7) (by kernel_rfl) rfl aLV,trivial⟩) aS9
end Go.PM
namespace Go.PM
open Go Go.RowKit Go.Proofs
def Dn(u:Nat):ByteArray:=⟨(Lib.decDigits u).toArray⟩
def Zn(n:Int):ByteArray:=⟨(Lib.itoa n).toArray⟩
theorem qH u:(Dn u).data.toList=Lib.decDigits u:=by rfl
theorem aPZ n:(Zn n).data.toList=Lib.itoa n:=by rfl
theorem ZZ(u:Nat):Zn u=Dn u:=by rfl
theorem aD0 {n}(h:n.natAbs<10^20):rV n=Zn n:=S8 h
theorem EX {n}(h:n<0):(Zn n).data.toList=45::Lib.decDigits n.natAbs:=by rw[aPZ,Lib.itoa,if_pos h]
theorem EO {n}(h:0<=n):Zn n=Dn n.natAbs:=by
 obtain⟨u,rfl⟩:∃ u:Nat,n=u:=⟨n.natAbs,by omega⟩;rfl
theorem AK {a b:ByteArray}(h:a.data.toList=b.data.toList):a=b:=by cases a; simp_all
theorem JH(a:ByteArray):a.size=a.data.toList.length:=by rfl
theorem T6(l m:List UInt8):∀ (acc:Nat),Lib.decFrom acc (l++m)=(Lib.decFrom acc l).bind λa=>Lib.decFrom a m:=by
 induction l with
 | nil=>intro acc; rfl
 | cons b l ih =>
  intro acc;rw[List.cons_append,Lib.decFrom,Lib.decFrom];split
  ·grind
  ·rfl
theorem W8 {d}(h:d<10):Lib.digitVal (UInt8.ofNat (48+d))=some d:=by
 have h1:(UInt8.ofNat (48+d)).toNat=48+d:=by
  rw[UInt8.toNat_ofNat'];omega
 unfold Lib.digitVal;grind
theorem iO u:Lib.decFrom 0 (Lib.decDigits u)=some u:=by
 induction u using Nat.strongRecOn with
 | _ u ih =>
  rw[Lib.decDigits];split
  ·rename_i h;rw[Lib.decFrom,W8 h];simp[Lib.decFrom]
  ·rw[T6,ih (u/10) (by omega)];simp only[Option.bind_some];rw[Lib.decFrom,W8 (Nat.mod_lt _ (by simp))];simp only[Lib.decFrom];grind
theorem uW u:Lib.decDigits u≠[]:=by
 rw[Lib.decDigits];split <;> simp
theorem wD u:∀ b∈Lib.decDigits u,48<=b.toNat/\b.toNat<=57:=by
 induction u using Nat.strongRecOn with
 | _ u ih =>
  intro b hb;rw[Lib.decDigits]at hb;have key:∀ d,d<10->48<=(UInt8.ofNat (48+d)).toNat/\(UInt8.ofNat (48+d)).toNat<=57:=λd h=>by rw[UInt8.toNat_ofNat']; omega
  grind
theorem aMH {a b}(h:Dn a=Dn b):a=b:=by
 have h1:=oZ (λx:ByteArray=>Lib.decFrom 0 x.data.toList) h;simp only[qH,iO]at h1;grind
theorem QE {n}(h:n<0) m:Zn n≠Dn m:=by
 intro e;have h1:=oZ (λx:ByteArray=>x.data.toList) e;simp only[EX h,qH]at h1;have:=wD m 45 (by grind);grind
theorem aTX {a b}(h:Zn a=Zn b):a=b:=by
 rcases(by omega:a<0\/0<=a)with ha|ha
 ·rcases(by omega:b<0\/0<=b)with hb|hb
  ·have h1:=oZ (λx:ByteArray=>x.data.toList) h;simp only[EX ha,EX hb,List.cons.injEq,true_and]at h1;have h2:=oZ (Lib.decFrom 0) h1;rw[iO,iO]at h2;grind
  ·rw[EO hb]at h;exact absurd h (QE ha _)
 ·rcases(by omega:b<0\/0<=b)with hb|hb
  ·rw[EO ha]at h;exact absurd h.symm (QE hb _)
  ·rw[EO ha,EO hb]at h;have:=aMH h;omega
theorem aLE a b:eqS a b=decide (a=b):=by
 unfold eqS
 by_cases h:a=b
 ·grind
 ·have:¬ a.data=b.data:=λe=>h (AK (by grind))
  simp_all
theorem aXJ:ByteArray.mk #[48]=Dn 0:=AK (by rw[qH,Lib.decDigits]; rfl)
theorem aXR:ByteArray.mk #[49]=Dn 1:=AK (by rw[qH,Lib.decDigits]; rfl)
theorem vY n:eqS (Zn n) (ByteArray.mk #[48])=decide (n=0):=by
 rw[aLE,aXJ,((ZZ 0).symm)]
 by_cases h:n=0
 ·grind
 ·have :=λe=>h (aTX e)
  grind
theorem aA9 n:eqS (Dn n) (ByteArray.mk #[48])=decide (n=0):=by
 rw[<- ZZ,vY];simp
theorem yU u:(Dn u).size=Lib.nDigits u:=by rw[JH,qH,Lib.decDigits_length]
theorem wN {n}(h:n<0):(Zn n).size=Lib.nDigits n.natAbs+1:=by rw[JH,EX h,List.length_cons,Lib.decDigits_length]
theorem jH {u k}:u<10^(k+1)->Lib.nDigits u<=k+1:=by
 induction k generalizing u with
 | zero=>intro h; rw[Lib.nDigits_small (by grind)]; simp
 | succ k ih =>
  by_cases h1:u<10
  ·grind
  ·rw[Lib.nDigits_big h1];grind
theorem jQ u:u<10^Lib.nDigits u:=by
 have:=Lib.decFrom_lt _ _ _ (iO u);rw[Lib.decDigits_length]at this;grind
theorem nDigits_pos u:1<=Lib.nDigits u:=by rw[Lib.nDigits]; grind
theorem aR4 n:Lib.atoi (Zn n).data.toList=some n:=by
 rcases(by omega:n<0\/0<=n)with h|h
 ·rw[EX h];have hne:(Lib.decDigits n.natAbs).isEmpty=false:=by
   cases e:Lib.decDigits n.natAbs with
   | nil=>exact absurd e (uW _)
   | cons _ _=>rfl
  simp only[Lib.atoi,Lib.decNat,iO];grind
 ·rw[EO h,qH];have h1:=iO n.natAbs;have h2:=wD n.natAbs;cases e:Lib.decDigits n.natAbs with
  | nil=>exact absurd e (uW _)
  | cons b r =>
   rw[e]at h1 h2;have hb:=h2 b (by simp);have n45:(b==45)=false:=by
    rw[beq_eq_false_iff_ne]; rintro rfl;grind
   have n43:(b==43)=false:=by
    rw[beq_eq_false_iff_ne]; rintro rfl;grind
   simp only[Lib.atoi,n45,Lib.decNat,h1];grind
theorem XW u:Lib.decNat (Dn u).data.toList=some u:=by
 have hne:(Lib.decDigits u).isEmpty=false:=by
  cases e:Lib.decDigits u with
  | nil=>exact absurd e (uW _)
  | cons _ _=>rfl
 simp only[qH,Lib.decNat,hne,iO];rfl
theorem K5:∀ (l:List UInt8) (acc n:Nat),Lib.decFrom acc l=some n->acc*10^l.length<=n
 | [],acc,n,h=>by
  obtain rfl:=oB h;simp
 | b::l,acc,n,h=>by
  rw[Lib.decFrom]at h;split at h
  ·rename_i d hd;have:=K5 l _ n h;rw[List.length_cons,Nat.pow_succ];grind
  ·cases h
theorem DK:∀ l m acc x y,l.length=m.length->Lib.decFrom acc l=some x->Lib.decFrom acc m=some y->Op.bytesLess l m=decide (x<y)
 | [],[],acc,x,y,_,h1,h2=>by
  obtain rfl:=oB h1;obtain rfl:=oB h2;simp[Op.bytesLess]
 | [],_::_,_,_,_,h,_,_=>by simp at h
 | _::_,[],_,_,_,h,_,_=>by simp at h
 | c::l,d::m,acc,x,y,h,h1,h2=>by
  have hl:l.length=m.length:=by simpa using h
  have digit:∀ (b:UInt8) (e:Nat),Lib.digitVal b=some e->b.toNat=48+e/\e<10:=by
   intro b e he;unfold Lib.digitVal at he;grind
  rw[Lib.decFrom]at h1 h2;split at h1
  ·rename_i e1 he1;split at h2
   ·rename_i e2 he2;obtain⟨c1,c2⟩:=digit c e1 he1;obtain⟨d1,d2⟩:=digit d e2 he2;have x1:=Lib.decFrom_lt l _ x h1;have x2:=K5 l _ x h1;have y1:=Lib.decFrom_lt m _ y h2;have y2:=K5 m _ y h2;rw[hl]at x1 x2;rw[Op.bytesLess];rcases Nat.lt_trichotomy e1 e2 with g|g|g
    ·have lt:c<d:=by rw[UInt8.lt_iff_toNat_lt]; omega
     have:(acc*10+e1+1)*10^m.length<=(acc*10+e2)*10^m.length:=Nat.mul_le_mul_right _ (by omega);grind
    ·subst g;have e:c=d:=UInt8.toNat_inj.1 (by omega);subst e;have lt:¬ c<c:=by rw[UInt8.lt_iff_toNat_lt]; omega
     simp[lt,DK l m _ x y hl h1 h2]
    ·have lt:¬ c<d:=by rw[UInt8.lt_iff_toNat_lt]; omega
     have ne:¬ c=d:=by rintro rfl; omega
     have:(acc*10+e2+1)*10^m.length<=(acc*10+e1)*10^m.length:=Nat.mul_le_mul_right _ (by omega);grind
   ·cases h2
  ·cases h1
theorem aT4 {a b}(h:Lib.nDigits a=Lib.nDigits b):ltS (Dn a) (Dn b)=decide (a<b):=by
 unfold ltS;rw[qH,qH];exact DK _ _ 0 a b (by rw[Lib.decDigits_length,Lib.decDigits_length,h]) (iO a) (iO b)
theorem qJ {a b}(h:a<=b):Lib.nDigits a<=Lib.nDigits b:=by
 obtain⟨k,hk⟩:∃ k,Lib.nDigits b=k+1:=⟨Lib.nDigits b-1,by have:=nDigits_pos b; omega⟩;rw[hk];refine jH (Nat.lt_of_le_of_lt h ?_);rw[<- hk];exact jQ b
theorem aUV a b:eqS (Dn a) (Dn b)=decide (a=b):=by
 rw[aLE]
 by_cases h:a=b
 ·grind
 ·have :=λe=>h (aMH e)
  grind
def MU(a b:Nat):Int:=if a<b then -1 else if b<a then 1 else 0
theorem pI a b (ha:Lib.nDigits a<2^32)(hb:Lib.nDigits b<2^32):cU (Dn a,Dn b,())=some (MU a b,()):=by
 unfold cU;dsimp only;rw[yU,yU]
 by_cases h:Lib.nDigits a=Lib.nDigits b
 ·have h1:eqI (Lib.nDigits a:Int) (Lib.nDigits b:Int)=true:=by rw[dE]; simp[h]
  rw[h1,aT4 h,aUV];unfold MU;grind
 ·have h1:eqI (Lib.nDigits a:Int) (Lib.nDigits b:Int)=false:=by rw[dE]; simp; omega
  rw[h1];rw[wrap64 (by omega) (by omega)];unfold MU
  by_cases h2:a<b
  ·have:=qJ (Nat.le_of_lt h2);grind
  ·have h3:b<a:=by
    grind
   have:=qJ (Nat.le_of_lt h3);grind
theorem nG(n:Int) (h1 : -9223372036854775808<=n) (h2:n<9223372036854775808):gT (n,())=some (Zn n,()):=by
 unfold gT kY;have e1:ltI n (-9223372036854775808)=false:=by rw[aI]; grind
 have e2:ltI 9223372036854775807 n=false:=by rw[aI]; simp; omega
 simp only[e1,e2,Bool.not_false,Bool.and_self,oC,aC,aD0 (n:=n) (by omega)]
theorem BD(u:Nat)(h:u<18446744073709551616):nX ((u:Int),())=some (Dn u,()):=by
 unfold nX kJ;have e1:ltI u 0=false:=by rfl
 have e2:ltI u 18446744073709551616=true:=by rw[aI]; grind
 have e3:eqI 10 10=true:=by rfl
 simp only[e1,e2,e3,Bool.not_false,Bool.and_self,oC,aC,aD0 (n:=u) (by grind),ZZ]
theorem JY u (h:Lib.nDigits u<=18):rF (Dn u,())=some ((u:Int),true,()):=by
 unfold rF lC;have e1:Nat.ble (Dn u).size 1000000000=true:=by rw[gP,yU]; grind
 have e2:eqI 10 10=true:=by rfl
 have e3:eqI 64 64=true:=by rfl
 have e4:Lib.parseUintB 64 (Dn u).data.toList=.ok u:=by
  rw[Lib.parseUintB_64,Lib.parseMag_short _ (by rw[qH,Lib.decDigits_length]; omega),XW];rfl
 simp only[e1,e2,e3,Bool.and_self,oC,aC,e4]
theorem yT a b (ha:Lib.nDigits a<=18)(hb:Lib.nDigits b<=18):mN (Dn a,Dn b,())=some ((a:Int),(b:Int),true,()):=by
 unfold mN;have e1:ltI 18 ((Dn a).size)=false:=by rw[aI,yU]; simp; omega
 have e2:ltI 18 ((Dn b).size)=false:=by rw[aI,yU]; grind
 simp only[e1,e2,oD,JY a ha,JY b hb,aC]
theorem I0 {s c l}(h:s.data.toList=c::l):VS s 0=c.toNat:=by
 have h1:s[0]?=some c:=by
  have h3:s.data[0]?=some c:=by rw[<- Array.getElem?_toList,h]; rfl
  have h4:s[0]?=s.data[0]?:=by rfl
  grind
 unfold VS;grind
theorem aHS u:∃ c l,(Dn u).data.toList=c::l/\c.toNat≠45:=by
 have h:=wD u;rw[qH];cases e:Lib.decDigits u with
 | nil=>exact absurd e (uW _)
 | cons c l =>
  grind
theorem YS {s:ByteArray}{c l}(h:s.data.toList=c::l):s.extract 1 s.size=⟨l.toArray⟩:=by
 refine AK ?_;have h1:(s.extract 1 s.size).data=s.data.extract 1 s.data.size:=ByteArray.data_extract;rw[h1,Array.toList_extract,List.extract_eq_take_drop,h];have h2:s.data.size=l.length+1:=by rw[<- Array.length_toList,h]; rfl
 grind
theorem kX n:bC (Zn n,())=some (decide (n<0),Dn n.natAbs,()):=by
 unfold bC
 by_cases h:n<0
 ·have hz:=EX h;have e1:ltI 0 ((Zn n).size:Int)=true:=by rw[aI,wN h]; simp <;> omega
  have e2:aN 0 (Zn n).size=true:=by rw[aX,wN h]; simp <;> omega
  have e3:VS (Zn n) 0=45:=by rw[I0 hz]; rfl
  have e4:Nat.ble 1 (Zn n).size=true:=by rw[gP,wN h]; simp
  have e5:Nat.ble (Zn n).size (Zn n).size=true:=by simp
  have e6:eqI 45 45=true:=by decide
  simp only[e1,e2,e3,e4,e5,e6,oC,YS hz,h,decide_true,Dn]
 ·rw[EO (by omega)];obtain⟨c,l,h1,h2⟩:=aHS n.natAbs;have hs:(Dn n.natAbs).size=l.length+1:=by rw[JH,h1]; rfl
  have e2:aN 0 (Dn n.natAbs).size=true:=by rw[aX,hs]; simp <;> omega
  have e3:eqI (VS (Dn n.natAbs) 0) 45=false:=by rw[I0 h1,dE]; simp <;> omega
  grind
theorem SU(b:Bool) m (hm:Lib.nDigits m<2^32):aA (b,Dn m,())=some (Zn (if b then -m else m),()):=by
 unfold aA;cases b with
 | false=>rfl
 | true =>
  have e2:Nat.ble ((ByteArray.mk #[45]).size+(Dn m).size) 9223372036854775807=true:=by
   rw[gP,yU];have:(ByteArray.mk #[45]).size=1:=rfl;grind
  simp only[aA9,e2]
  by_cases h:m=0
  ·subst h;rfl
  ·simp only[h,decide_false,Bool.not_false,oC];simp only[if_true]
   congr 2
   refine AK ?_;rw[EX (by omega),Joins.data_append,qH];grind
theorem gS m (hm:Lib.nDigits m<2^32):aA (true,Dn m,())=some (Zn (-m),()):=(SU true m hm).trans (by rfl)
theorem jT m (hm:Lib.nDigits m<2^32):aA (false,Dn m,())=some (Zn m,()):=(SU false m hm).trans (by rfl)
theorem rQ(n k:Int)(hk:k<=18):jP (Zn n,k,())=if ((Zn n).size)<=k then some (n,true,()) else some (0,false,()):=by
 unfold jP
 by_cases h:((Zn n).size)<=k
 ·have e1:ltI k ((Zn n).size:Int)=false:=by rw[aI]; grind
  have e2:Nat.ble (Zn n).size 18=true:=by simp <;> omega
  rw[if_pos h];simp only[e1,oD,sJ,e2,oC,aR4,aC]
 ·have e1:ltI k ((Zn n).size)=true:=by rw[aI]; grind
  grind
theorem KC n:rH (Zn n,())=some (n.sign,()):=by
 unfold rH;simp only[vY]
 by_cases h0:n=0
 ·grind
 ·by_cases h:n<0
  ·have hz:=EX h;have e2:aN 0 (Zn n).size=true:=by rw[aX,wN h]; simp <;> omega
   have e3:VS (Zn n) 0=45:=by rw[I0 hz]; rfl
   have e6:eqI 45 45=true:=by decide
   grind
  ·rw[EO (by omega)];obtain⟨c,l,h1,h2⟩:=aHS n.natAbs;have hs:(Dn n.natAbs).size=l.length+1:=by rw[JH,h1]; rfl
   have e2:aN 0 (Dn n.natAbs).size=true:=by rw[aX,hs]; simp
   have e3:eqI (VS (Dn n.natAbs) 0) 45=false:=by rw[I0 h1,dE]; simp <;> omega
   grind
theorem WV n (h:Lib.nDigits n.natAbs<2^32):zZ (Zn n,())=some (Zn (-n),()):=by
 unfold zZ;simp only[kX n]
 by_cases h0:n<0
 ·simp only[jT _ h,aC];grind
 ·simp only[gS _ h,aC];grind
theorem X2 n:BE (Zn n,())=some (Zn n.natAbs,()):=by
 unfold BE;simp only[kX n,aC,ZZ]
theorem VW(a b:Nat) (ha:Lib.nDigits a<2^32) (hb:Lib.nDigits b<2^32):tR (Zn (a:Int),Zn (b:Int),())=some (MU a b,()):=by
 unfold tR;have sg:∀ n:Nat,(n:Int).sign=if n=0 then 0 else 1:=λn=>by grind
 simp only[KC (a:Int),KC (b:Int),kX (a:Int),kX (b:Int),aC,sg];have e0:∀ n:Nat,decide ((n:Int)<0)=false:=λn=>by simp
 by_cases h1:a=0
 ·by_cases h2:b=0
  ·have e:eqI 0 0=true:=by decide
   simp only[h1,h2,if_true,e,Bool.not_true,oD,e0,Int.natAbs_natCast];have:=pI a b ha hb;rw[h1,h2]at this;simp only[this,aC]
  ·have:eqI 0 1=false:=by decide
   have e:ltI 0 1=true:=by decide
   simp only[h1,h2,if_true,if_false,this,e,Bool.not_false,oC];unfold MU;grind
 ·by_cases h2:b=0
  ·have:eqI 1 0=false:=by decide
   have e:ltI 1 0=false:=by decide
   simp only[h1,h2,if_true,if_false,this,e,Bool.not_false,oC,oD];unfold MU;grind
  ·have e:eqI 1 1=true:=by decide
   simp only[h1,h2,if_false,e,Bool.not_true,oD,e0,Int.natAbs_natCast,pI a b ha hb,aC]
theorem M3 {u}(h:Lib.nDigits u<=18):u<1000000000000000000:=by
 have h1:=jQ u;have h2:10^Lib.nDigits u<=10^18:=Nat.pow_le_pow_right (by simp) h;omega
theorem aHU {x}(h1:0<=x)(h2:x<18446744073709551616):aH .u64 x=x:=by
 rw[UM,IntKind.wrap_u64];omega
theorem BU a b (ha:Lib.nDigits a<=18)(hb:Lib.nDigits b<=18):dG (Dn a,Dn b,())=some (Dn (a+b),()):=by
 have h1:=M3 ha;have h2:=M3 hb;unfold dG;simp only[yT a b ha hb,aC];rw[aHU (by omega) (by omega)];have:a+b=((a+b:Nat):Int):=by rfl
 rw[this,BD _ (by omega)];rfl
theorem tH a b (ha:Lib.nDigits a<=18)(hb:Lib.nDigits b<=18)(h:b<=a):bM (Dn a,Dn b,())=some (Dn (a-b),0,()):=by
 have h1:=M3 ha;unfold bM;have e:ltI (MU a b) 0=false:=by
  rw[aI]; unfold MU;grind
 simp only[pI a b (by omega) (by omega),yT a b ha hb,aC,e];rw[aHU (by omega) (by omega)];have:a-b=((a-b:Nat):Int):=by omega
 rw[this,BD _ (by omega)];rfl
theorem aCD a b (h:Lib.nDigits a+Lib.nDigits b<=18):dH (Dn a,Dn b,())=some (Dn (a*b),()):=by
 have h3:a*b<1000000000000000000:=by
  have h1:=jQ a;have h2:=jQ b;have h4 :=Nat.mul_lt_mul'' h1 h2;rw[<- Nat.pow_add]at h4;have h5:10^(Lib.nDigits a+Lib.nDigits b)<=10^18:=Nat.pow_le_pow_right (by decide) h;omega
 unfold dH;have e:ltI 18 (aH .i64 (((Dn a).size:Int)+((Dn b).size:Int)))=false:=by
  rw[yU,yU,wrap64 (by omega) (by omega),aI];grind
 simp only[e,yT a b (by omega) (by omega),aC];have e2:(a:Int)*(b:Int)=((a*b:Nat):Int):=by rfl
 rw[e2,aHU (by omega) (by omega),BD _ (by omega)];rfl
theorem S1 a b (ha:Lib.nDigits a<=18)(hb:Lib.nDigits b<=18)(h:b≠0):kE (Dn a,Dn b,())=some (Dn (a/b),Dn (a%b),0,()):=by
 have h1:=M3 ha;unfold kE;have e1:eqI (b:Int) 0=false:=by rw[dE]; simp; omega
 have q1:(a:Int).tdiv (b:Int)=((a/b:Nat):Int):=rfl;have q2:(a:Int).tmod (b:Int)=((a%b:Nat):Int):=rfl;have l1:a/b<=a:=Nat.div_le_self _ _;have l2:a%b<=a:=Nat.mod_le _ _;simp only[aA9,h,yT a b ha hb,aC,e1,q1,q2];generalize a/b=q at *;rw[aHU (by omega) (by omega),BD _ (by omega),aC,BD _ (by omega)];rfl
theorem aJM(x y:Int) (hx:Lib.nDigits x.natAbs<=18) (hy:Lib.nDigits y.natAbs<=18):FT (Zn x,Zn y,())=some (Zn (x+y),()):=by
 have h1:=M3 hx;have h2:=M3 hy;have slow:(aB (bC (Zn x,())) λy4=>aB (bC (Zn y,())) λy5 =>
   bif y4.1 then
    bif y5.1 then
     aB (dG (y4.2.1,y5.2.1,())) λy6 =>
     aB (aA (y4.1,y6.1,())) λy7 =>
     some (y7.1,())
    else aB (cU (y4.2.1,y5.2.1,())) λy8 =>
    bif ltI y8.1 0 then
     aB (bM (y5.2.1,y4.2.1,())) λy9 =>
     aB (aA (y5.1,y9.1,())) λy10 =>
     some (y10.1,())
    else aB (bM (y4.2.1,y5.2.1,())) λy11 =>
    aB (aA (y4.1,y11.1,())) λy12 =>
    some (y12.1,())
   else bif y5.1 then
    aB (cU (y4.2.1,y5.2.1,())) λy13 =>
    bif ltI y13.1 0 then
     aB (bM (y5.2.1,y4.2.1,())) λy14 =>
     aB (aA (y5.1,y14.1,())) λy15 =>
     some (y15.1,())
    else aB (bM (y4.2.1,y5.2.1,())) λy16 =>
    aB (aA (y4.1,y16.1,())) λy17 =>
    some (y17.1,())
   else aB (dG (y4.2.1,y5.2.1,())) λy18 =>
   aB (aA (y4.1,y18.1,())) λy19 =>
   some (y19.1,()))=some (Zn (x+y),()):=by
  simp only[kX x,kX y,aC];have dg:∀ u:Nat,u<2000000000000000000->Lib.nDigits u<2^32:=λu hu=>by
   have:=jH (u:=u) (k:=18) (by omega);omega
  have cm:∀ a b:Nat,ltI (MU a b) 0=decide (a<b):=λa b=>by
   rw[aI]; unfold MU
   by_cases g:a<b
   ·simp[g]
   ·simp only[g,if_false]; split <;> simp
  rcases(by omega:x<0\/0<=x)with gx|gx
  ·rcases(by omega:y<0\/0<=y)with gy|gy
   ·simp only[gx,gy,decide_true,oC,BU _ _ hx hy,aC,gS (x.natAbs+y.natAbs) (dg _ (by omega))];have : -((x.natAbs+y.natAbs:Nat):Int)=x+y:=by omega
    rw[this]
   ·have gy':¬ y<0:=by omega
    simp only[gx,gy',decide_true,decide_false,oC,oD,pI x.natAbs y.natAbs (by omega) (by omega),aC,cm]
    by_cases g:x.natAbs<y.natAbs
    ·simp only[g,decide_true,oC,tH _ _ hy hx (Nat.le_of_lt g),aC,jT (y.natAbs-x.natAbs) (dg _ (by omega))];have:((y.natAbs-x.natAbs:Nat):Int)=x+y:=by omega
     rw[this]
    ·simp only[g,decide_false,oD,tH _ _ hx hy (Nat.not_lt.1 g),aC,gS (x.natAbs-y.natAbs) (dg _ (by omega))];have : -((x.natAbs-y.natAbs:Nat):Int)=x+y:=by omega
     rw[this]
  ·have gx':¬ x<0:=by omega
   rcases(by omega:y<0\/0<=y)with gy|gy
   ·simp only[gx',gy,decide_true,decide_false,oC,oD,pI x.natAbs y.natAbs (by omega) (by omega),aC,cm]
    by_cases g:x.natAbs<y.natAbs
    ·simp only[g,decide_true,oC,tH _ _ hy hx (Nat.le_of_lt g),aC,gS (y.natAbs-x.natAbs) (dg _ (by omega))];have : -((y.natAbs-x.natAbs:Nat):Int)=x+y:=by omega
     rw[this]
    ·simp only[g,decide_false,oD,tH _ _ hx hy (Nat.not_lt.1 g),aC,jT (x.natAbs-y.natAbs) (dg _ (by omega))];have:((x.natAbs-y.natAbs:Nat):Int)=x+y:=by omega
     rw[this]
   ·have gy':¬ y<0:=by omega
    simp only[gx',gy',decide_false,oD,BU _ _ hx hy,aC,jT (x.natAbs+y.natAbs) (dg _ (by omega))];have:((x.natAbs+y.natAbs:Nat):Int)=x+y:=by omega
    rw[this]
 unfold FT;simp only[rQ x 18 (by decide),rQ y 18 (by decide),aC]
 by_cases g1:((Zn x).size:Int)<=18
 ·simp only[g1,if_true,aC,oC]
  by_cases g2:((Zn y).size:Int)<=18
  ·simp only[g2,if_true,aC,oC];rw[wrap64 (by omega) (by omega),nG _ (by omega) (by omega)];rfl
  ·simp only[g2,if_false,aC,oD];exact slow
 ·simp only[g1,if_false,aC,oD];exact slow
theorem W9 x y (hx:Lib.nDigits x.natAbs<=18)(hy:Lib.nDigits y.natAbs<=18):AB (Zn x,Zn y,())=some (Zn (x-y),()):=by
 unfold AB;simp only[WV y (by omega),aC];rw[aJM x (-y) hx (by grind)];rfl
theorem XD(x y:Int) (h:Lib.nDigits x.natAbs+Lib.nDigits y.natAbs<=18):AE (Zn x,Zn y,())=some (Zn (x*y),()):=by
 have p1:=nDigits_pos x.natAbs;have p2:=nDigits_pos y.natAbs;have hb:x.natAbs*y.natAbs<1000000000000000000:=by
  have h1:=jQ x.natAbs;have h2:=jQ y.natAbs;have h4:x.natAbs*y.natAbs<10^Lib.nDigits x.natAbs*10^Lib.nDigits y.natAbs:=Nat.mul_lt_mul'' h1 h2;rw[<- Nat.pow_add]at h4;have h5:10^(Lib.nDigits x.natAbs+Lib.nDigits y.natAbs)<=10^18:=Nat.pow_le_pow_right (by decide) h;omega
 have hab:(x*y).natAbs=x.natAbs*y.natAbs:=Int.natAbs_mul _ _;have slow:(aB (bC ((Zn x),())) λy14 =>
  aB (bC ((Zn y),())) λy15 =>
  bif y14.1 then
   bif y15.1 then
    aB (dH (y14.2.1,y15.2.1,())) λy16 =>
    aB (aA (false,y16.1,())) λy17 =>
    some (y17.1,())
   else aB (dH (y14.2.1,y15.2.1,())) λy18 =>
   aB (aA (true,y18.1,())) λy19 =>
   some (y19.1,())
  else bif y15.1 then
   aB (dH (y14.2.1,y15.2.1,())) λy20 =>
   aB (aA (true,y20.1,())) λy21 =>
   some (y21.1,())
  else aB (dH (y14.2.1,y15.2.1,())) λy22 =>
  aB (aA (false,y22.1,())) λy23 =>
  some (y23.1,()))=some (Zn (x*y),()):=by
  have dg:Lib.nDigits (x.natAbs*y.natAbs)<2^32:=by
   have:=jH (u:=x.natAbs*y.natAbs) (k:=18) (by omega);omega
  have dm:=aCD _ _ h;simp only[kX x,kX y,aC,dm];rcases(by omega:x<0\/0<=x)with gx|gx
  ·rcases(by omega:y<0\/0<=y)with gy|gy
   ·have:((x.natAbs*y.natAbs:Nat):Int)=x*y:=by
     rw[<- hab]; have:=Int.mul_pos_of_neg_of_neg gx gy; omega
    simp only[gx,gy,decide_true,oC,jT _ dg,aC,this]
   ·have gy':¬ y<0:=by omega
    have : -((x.natAbs*y.natAbs:Nat):Int)=x*y:=by rw[<- hab]; have:=Int.mul_nonpos_of_nonpos_of_nonneg (Int.le_of_lt gx) gy; omega
    simp only[gx,gy',decide_true,decide_false,oC,oD,gS _ dg,aC,this]
  ·have gx':¬ x<0:=by omega
   rcases(by omega:y<0\/0<=y)with gy|gy
   ·have : -((x.natAbs*y.natAbs:Nat):Int)=x*y:=by
     rw[<- hab]; have:=Int.mul_nonpos_of_nonneg_of_nonpos gx (Int.le_of_lt gy); omega
    simp only[gx',gy,decide_true,decide_false,oC,oD,gS _ dg,aC,this]
   ·have gy':¬ y<0:=by omega
    have:((x.natAbs*y.natAbs:Nat):Int)=x*y:=by rw[<- hab]; have:=Int.mul_nonneg gx gy; omega
    simp only[gx',gy',decide_false,oD,jT _ dg,aC,this]
 unfold AE;simp only[rQ x 9 (by decide),rQ y 9 (by decide),aC]
 by_cases g1:((Zn x).size:Int)<=9
 ·simp only[g1,if_true,aC,oC]
  by_cases g2:((Zn y).size:Int)<=9
  ·simp only[g2,if_true,aC,oC];rw[wrap64 (by omega) (by omega),nG _ (by omega) (by omega)];rfl
  ·simp only[g2,if_false,aC,oD];exact slow
 ·simp only[g1,if_false,aC,oD];exact slow
theorem iP {x y f g:Int} (h:x=y*f+g) (hp:0<y->0<=g/\g<y) (hn:y<0->y<g/\g<=0) (h0:y≠0):x.fdiv y=f/\x.fmod y=g:=by
 have key:∀ x y f g:Int,x=y*f+g->0<y->0<=g->g<y->x.fdiv y=f/\x.fmod y=g:=by
  intro x y f g h hy h1 h2;have e1:=Int.fmod_def x y;have e2:=Int.fmod_nonneg_of_pos x hy;have e3:=Int.fmod_lt_of_pos x hy;have e4:y*(x.fdiv y-f)=g-x.fmod y:=by rw[Int.mul_sub]; omega
  have e5:x.fdiv y-f=0:=by
   rcases Int.lt_trichotomy (x.fdiv y-f) 0 with g1|g1|g1
   ·have:y*(x.fdiv y-f)<=y*(-1):=Int.mul_le_mul_of_nonneg_left (by omega) (by omega);omega
   ·exact g1
   ·have:y*1<=y*(x.fdiv y-f):=Int.mul_le_mul_of_nonneg_left (by omega) (by omega);omega
  rw[e5]at e4;omega
 rcases Int.lt_or_gt_of_ne h0 with g1|g1
 ·obtain⟨h1,h2⟩:=hn g1;have:=key (-x) (-y) f (-g) (by rw[h]; grind) (by omega) (by omega) (by omega);rw[Int.neg_fdiv_neg,Int.neg_fmod_neg]at this;omega
 ·obtain⟨h1,h2⟩:=hp g1;exact key x y f g h g1 h1 h2
theorem FN(x y:Int) (hx:Lib.nDigits x.natAbs<=18) (hy:Lib.nDigits y.natAbs<=18) (h0:y≠0):pV (Zn x,Zn y,())=some (Zn (x.fdiv y),Zn (x.fmod y),0,()):=by
 have b1:=M3 hx;have b2:=M3 hy;have slow:(aB (bC ((Zn x),())) λy68 =>
  aB (bC ((Zn y),())) λy69 =>
  aB (kE (y68.2.1,y69.2.1,())) λy70 =>
  bif !(eqI y70.2.2.1 0) then
   some ((ByteArray.mk #[]),(ByteArray.mk #[]),y70.2.2.1,())
  else bif y68.1 then
   bif y69.1 then
    bif y68.1 then
     bif y69.1 then
      aB (aA (false,y70.1,())) λy71 =>
      aB (aA (y69.1,y70.2.1,())) λy72 =>
      some (y71.1,y72.1,0,())
     else aB (aA (true,y70.1,())) λy73 =>
     aB (aA (y69.1,y70.2.1,())) λy74 =>
     some (y73.1,y74.1,0,())
    else bif y69.1 then
     aB (aA (true,y70.1,())) λy75 =>
     aB (aA (y69.1,y70.2.1,())) λy76 =>
     some (y75.1,y76.1,0,())
    else aB (aA (false,y70.1,())) λy77 =>
    aB (aA (y69.1,y70.2.1,())) λy78 =>
    some (y77.1,y78.1,0,())
   else bif !(eqS y70.2.1 (ByteArray.mk #[48])) then
    aB (dG (y70.1,(ByteArray.mk #[49]),())) λy79 =>
    aB (bM (y69.2.1,y70.2.1,())) λy80 =>
    bif y68.1 then
     bif y69.1 then
      aB (aA (false,y79.1,())) λy81 =>
      aB (aA (y69.1,y80.1,())) λy82 =>
      some (y81.1,y82.1,0,())
     else aB (aA (true,y79.1,())) λy83 =>
     aB (aA (y69.1,y80.1,())) λy84 =>
     some (y83.1,y84.1,0,())
    else bif y69.1 then
     aB (aA (true,y79.1,())) λy85 =>
     aB (aA (y69.1,y80.1,())) λy86 =>
     some (y85.1,y86.1,0,())
    else aB (aA (false,y79.1,())) λy87 =>
    aB (aA (y69.1,y80.1,())) λy88 =>
    some (y87.1,y88.1,0,())
   else bif y68.1 then
    bif y69.1 then
     aB (aA (false,y70.1,())) λy89 =>
     aB (aA (y69.1,y70.2.1,())) λy90 =>
     some (y89.1,y90.1,0,())
    else aB (aA (true,y70.1,())) λy91 =>
    aB (aA (y69.1,y70.2.1,())) λy92 =>
    some (y91.1,y92.1,0,())
   else bif y69.1 then
    aB (aA (true,y70.1,())) λy93 =>
    aB (aA (y69.1,y70.2.1,())) λy94 =>
    some (y93.1,y94.1,0,())
   else aB (aA (false,y70.1,())) λy95 =>
   aB (aA (y69.1,y70.2.1,())) λy96 =>
   some (y95.1,y96.1,0,())
  else bif y69.1 then
   bif !(eqS y70.2.1 (ByteArray.mk #[48])) then
    aB (dG (y70.1,(ByteArray.mk #[49]),())) λy97 =>
    aB (bM (y69.2.1,y70.2.1,())) λy98 =>
    bif y68.1 then
     bif y69.1 then
      aB (aA (false,y97.1,())) λy99 =>
      aB (aA (y69.1,y98.1,())) λy100 =>
      some (y99.1,y100.1,0,())
     else aB (aA (true,y97.1,())) λy101 =>
     aB (aA (y69.1,y98.1,())) λy102 =>
     some (y101.1,y102.1,0,())
    else bif y69.1 then
     aB (aA (true,y97.1,())) λy103 =>
     aB (aA (y69.1,y98.1,())) λy104 =>
     some (y103.1,y104.1,0,())
    else aB (aA (false,y97.1,())) λy105 =>
    aB (aA (y69.1,y98.1,())) λy106 =>
    some (y105.1,y106.1,0,())
   else bif y68.1 then
    bif y69.1 then
     aB (aA (false,y70.1,())) λy107 =>
     aB (aA (y69.1,y70.2.1,())) λy108 =>
     some (y107.1,y108.1,0,())
    else aB (aA (true,y70.1,())) λy109 =>
    aB (aA (y69.1,y70.2.1,())) λy110 =>
    some (y109.1,y110.1,0,())
   else bif y69.1 then
    aB (aA (true,y70.1,())) λy111 =>
    aB (aA (y69.1,y70.2.1,())) λy112 =>
    some (y111.1,y112.1,0,())
   else aB (aA (false,y70.1,())) λy113 =>
   aB (aA (y69.1,y70.2.1,())) λy114 =>
   some (y113.1,y114.1,0,())
  else bif y68.1 then
   bif y69.1 then
    aB (aA (false,y70.1,())) λy115 =>
    aB (aA (y69.1,y70.2.1,())) λy116 =>
    some (y115.1,y116.1,0,())
   else aB (aA (true,y70.1,())) λy117 =>
   aB (aA (y69.1,y70.2.1,())) λy118 =>
   some (y117.1,y118.1,0,())
  else bif y69.1 then
   aB (aA (true,y70.1,())) λy119 =>
   aB (aA (y69.1,y70.2.1,())) λy120 =>
   some (y119.1,y120.1,0,())
  else aB (aA (false,y70.1,())) λy121 =>
  aB (aA (y69.1,y70.2.1,())) λy122 =>
  some (y121.1,y122.1,0,()))=some (Zn (x.fdiv y),Zn (x.fmod y),0,()):=by
  have dm:=S1 _ _ hx hy (show y.natAbs≠0 by omega);have ed:x.natAbs=y.natAbs*(x.natAbs/y.natAbs)+x.natAbs%y.natAbs:=(Nat.div_add_mod _ _).symm;have lm:x.natAbs%y.natAbs<y.natAbs:=Nat.mod_lt _ (by omega);have lq:x.natAbs/y.natAbs<=x.natAbs:=Nat.div_le_self _ _;have e00:eqI 0 0=true:=by decide
  simp only[kX x,kX y,aC,dm,e00,Bool.not_true,oD,aA9,aXR];generalize x.natAbs/y.natAbs=q at *;generalize x.natAbs%y.natAbs=r at *;have dg:∀ u:Nat,u<2000000000000000000->Lib.nDigits u<2^32:=λu hu=>by
   have:=jH (u:=u) (k:=18) (by omega);omega
  have d18:∀ u:Nat,u<1000000000000000000->Lib.nDigits u<=18:=λu hu=>jH (k:=17) (by omega)
  have edI:(x.natAbs:Int)=(y.natAbs:Int)*(q:Int)+(r:Int):=by rw[ed]; simp
  rcases(by omega:x<0\/0<=x)with gx|gx
  ·rcases(by omega:y<0\/0<=y)with gy|gy
   ·simp only[gx,gy,decide_true,oC,jT q (dg _ (by omega)),gS r (dg _ (by omega)),aC];have ex:x=y*(q:Int) + -(r:Int):=by
     have a1:(x.natAbs:Int) = -x:=by omega
     have a2:(y.natAbs:Int) = -y:=by omega
     rw[a1,a2]at edI;grind
    obtain⟨u1,u2⟩:=iP ex (by omega) (by omega) h0;rw[u1,u2]
   ·have gy':¬ y<0:=by omega
    by_cases hr:r=0
    ·simp only[gx,gy',hr,decide_true,decide_false,Bool.not_true,oC,oD,gS q (dg _ (by omega)),jT 0 (dg _ (by omega)),aC];have ex:x=y * -(q:Int)+((0:Nat):Int):=by
      have a1:(x.natAbs:Int) = -x:=by omega
      have a2:(y.natAbs:Int)=y:=by omega
      rw[a1,a2,hr]at edI;grind
     obtain⟨u1,u2⟩:=iP ex (by omega) (by omega) h0;rw[u1,u2]
    ·simp only[gx,gy',hr,decide_true,decide_false,Bool.not_false,Bool.not_true,oC,oD,BU q 1 (d18 _ (by omega)) (d18 _ (by omega)),tH y.natAbs r hy (d18 _ (by omega)) (Nat.le_of_lt lm),gS (q+1) (dg _ (by omega)),jT (y.natAbs-r) (dg _ (by omega)),aC];have ex:x=y * -((q+1:Nat):Int)+((y.natAbs-r:Nat):Int):=by
      have a1:(x.natAbs:Int) = -x:=by omega
      have a2:(y.natAbs:Int)=y:=by omega
      have a3:((y.natAbs-r:Nat):Int)=y-r:=by omega
      have a4:((q+1:Nat):Int)=(q:Int)+1:=by omega
      rw[a1,a2]at edI;rw[a3,a4];grind
     obtain⟨u1,u2⟩:=iP ex (by omega) (by omega) h0;rw[u1,u2]
  ·have gx':¬ x<0:=by omega
   rcases(by omega:y<0\/0<=y)with gy|gy
   ·by_cases hr:r=0
    ·simp only[gx',gy,hr,decide_true,decide_false,Bool.not_true,oC,oD,gS q (dg _ (by omega)),gS 0 (dg _ (by omega)),aC];have ex:x=y * -(q:Int) + -((0:Nat):Int):=by
      have a1:(x.natAbs:Int)=x:=by omega
      have a2:(y.natAbs:Int) = -y:=by omega
      rw[a1,a2,hr]at edI;grind
     obtain⟨u1,u2⟩:=iP ex (by omega) (by omega) h0;rw[u1,u2]
    ·simp only[gx',gy,hr,decide_true,decide_false,Bool.not_false,Bool.not_true,oC,oD,BU q 1 (d18 _ (by omega)) (d18 _ (by omega)),tH y.natAbs r hy (d18 _ (by omega)) (Nat.le_of_lt lm),gS (q+1) (dg _ (by omega)),gS (y.natAbs-r) (dg _ (by omega)),aC];have ex:x=y * -((q+1:Nat):Int) + -((y.natAbs-r:Nat):Int):=by
      have a1:(x.natAbs:Int)=x:=by omega
      have a2:(y.natAbs:Int) = -y:=by omega
      have a3:((y.natAbs-r:Nat):Int) = -y-r:=by omega
      have a4:((q+1:Nat):Int)=(q:Int)+1:=by omega
      rw[a1,a2]at edI;rw[a3,a4];grind
     obtain⟨u1,u2⟩:=iP ex (by omega) (by omega) h0;rw[u1,u2]
   ·have gy':¬ y<0:=by omega
    simp only[gx',gy',decide_true,decide_false,oD,jT q (dg _ (by omega)),jT r (dg _ (by omega)),aC];have ex:x=y*(q:Int)+(r:Int):=by
     have a1:(x.natAbs:Int)=x:=by omega
     have a2:(y.natAbs:Int)=y:=by omega
     rw[a1,a2]at edI;exact edI
    obtain⟨u1,u2⟩:=iP ex (by omega) (by omega) h0;rw[u1,u2]
 unfold pV;simp only[rQ x 18 (by decide),rQ y 18 (by decide),aC,vY,h0,decide_false,oD]
 by_cases g1:((Zn x).size:Int)<=18
 ·simp only[g1,if_true,aC,oC]
  by_cases g2:((Zn y).size:Int)<=18
  ·simp only[g2,if_true,aC,oC];have e1:eqI y 0=false:=by rw[dE]; simp[h0]
   have t1:x=y*x.tdiv y+x.tmod y:=(Int.mul_tdiv_add_tmod x y).symm;have t2:(x.tmod y).natAbs<y.natAbs:=by rw[Int.natAbs_tmod]; exact Nat.mod_lt _ (by omega)
   have t3:(x.tdiv y).natAbs<=x.natAbs:=by rw[Int.natAbs_tdiv]; exact Nat.div_le_self _ _
   have t4:0<=x->0<=x.tmod y:=λh=>Int.tmod_nonneg y h
   have t5:x<=0->x.tmod y<=0:=λh=>by
    have:=Int.tmod_nonneg (a:=-x) y (by omega);rw[Int.neg_tmod]at this;omega
   simp only[e1,oD,dE,aI];generalize x.tdiv y=q at *;generalize x.tmod y=r at *
   by_cases hr:r=0
   ·obtain⟨u1,u2⟩:=iP (x:=x) (y:=y) (f:=q) (g:=r) t1 (by omega) (by omega) h0;simp only[hr,decide_true,Bool.not_true,oD];rw[wrap64 (by omega) (by omega),nG _ (by omega) (by omega),aC,nG _ (by omega) (by omega),aC,u1,u2,hr]
   ·simp only[hr,decide_false,Bool.not_false,oC]
    by_cases r1:r<0
    ·by_cases y1:y<0
     ·obtain⟨u1,u2⟩:=iP (x:=x) (y:=y) (f:=q) (g:=r) t1 (by omega) (by omega) h0;simp only[r1,y1,decide_true,oC];rw[wrap64 (by omega) (by omega),nG _ (by omega) (by omega),aC,nG _ (by omega) (by omega),aC,u1,u2]
     ·obtain⟨u1,u2⟩:=iP (x:=x) (y:=y) (f:=q-1) (g:=r+y) (by grind) (by omega) (by omega) h0;simp only[r1,y1,decide_true,decide_false,oC,oD];rw[wrap64 (x:=q) (by omega) (by omega),wrap64 (by omega) (by omega),nG _ (by omega) (by omega),aC,wrap64 (by omega) (by omega),nG _ (by omega) (by omega),aC,u1,u2]
    ·by_cases y1:y<0
     ·obtain⟨u1,u2⟩:=iP (x:=x) (y:=y) (f:=q-1) (g:=r+y) (by grind) (by omega) (by omega) h0;simp only[r1,y1,decide_true,decide_false,oC,oD];rw[wrap64 (x:=q) (by omega) (by omega),wrap64 (by omega) (by omega),nG _ (by omega) (by omega),aC,wrap64 (by omega) (by omega),nG _ (by omega) (by omega),aC,u1,u2]
     ·obtain⟨u1,u2⟩:=iP (x:=x) (y:=y) (f:=q) (g:=r) t1 (by omega) (by omega) h0;simp only[r1,y1,decide_false,oD];rw[wrap64 (by omega) (by omega),nG _ (by omega) (by omega),aC,nG _ (by omega) (by omega),aC,u1,u2]
  ·simp only[g2,if_false,aC,oD];exact slow
 ·simp only[g1,if_false,aC,oD];exact slow
end Go.PM
namespace Go.Lz
abbrev V:=Nat->Int
inductive Sp (k:Nat) (M:Nat->V):V->Prop
 | zero:Sp k M (λ_=>0)
 | add {v:V} (j:Nat) (t:Int):j<k->Sp k M v->Sp k M (λi=>v i+t*M j i)
theorem Sp.mem {k M j}(h:j<k):Sp k M (M j):=by
 have:=Sp.add j 1 h (Sp.zero (M:=M));grind
theorem Sp.comb {k M u v} t (hu:Sp k M u)(hv:Sp k M v):Sp k M (λi=>u i+t*v i):=by
 induction hv with
 | zero=>grind
 | add j s hj _ ih =>
  have:=Sp.add j (t*s) hj ih;grind
theorem Sp.smul {k M v} t (hv:Sp k M v):Sp k M (λi=>t*v i):=by
 have:=Sp.comb t Sp.zero hv;grind
theorem Sp.sub {k M u v}(hu:Sp k M u)(hv:Sp k M v):Sp k M (λi=>u i-v i):=by
 have:=Sp.comb (-1) hu hv;grind
theorem Sp.trans {k k' M M'}(h:∀ j,j<k->Sp k' M' (M j)){v}(hv:Sp k M v):Sp k' M' v:=by
 induction hv with
 | zero=>exact .zero
 | add j t hj _ ih=>exact Sp.comb t ih (h j hj)
theorem Sp.N2 {k M x}(h:∀ j,j<k->M j x=0){v}(hv:Sp k M v):v x=0:=by
 induction hv with
 | zero=>rfl
 | add j t hj _ ih=>grind
def Same(k:Nat) (M:Nat->V) (k':Nat) (M':Nat->V):Prop:=∀ v,Sp k M v↔Sp k' M' v
theorem Same.refl k M:Same k M k M:=λ_=>Iff.rfl
theorem Same.symm {k k' M M'}(h:Same k M k' M'):Same k' M' k M:=λv=>(h v).symm
theorem Same.trans {k k' k'' M M' M''}(h:Same k M k' M')(g:Same k' M' k'' M''):Same k M k'' M'':=λv=>(h v).trans (g v)
theorem Same.of {k k' M M'}(h:∀ j,j<k->Sp k' M' (M j))(g:∀ j,j<k'->Sp k M (M' j)):Same k M k' M':=λ_=>⟨Sp.trans h,Sp.trans g⟩
theorem Sp.first {k:Nat} {M:Nat->V} {v:V} (h:Sp (k+1) M v):∃ t u,Sp k (λi=>M (i+1)) u/\v=λi=>u i+t*M 0 i:=by
 induction h with
 | zero=>exact⟨0,λ_=>0,.zero,by funext i; simp⟩
 | add j s hj _ ih =>
  obtain⟨t,u,hu,rfl⟩:=ih;cases j with
  | zero=>exact⟨t+s,u,hu,by funext i; grind⟩
  | succ j=>exact⟨t,_,Sp.add j s (by omega) hu,by funext i; grind⟩
theorem Sp.behind {k M u}(h:Sp k (λi=>M (i+1)) u):Sp (k+1) M u :=
 Sp.trans (λj hj=>Sp.mem (by omega)) h
structure Hn (k:Nat) (M:Nat->V) (c:Nat->Nat):Prop where
 inc:∀ i j,i<j->j<k->c i<c j
 low:∀ i,i<k->∀ x,x<c i->M i x=0
 pos:∀ i,i<k->0<M i (c i)
 red:∀ i j,i<j->j<k->0<=M i (c j)/\M i (c j)<M j (c j)
theorem Hn.tail {k M c}(h:Hn (k+1) M c):Hn k (λi=>M (i+1)) (λi=>c (i+1)) where
 inc:=λi j hij hj=>h.inc _ _ (by omega) (by omega)
 low:=λi hi=>h.low _ (by omega)
 pos:=λi hi=>h.pos _ (by omega)
 red:=λi j hij hj=>h.red _ _ (by omega) (by omega)
theorem Hn.aQM {k M c}(h:Hn (k+1) M c){u}(hu:Sp k (λi=>M (i+1)) u){x}(hx:x<=c 0):u x=0 :=
 Sp.N2 (λj hj=>h.low (j+1) (by omega) x (by have:=h.inc 0 (j+1) (by simp) (by omega); omega)) hu
theorem Hn.small:∀ {k:Nat} {M:Nat->V} {c:Nat->Nat},Hn k M c->∀ {v:V},Sp k M v->(∀ i,i<k->-(M i (c i))<v (c i)/\v (c i)<M i (c i))->v=λ_=>0
 | 0,M,c,h,v,hv,_=>by
  cases hv with
  | zero=>rfl
  | add j t hj _=>omega
 | k+1,M,c,h,v,hv,hs=>by
  obtain⟨t,u,hu,rfl⟩:=hv.first;have h0:=h.aQM hu (Nat.le_refl _);have hs0:=hs 0 (by omega);simp only[h0,Int.zero_add]at hs0;have ht:t=0:=by
   rcases Int.lt_trichotomy t 0 with h1|h1|h1
   ·have:t*M 0 (c 0)<=(-1)*M 0 (c 0):=Int.mul_le_mul_of_nonneg_right (by omega) (by omega);omega
   ·exact h1
   ·have:1*M 0 (c 0)<=t*M 0 (c 0):=Int.mul_le_mul_of_nonneg_right (by omega) (by omega);omega
  subst ht;have e:(λi=>u i+0*M 0 i)=u:=by funext i; simp
  rw[e]at hs ⊢;exact Hn.small h.tail hu λi hi=>hs (i+1) (by omega)
def up(M:Nat->V) (i:Nat) (r:V):Nat->V:=λj=>if j=i then r else M j
theorem B8 M i r:up M i r i=r:=by simp[up]
theorem uL M {i j} r (h:j≠i):up M i r j=M j:=by simp[up,h]
def swp(M:Nat->V)(a b:Nat):Nat->V:=λj=>if j=a then M b else if j=b then M a else M j
theorem aME {k a b} M (ha:a<k)(hb:b<k):Same k M k (swp M a b):=by
 refine Same.of (λj hj=>?_) (λj hj=>?_)
 ·by_cases h1:j=a
  ·subst h1
   by_cases h2:b=j
   ·have:=Sp.mem (M:=swp M j b) ha;simp only[swp,h2]at this ⊢;exact this
   ·have:=Sp.mem (M:=swp M j b) hb;simp only[swp,h2]at this ⊢;exact this
  ·by_cases h2:j=b
   ·subst h2;have:=Sp.mem (M:=swp M a j) ha;simp only[swp]at this ⊢;grind
   ·have:=Sp.mem (M:=swp M a b) hj;simp only[swp]at this ⊢;grind
 ·unfold swp;split
  ·exact Sp.mem hb
  ·split
   ·exact Sp.mem ha
   ·exact Sp.mem hj
theorem X8 {k i d} M q (hi:i<k)(hd:d<k)(hne:i≠d):Same k M k (up M i λx=>M i x-q*M d x):=by
 refine Same.of (λj hj=>?_) (λj hj=>?_)
 ·by_cases h:j=i
  ·subst h;have h1:=Sp.mem (M:=up M j λx=>M j x-q*M d x) hj;have h2:=Sp.mem (M:=up M j λx=>M j x-q*M d x) hd;rw[B8]at h1;rw[uL _ _ (Ne.symm hne)]at h2;have:=Sp.comb q h1 h2;grind
  ·have:=Sp.mem (M:=up M i λx=>M i x-q*M d x) hj;rwa[uL _ _ h]at this
 ·by_cases h:j=i
  ·subst h;rw[B8];have:=Sp.comb (-q) (Sp.mem hj) (Sp.mem (M:=M) hd);grind
  ·rw[uL _ _ h]; exact Sp.mem hj
theorem aNR {k i} M (hi:i<k):Same k M k (up M i λx=>-(M i x)):=by
 refine Same.of (λj hj=>?_) (λj hj=>?_)
 ·by_cases h:j=i
  ·subst h;have h1:=Sp.mem (M:=up M j λx=>-(M j x)) hj;rw[B8]at h1;have:=Sp.smul (-1) h1;grind
  ·have:=Sp.mem (M:=up M i λx=>-(M i x)) hj;rwa[uL _ _ h]at this
 ·by_cases h:j=i
  ·subst h;rw[B8];have:=Sp.smul (-1) (Sp.mem (M:=M) hj);grind
  ·rw[uL _ _ h]; exact Sp.mem hj
theorem aNU {k d:Nat} (M:Nat->V) (hd:d<=k) (h:∀ i,d<=i->i<k->M i=λ_=>0):Same k M d M:=by
 refine Same.of (λj hj=>?_) (λj hj=>Sp.mem (by omega));rcases Nat.lt_or_ge j d with h1|h1
 ·exact Sp.mem h1
 ·rw[h j h1 hj]; exact .zero
structure Fo (k:Nat) (M0 M:Nat->V) (d c:Nat) (p:Nat->Nat):Prop where
 le:d<=k
 same:Same k M0 k M
 inc:∀ i j,i<j->j<d->p i<p j
 lt:∀ i,i<d->p i<c
 low:∀ i,i<d->∀ x,x<p i->M i x=0
 pos:∀ i,i<d->0<M i (p i)
 red:∀ i j,i<j->j<d->0<=M i (p j)/\M i (p j)<M j (p j)
 rest:∀ i,d<=i->i<k->∀ x,x<c->M i x=0
theorem Fo.start k M:Fo k M M 0 0 (λ_=>0) where
 le:=Nat.zero_le _
 same:=Same.refl _ _
 inc:=λi j _ h=>by omega
 lt:=λi h=>by omega
 low:=λi h=>by simp
 pos:=λi h=>by omega
 red:=λi j _ h=>by omega
 rest:=λi _ _ x h=>by omega
section
variable {k d c:Nat} {M0 M:Nat->V} {p:Nat->Nat}
theorem Fo.OG (h:Fo k M0 M d c p) {M':Nat->V} (hs:Same k M k M') (h1:∀ i,i<d->M' i=M i) (h2:∀ i,d<=i->i<k->∀ x,x<c->M' i x=0):Fo k M0 M' d c p where
 le:=h.le
 same:=h.same.trans hs
 inc:=h.inc
 lt:=h.lt
 low:=λi hi=>by rw[h1 i hi]; exact h.low i hi
 pos:=λi hi=>by rw[h1 i hi]; exact h.pos i hi
 red:=λi j hij hj=>by rw[h1 i (by omega),h1 j hj]; exact h.red i j hij hj
 rest:=h2
theorem Fo.swap (h:Fo k M0 M d c p){a}(ha:d<=a)(hk:a<k):Fo k M0 (swp M d a) d c p:=by
 refine h.OG (aME M (by omega) hk) (λi hi=>?_) (λi h1 h2 x hx=>?_)
 ·have e1:¬ i=d:=by omega
  have e2:¬ i=a:=by omega
  simp only[swp,e1,e2,if_false]
 ·unfold swp;split
  ·exact h.rest a ha hk x hx
  ·split
   ·exact h.rest d (Nat.le_refl _) (by omega) x hx
   ·exact h.rest i h1 h2 x hx
theorem Fo.less (h:Fo k M0 M d c p){i} q (hi:d<i)(hk:i<k):Fo k M0 (up M i λx=>M i x-q*M d x) d c p:=by
 refine h.OG (X8 M q hk (by omega) (by omega)) (λj hj=>uL _ _ (by omega)) (λj h1 h2 x hx=>?_)
 by_cases e:j=i
 ·subst e;rw[B8,h.rest j h1 h2 x hx,h.rest d (Nat.le_refl _) (by omega) x hx];simp
 ·rw[uL _ _ e]; exact h.rest j h1 h2 x hx
theorem Fo.neg (h:Fo k M0 M d c p)(hk:d<k):Fo k M0 (up M d λx=>-(M d x)) d c p:=by
 refine h.OG (aNR M hk) (λj hj=>uL _ _ (by omega)) (λj h1 h2 x hx=>?_)
 by_cases e:j=d
 ·subst e;rw[B8,h.rest j h1 h2 x hx];rfl
 ·rw[uL _ _ e]; exact h.rest j h1 h2 x hx
theorem Fo.skip (h:Fo k M0 M d c p) (hz:∀ i,d<=i->i<k->M i c=0):Fo k M0 M d (c+1) p where
 le:=h.le
 same:=h.same
 inc:=h.inc
 lt:=λi hi=>by have:=h.lt i hi; omega
 low:=h.low
 pos:=h.pos
 red:=h.red
 rest:=λi h1 h2 x hx=>by
  rcases Nat.lt_or_ge x c with h3|h3
  ·exact h.rest i h1 h2 x h3
  ·grind
structure Fp (k:Nat) (M0 M:Nat->V) (d c:Nat) (p:Nat->Nat) (m:Nat):Prop extends Fo k M0 M d c p where
 dk:d<k
 piv:0<M d c
 below:∀ i,d<i->i<k->M i c=0
 up:∀ i,i<m->0<=M i c/\M i c<M d c
theorem Fp.less {m}(h:Fp k M0 M d c p m)(hm:m<d):Fp k M0 (Lz.up M m λx=>M m x-(M m c).fdiv (M d c)*M d x) d c p (m+1):=by
 have hd0:∀ x,x<c->M d x=0:=h.rest d (Nat.le_refl _) h.dk;have hr:∀ x,x<c->∀ i,Lz.up M m (λx=>M m x-(M m c).fdiv (M d c)*M d x) i x=M i x:=by
  intro x hx i
  by_cases e:i=m
  ·subst e;rw[B8,hd0 x hx]; simp
  ·rw[uL _ _ e]
 have hne:∀ i,i≠m->Lz.up M m (λx=>M m x-(M m c).fdiv (M d c)*M d x) i=M i:=λi e=>uL _ _ e
 refine { le:=h.le,same:=h.same.trans (X8 M _ (by have:=h.le; omega) h.dk (by omega)),inc:=h.inc,lt:=h.lt,low:=λi hi x hx=>?_,pos:=λi hi=>?_,red:=λi j hij hj=>?_,rest:=λi h1 h2 x hx=>?_,dk:=h.dk,piv:=?_,below:=λi h1 h2=>?_,up:=λi hi=>?_ }
 ·rw[hr x (by have:=h.lt i hi; omega)]; exact h.low i hi x hx
 ·rw[hr _ (h.lt i hi)]; exact h.pos i hi
 ·rw[hr _ (h.lt j hj),hr _ (h.lt j hj)]; exact h.red i j hij hj
 ·rw[hr x hx]; exact h.rest i h1 h2 x hx
 ·rw[hne d (by omega)]; exact h.piv
 ·rw[hne i (by omega)]; exact h.below i h1 h2
 ·rw[hne d (by omega)]
  by_cases e:i=m
  ·subst e;rw[B8];have h1:=Int.fmod_def (M i c) (M d c);have h2:=Int.fmod_nonneg_of_pos (M i c) h.piv;have h3:=Int.fmod_lt_of_pos (M i c) h.piv;grind
  ·rw[hne i e]; exact h.up i (by omega)
theorem Fp.done (h:Fp k M0 M d c p d):Fo k M0 M (d+1) (c+1) (λi=>if i=d then c else p i):=by
 have hp:∀ i,i<d->(if i=d then c else p i)=p i:=λi hi=>by rw[if_neg (by omega)]
 refine { le:=h.dk,same:=h.same,inc:=λi j hij hj=>?_,lt:=λi hi=>?_,low:=λi hi x hx=>?_,pos:=λi hi=>?_,red:=λi j hij hj=>?_,rest:=λi h1 h2 x hx=>?_ }
 ·rw[hp i (by omega)]
  by_cases e:j=d
  ·subst e; rw[if_pos rfl]; exact h.lt i hij
  ·rw[if_neg e]; exact h.inc i j hij (by omega)
 ·by_cases e:i=d
  ·grind
  ·rw[if_neg e]; have:=h.lt i (by omega); omega
 ·by_cases e:i=d
  ·subst e; rw[if_pos rfl]at hx; exact h.rest i (Nat.le_refl _) h.dk x hx
  ·rw[if_neg e]at hx; exact h.low i (by omega) x hx
 ·by_cases e:i=d
  ·subst e; rw[if_pos rfl]; exact h.piv
  ·rw[if_neg e]; exact h.pos i (by omega)
 ·by_cases e:j=d
  ·subst e; rw[if_pos rfl]; exact h.up i hij
  ·rw[if_neg e]; exact h.red i j hij (by omega)
 ·rcases Nat.lt_or_ge x c with h3|h3
  ·exact h.rest i (by omega) h2 x h3
  ·have:x=c:=by omega
   subst this;exact h.below i (by omega) h2
theorem Fo.hn (h:Fo k M0 M d c p) (hz:d=k\/∀ i,i<k->∀ x,c<=x->M i x=0):Hn d M p/\Same k M0 d M:=by
 refine⟨⟨h.inc,h.low,h.pos,h.red⟩,h.same.trans ?_⟩;rcases hz with rfl|hz
 ·exact Same.refl _ _
 ·refine aNU M h.le λi h1 h2=>?_
  funext x
  rcases Nat.lt_or_ge x c with h3|h3
  ·exact h.rest i h1 h2 x h3
  ·grind
end
def dot:Nat->V->V->Int
 | 0,_,_=>0
 | n+1,a,b=>dot n a b+a n*b n
theorem aXZ u v b t:∀ n,dot n (λi=>u i+t*v i) b=dot n u b+t*dot n v b
 | 0=>by simp[dot]
 | n+1=>by
  rw[dot,dot,dot,aXZ u v b t n];grind
theorem aX1 b:∀ n,dot n (λ_=>0) b=0
 | 0=>rfl
 | n+1=>by rw[dot,aX1 b n]; simp
theorem aI7 {a b a' b'}:∀ {n},(∀ i,i<n->a i=a' i)->(∀ i,i<n->b i=b' i)->dot n a b=dot n a' b'
 | 0,_,_=>rfl
 | n+1,h,g=>by rw[dot,dot,aI7 (λi hi=>h i (by omega)) (λi hi=>g i (by omega)),h n (by simp),g n (by simp)]
def Ker(n m:Nat) (A:Nat->V) (y:V):Prop:=(∀ c,n<=c->y c=0)/\∀ x,x<m->dot n y (A x)=0
def aXX(n m:Nat) (A:Nat->V) (k:Nat) (K:Nat->V):Prop:=∀ y,Sp k K y↔Ker n m A y
def wide(n m:Nat) (A:Nat->V):Nat->V:=λc x=>if x<m then A x c else if x=m+c then 1 else 0
theorem aXY {n m A} y:∀ j,j<=n->Sp n (wide n m A) (λx=>if x<m then dot j y (A x) else if x<m+j then y (x-m) else 0)
 | 0,_=>by
  refine cast (congrArg _ ?_) Sp.zero
  funext x
  split
  ·rfl
  grind
 | j+1,h=>by
  have:=Sp.comb (y j) (aXY y j (by omega)) (Sp.mem (M:=wide n m A) (show j<n by omega));refine cast (congrArg _ ?_) this
  funext x
  simp only[wide];split
  ·rfl
  ·grind
theorem aX0 {n m A v}(h:Sp n (wide n m A) v):(∀ x,x<m->v x=dot n (λc=>v (m+c)) (A x))/\∀ c,n<=c->v (m+c)=0:=by
 have unit:∀ (j:Nat) (b:V),∀ n,dot n (λc=>if m+c=m+j then (1:Int) else 0) b=if j<n then b j else 0:=by
  intro j b n
  induction n with
  | zero=>rfl
  | succ n ih =>
   rw[dot,ih];grind
 induction h with
 | zero=>exact⟨λx _=>(aX1 _ _).symm,λ_ _=>rfl⟩
 | add j t hj _ ih =>
  obtain⟨h1,h2⟩:=ih;refine⟨λx hx=>?_,λc hc=>?_⟩
  ·rw[aXZ,<- h1 x hx];have e:(λc=>wide n m A j (m+c))=λc=>if m+c=m+j then 1 else 0:=by
    funext c
    have:¬ m+c<m:=by omega
    simp only[wide,this,if_false]
   rw[e,unit,if_pos hj];simp only[wide,hx,if_true]
  ·have h3:=h2 c hc;have e1:¬ m+c<m:=by omega
   have e2:¬ m+c=m+j:=by omega
   simp only[wide,e1,e2,if_false,Int.mul_zero,Int.add_zero,h3]
theorem Hn.drop:∀ {j k:Nat} {M:Nat->V} {p:Nat->Nat} {m:Nat},Hn k M p->j<=k->(∀ i,i<j->p i<m)->∀ {v:V},Sp k M v->(∀ x,x<m->v x=0)->Sp (k-j) (λi=>M (j+i)) v
 | 0,k,M,p,m,h,_,_,v,hv,_=>by grind
 | j+1,0,M,p,m,h,hj,_,v,hv,_=>by omega
 | j+1,k+1,M,p,m,h,hj,hp,v,hv,hz=>by
  obtain⟨t,u,hu,rfl⟩:=hv.first;have h0:=hz (p 0) (hp 0 (by omega));have h1:=h.aQM hu (Nat.le_refl _);have h2:=h.pos 0 (by omega);simp only[h1,Int.zero_add]at h0;have ht:t=0:=by
   rcases Int.mul_eq_zero.1 h0 with h3|h3
   ·exact h3
   ·omega
  subst ht;have e:(λi=>u i+0*M 0 i)=u:=by funext i; simp
  rw[e]at hz ⊢;have:=Hn.drop (j:=j) h.tail (by omega) (λi hi=>hp (i+1) (by omega)) hu hz;grind
theorem aU8 {n m k j:Nat} {A W:Nat->V} {p:Nat->Nat} (h:Hn k W p) (hs:Same n (wide n m A) k W) (hj:j<=k) (h1:∀ i,i<j->p i<m) (h2:∀ i,j<=i->i<k->m<=p i) :
  aXX n m A (k-j) (λi y=>W (j+i) (m+y)):=by
 intro y;constructor
 ·intro hy;have key:∃ v,Sp k W v/\(∀ x,x<m->v x=0)/\y=λc=>v (m+c):=by
   induction hy with
   | zero=>exact⟨_,.zero,λ_ _=>rfl,rfl⟩
   | add i t hi _ ih =>
    obtain⟨v,g1,g2,rfl⟩:=ih;refine⟨_,Sp.add (j+i) t (by omega) g1,λx hx=>?_,rfl⟩;have:=h.low (j+i) (by omega) x (by have:=h2 (j+i) (by omega) (by omega); omega);grind
  obtain⟨v,g1,g2,rfl⟩:=key;obtain⟨q1,q2⟩:=aX0 ((hs v).2 g1);exact⟨q2,λx hx=>by rw[<- q1 x hx]; exact g2 x hx⟩
 ·rintro⟨g1,g2⟩;have hv:=aXY (A:=A) (n:=n) (m:=m) y n (Nat.le_refl _);have:=Hn.drop h hj h1 ((hs _).1 hv) (λx hx=>by simp only[hx,if_true]; exact g2 x hx);have key:∀ {v:V},Sp (k-j) (λi=>W (j+i)) v->Sp (k-j) (λi y=>W (j+i) (m+y)) (λc=>v (m+c)):=by
   intro v hv
   induction hv with
   | zero=>exact .zero
   | add i t hi _ ih=>exact Sp.add i t hi ih
  have:=key this;refine cast (congrArg _ ?_) this;grind
theorem IB(a:Int){m}(h:m<0):m<a.fmod m/\a.fmod m<=0:=by
 have h1:=Int.neg_fmod_neg (-a) (-m);rw[Int.neg_neg,Int.neg_neg]at h1;have h2:=Int.fmod_nonneg_of_pos (-a) (show 0 < -m by omega);have h3:=Int.fmod_lt_of_pos (-a) (show 0 < -m by omega);omega
theorem aCT(a m:Int)(hm:m≠0):(a.fdiv m).natAbs*m.natAbs<=a.natAbs+m.natAbs:=by
 have h1:=Int.fmod_def a m;have h2:(m*a.fdiv m).natAbs=(a.fdiv m).natAbs*m.natAbs:=by rw[Int.natAbs_mul,Nat.mul_comm]
 rcases Int.lt_or_gt_of_ne hm with h|h
 ·have h3:=IB a h;omega
 ·have h3:=Int.fmod_nonneg_of_pos a h;have h4:=Int.fmod_lt_of_pos a h;omega
theorem aCN(a m:Int)(hm:m≠0):(a.fmod m).natAbs<m.natAbs:=by
 rcases Int.lt_or_gt_of_ne hm with h|h
 ·have h3:=IB a h;omega
 ·have h3:=Int.fmod_nonneg_of_pos a h;have h4:=Int.fmod_lt_of_pos a h;omega
theorem MZ(a m:Int):a-a.fdiv m*m=a.fmod m:=by rw[Int.fmod_def,Int.mul_comm]
theorem aOY {a b q:Int} {E Q:Nat} (ha:a.natAbs<=E) (hb:b.natAbs<=E) (hq:q.natAbs<=Q):(a-q*b).natAbs<=E+Q*E:=by
 have h1:(q*b).natAbs=q.natAbs*b.natAbs:=Int.natAbs_mul _ _;have h2:q.natAbs*b.natAbs<=Q*E:=Nat.mul_le_mul hq hb;omega
def Wi(k:Nat) (M:Nat->V) (d c E A:Nat):Prop:=∀ i,d<=i->i<k->(∀ x,(M i x).natAbs<=E)/\(M i c).natAbs<=A
def Rd(k:Nat) (M M':Nat->V) (d c:Nat):Prop:=M' d=M d/\∀ i,d<i->i<k->M' i=λx=>M i x-(M i c).fdiv (M d c)*M d x
theorem Rd.aHD {k d c E A:Nat} {M M':Nat->V} (h:Rd k M M' d c) (hw:Wi k M d c E A) (hk:d<k) (hm:M d c≠0) (hA:(M d c).natAbs<=A) :
  ∃ E',Wi k M' d c E' (M d c).natAbs/\E'*(M d c).natAbs<=3*(E*A):=by
 have hmp:0<(M d c).natAbs:=by omega
 refine⟨E+(A/(M d c).natAbs+1)*E,λi h1 h2=>?_,?_⟩
 ·by_cases e:i=d
  ·subst e;rw[h.1];refine⟨λx=>?_,Nat.le_refl _⟩;have:=(hw i h1 h2).1 x;grind
  ·have hr:=h.2 i (by omega) h2;have hq:((M i c).fdiv (M d c)).natAbs<=A/(M d c).natAbs+1:=by
    have h3:=aCT (M i c) (M d c) hm;have h4:=(hw i h1 h2).2;have h5:((M i c).fdiv (M d c)).natAbs<=(A+(M d c).natAbs)/(M d c).natAbs:=by
     rw[Nat.le_div_iff_mul_le hmp];omega
    simp_all
   rw[hr];refine⟨λx=>aOY ((hw i h1 h2).1 x) ((hw d (Nat.le_refl _) hk).1 x) hq,?_⟩;dsimp only;rw[MZ];exact Nat.le_of_lt (aCN _ _ hm)
 ·have h1:A/(M d c).natAbs*(M d c).natAbs<=A:=Nat.div_mul_le_self _ _;generalize A/(M d c).natAbs=q at h1;generalize (M d c).natAbs=m at *;have h2:(E+(q+1)*E)*m=2*(E*m)+E*(q*m):=by grind
  have h3:E*(q*m)<=E*A:=Nat.mul_le_mul_left _ h1;have h4:E*m<=E*A:=Nat.mul_le_mul_left _ hA;omega
theorem aN9 a b c (h:a+b<=c):4*(a*b)<=c*c:=by
 have h1 :=Nat.mul_le_mul h h;have h2 :=by
  have:(a+b)*(a+b)=4*(a*b)+(a-b)*(a-b)+(b-a)*(b-a):=by
   rcases Nat.le_total a b with g|g
   ·obtain⟨e,rfl⟩:=Nat.exists_eq_add_of_le g;grind
   ·obtain⟨e,rfl⟩:=Nat.exists_eq_add_of_le g;grind
  omega
 omega
structure Bt (k:Nat) (M:Nat->V) (d c C:Nat):Prop where
 dk:d<k
 ex:∃ E,Wi k M d c E (M d c).natAbs/\∃ i,d<i/\i<k/\M i c≠0/\E*(M d c).natAbs^3*(M i c).natAbs<=C
 piv:M d c≠0
 sign:∀ i,d<i->i<k->(M i c).natAbs<(M d c).natAbs/\(0<M d c->0<=M i c)/\(M d c<0->M i c<=0)
theorem Wi.swap {k d c E A a M}(h:Wi k M d c E A)(ha:d<=a)(hk:a<k):Wi k (swp M d a) d c E A:=by
 intro i h1 h2;unfold swp;split
 ·exact h a ha hk
 ·split
  ·exact h d (Nat.le_refl _) (by omega)
  ·exact h i h1 h2
theorem Rd.sign {k d c M M'}(h:Rd k M M' d c)(hm:M d c≠0):∀ i,d<i->i<k->M' i c=(M i c).fmod (M d c)/\(M' i c).natAbs<(M' d c).natAbs/\(0<M' d c->0<=M' i c)/\(M' d c<0->M' i c<=0):=by
 intro i h1 h2;have e:M' i c=(M i c).fmod (M d c):=by
  rw[h.2 i h1 h2];exact MZ _ _
 rw[e,h.1];exact⟨rfl,aCN _ _ hm,λhp=>Int.fmod_nonneg_of_pos _ hp,λhn=>(IB _ hn).2⟩
theorem aOU {p n:Int} (hs:(0<p/\0<n)\/(p<0/\n<0)) (hl:n.natAbs<p.natAbs):(p.fmod n).natAbs+n.natAbs<=p.natAbs:=by
 have key:∀ p n:Int,0<n->n<p->(p.fmod n).natAbs+n.natAbs<=p.natAbs:=by
  intro p n h1 h2;have h3:=Int.fmod_def p n;have h4:=Int.fmod_nonneg_of_pos p h1;have h5:=Int.fmod_lt_of_pos p h1;have h6:1<=p.fdiv n:=by
   rcases(by omega:p.fdiv n<1\/1<=p.fdiv n)with h|h
   ·have:n*p.fdiv n<=n*0:=Int.mul_le_mul_of_nonneg_left (by omega) (by omega);omega
   ·exact h
  have h7:n*1<=n*p.fdiv n:=Int.mul_le_mul_of_nonneg_left h6 (by omega);omega
 rcases hs with ⟨h1,h2⟩|⟨h1,h2⟩
 ·grind
 ·have:=key (-p) (-n) (by omega) (by omega)
  simp_all
theorem Rd.first {k d c E A:Nat} {M M':Nat->V} (h:Rd k M M' d c) (hw:Wi k M d c E A) (hk:d<k) (hm:M d c≠0) :
  ((∀ i,d<i->i<k->M' i c=0)/\Wi k M' d c (3*(E*A)) A)\/Bt k M' d c (3*(E*A)*A^3):=by
 have hA:=(hw d (Nat.le_refl _) hk).2;have hmp:0<(M d c).natAbs:=by omega
 obtain⟨E',h1,h2⟩:=h.aHD hw hk hm hA;have hs:=h.sign hm
 by_cases hz:∀ i,d<i->i<k->M' i c=0
 ·refine .inl ⟨hz,λi g1 g2=>⟨λx=>?_,?_⟩⟩
  ·have a1:=(h1 i g1 g2).1 x;have a2:E'*1<=E'*(M d c).natAbs:=Nat.mul_le_mul_left _ hmp;omega
  ·exact Nat.le_trans (h1 i g1 g2).2 hA
 ·refine .inr ⟨hk,⟨E',by rw[h.1]; exact h1,?_⟩,by rw[h.1]; exact hm,λi g1 g2=>(hs i g1 g2).2⟩;obtain⟨i,hi⟩:=Classical.not_forall.1 hz;obtain⟨g1,hi⟩:=Classical.not_forall.1 hi;obtain⟨g2,g3⟩:=Classical.not_forall.1 hi;refine⟨i,g1,g2,g3,?_⟩;have a1:=(hs i g1 g2).2.1;rw[h.1]at a1 ⊢;have a2:(M d c).natAbs^2*(M' i c).natAbs<=A^2*A:=Nat.mul_le_mul (Nat.pow_le_pow_left hA 2) (by omega);have a3:E'*(M d c).natAbs*((M d c).natAbs^2*(M' i c).natAbs)<=3*(E*A)*(A^2*A):=Nat.mul_le_mul h2 a2
  grind
theorem Bt.left {k d c C a:Nat} {M M':Nat->V} (h:Bt k M d c C) (ha:d<=a) (hk:a<k) (hm:M a c≠0) (hmin:∀ i,d<=i->i<k->M i c≠0->(M a c).natAbs<=(M i c).natAbs) (hr:Rd k (swp M d a) M' d c) (hz:¬ ∀ i,d<i->i<k->M' i c=0):M' d=M a/\(M a c).natAbs<(M d c).natAbs/\∃ i,d<i/\i<k/\M' i c≠0/\(M' i c).natAbs+(M a c).natAbs<=(M d c).natAbs/\(M' i c).natAbs<(M a c).natAbs:=by
 obtain⟨E,h1,i0,g1,g2,g3,g4⟩:=h.ex;have hda:d<a:=by
  rcases Nat.lt_or_ge d a with h9|h9
  ·exact h9
  ·have:a=d:=by omega
   subst this;have:=hmin i0 (by omega) g2 g3;have:=(h.sign i0 g1 g2).1;omega
 have e1:swp M d a d=M a:=by simp[swp]
 have e2:swp M d a a=M d:=by
  have:¬ a=d:=by omega
  simp[swp,this]
 have hsa:=h.sign a hda hk;have hs:=hr.sign (by rw[e1]; exact hm);have hMd:M' d=M a:=by rw[hr.1,e1]
 have main:∃ i,d<i/\i<k/\M' i c≠0/\(M' i c).natAbs+(M a c).natAbs<=(M d c).natAbs:=by
  have ea:=(hs a hda hk).1;rw[e1,e2]at ea
  by_cases hz2:M' a c=0
  ·obtain⟨i,hi⟩:=Classical.not_forall.1 hz;obtain⟨z1,hi⟩:=Classical.not_forall.1 hi;obtain⟨z2,z3⟩:=Classical.not_forall.1 hi;refine⟨i,z1,z2,z3,?_⟩;have a1:=(hs i z1 z2).2.1;rw[hMd]at a1;have a2:(M a c).natAbs ∣ (M d c).natAbs:=by
    have:M a c ∣ M d c:=by
     rw[hz2]at ea;exact Int.dvd_of_fmod_eq_zero ea.symm
    simp_all
   obtain⟨t,ht⟩:=a2;have h2t:2<=t:=by
    rcases Nat.lt_or_ge t 2 with h|h
    ·have:(M a c).natAbs*t<=(M a c).natAbs*1:=Nat.mul_le_mul_left _ (by omega);omega
    ·exact h
   have:(M a c).natAbs*2<=(M a c).natAbs*t:=Nat.mul_le_mul_left _ h2t;omega
  ·refine⟨a,hda,hk,hz2,?_⟩;rw[ea];refine aOU ?_ hsa.1;grind
 grind
def Pt(k:Nat) (M:Nat->V) (d c P:Nat):Prop:=∃ i,d<i/\i<k/\M i c≠0/\(M d c).natAbs*(M i c).natAbs<=P
theorem Bt.half {k d c C a M M'}(h:Bt k M d c C)(ha:d<=a)(hk:a<k)(hm:M a c≠0)(hmin:∀ i,d<=i->i<k->M i c≠0->(M a c).natAbs<=(M i c).natAbs)(hr:Rd k (swp M d a) M' d c)(hz:¬ ∀ i,d<i->i<k->M' i c=0){P}(hP:Pt k M d c P):Pt k M' d c (P/2):=by
 obtain⟨q1,q2,i,z1,z2,z3,z4,z5⟩:=h.left ha hk hm hmin hr hz;obtain⟨i0,w1,w2,w3,w4⟩:=hP;have w5:=hmin i0 (by omega) w2 w3;refine⟨i,z1,z2,z3,?_⟩;have a1:(M a c).natAbs*(2*(M' i c).natAbs)<=(M a c).natAbs*(M d c).natAbs:=Nat.mul_le_mul_left _ (by omega);have a2:(M d c).natAbs*(M a c).natAbs<=(M d c).natAbs*(M i0 c).natAbs:=Nat.mul_le_mul_left _ w5;grind
theorem Bt.round {k d c C a:Nat} {M M':Nat->V} (h:Bt k M d c C) (ha:d<=a) (hk:a<k) (hm:M a c≠0) (hmin:∀ i,d<=i->i<k->M i c≠0->(M a c).natAbs<=(M i c).natAbs) (hr:Rd k (swp M d a) M' d c) :
  ((∀ i,d<i->i<k->M' i c=0)/\∃ A,Wi k M' d c (3*C) A)\/(Bt k M' d c C/\(M' d c).natAbs<(M d c).natAbs):=by
 obtain⟨E,h1,i0,g1,g2,g3,g4⟩:=h.ex;have hda:d<a:=by
  rcases Nat.lt_or_ge d a with h9|h9
  ·exact h9
  ·have:a=d:=by omega
   subst this;have:=hmin i0 (by omega) g2 g3;have:=(h.sign i0 g1 g2).1;omega
 have e1:swp M d a d=M a:=by simp[swp]
 have hsa:=h.sign a hda hk;have hA:(swp M d a d c).natAbs<=(M d c).natAbs:=by rw[e1]; omega
 obtain⟨E',q1,q2⟩:=hr.aHD (h1.swap ha hk) h.dk (by rw[e1]; exact hm) hA;rw[e1]at q1 q2;have hs:=hr.sign (by rw[e1]; exact hm);have hC:E*(M d c).natAbs^3*(M a c).natAbs<=C:=Nat.le_trans (Nat.mul_le_mul_left _ (hmin i0 (by omega) g2 g3)) g4;have hmp:0<(M a c).natAbs:=by omega
 have hMd:M' d=M a:=by rw[hr.1,e1]
 by_cases hz:∀ i,d<i->i<k->M' i c=0
 ·refine .inl ⟨hz,(M a c).natAbs,λi z1 z2=>⟨λx=>?_,(q1 i z1 z2).2⟩⟩;have a1:=(q1 i z1 z2).1 x;have a2:E'*1<=E'*(M a c).natAbs:=Nat.mul_le_mul_left _ hmp;have a3:E*(M d c).natAbs*1<=E*(M d c).natAbs*((M d c).natAbs^2*(M a c).natAbs):=Nat.mul_le_mul_left _ (Nat.mul_pos (Nat.pow_pos (by omega)) hmp);grind
 ·refine .inr ⟨⟨h.dk,⟨E',by rw[hMd]; exact q1,?_⟩,by rw[hMd]; exact hm,λi z1 z2=>(hs i z1 z2).2⟩,by rw[hMd]; exact hsa.1⟩;obtain⟨_,_,i,z1,z2,z3,z4,_⟩:=h.left ha hk hm hmin hr hz;refine⟨i,z1,z2,z3,?_⟩;rw[hMd];have a1:=aN9 _ _ _ z4;generalize (M' i c).natAbs=y at *;generalize (M a c).natAbs=x at *;generalize (M d c).natAbs=m at *;have a2:E'*x*(x^2*y)<=3*(E*m)*(x^2*y):=Nat.mul_le_mul_right _ q2;have a3:(E*m*x)*(4*(y*x))<=(E*m*x)*(m*m):=Nat.mul_le_mul_left _ a1
  grind
theorem Hn.aSK:∀ {j k:Nat} {M:Nat->V} {p:Nat->Nat},Hn k M p->j<=k->∀ {v:V},Sp k M v->(∀ i,i<j->v (p i)=0)->Sp (k-j) (λi=>M (j+i)) v
 | 0,k,M,p,h,_,v,hv,_=>by grind
 | j+1,0,M,p,h,hj,v,hv,_=>by omega
 | j+1,k+1,M,p,h,hj,v,hv,hz=>by
  obtain⟨t,u,hu,rfl⟩:=hv.first;have h0:=hz 0 (by omega);have h1:=h.aQM hu (Nat.le_refl _);have h2:=h.pos 0 (by omega);simp only[h1,Int.zero_add]at h0;have ht:t=0:=by
   rcases Int.mul_eq_zero.1 h0 with h3|h3
   ·exact h3
   ·omega
  subst ht;have e:(λi=>u i+0*M 0 i)=u:=by funext i; simp
  rw[e]at hz ⊢;have:=Hn.aSK (j:=j) h.tail (by omega) hu (λi hi=>hz (i+1) (by omega));grind
theorem Hn.aHW {k M p}(h:Hn k M p){v}(hv:Sp k M v)(hz:∀ i,i<k->v (p i)=0):v=λ_=>0 :=
 h.small hv λi hi=>by
  have:=h.pos i hi;grind
theorem Hn.shift {k M p}(h:Hn k M p) j (hj:j<=k):Hn (k-j) (λi=>M (j+i)) (λi=>p (j+i)) where
 inc:=λa b hab hb=>h.inc _ _ (by omega) (by omega)
 low:=λi hi=>h.low _ (by omega)
 pos:=λi hi=>h.pos _ (by omega)
 red:=λa b hab hb=>h.red _ _ (by omega) (by omega)
theorem Hn.dvd {k:Nat} {M:Nat->V} {p:Nat->Nat} (h:Hn k M p) {j:Nat} (hj:j<k) {v:V} (hv:Sp k M v) (hz:∀ i,i<j->v (p i)=0):M j (p j) ∣ v (p j):=by
 have h1:=h.aSK (Nat.le_of_lt hj) hv hz;obtain⟨k',hk'⟩:∃ k',k-j=k'+1:=⟨k-j-1,by omega⟩;have hs:=h.shift j (Nat.le_of_lt hj);rw[hk']at h1 hs;obtain⟨t,u,hu,rfl⟩:=h1.first;have:=hs.aQM hu (Nat.le_refl _)
 simp_all
def O3:Nat->(Nat->Int)->Nat
 | 0,_=>0
 | n+1,f=>O3 n f+(f n).natAbs
def IS:Nat->(Nat->Int)->Int
 | 0,_=>0
 | n+1,f=>IS n f+f n
theorem SO:∀ n f,(IS n f).natAbs<=O3 n f
 | 0,_=>Nat.le_refl _
 | n+1,f=>by
  have:=SO n f;rw[IS,O3];omega
theorem aHI:∀ {n f g P},(∀ i,i<n->(f i).natAbs<=P*(g i).natAbs)->O3 n f<=P*O3 n g
 | 0,_,_,_,_=>by simp[O3]
 | n+1,f,g,P,h=>by
  have h1:=aHI (n:=n) (λi hi=>h i (by omega));have h2:=h n (by simp);rw[O3,O3,Nat.mul_add];omega
theorem TT {n f B}(h:∀ i,i<n->(f i).natAbs<=B):O3 n f<=n*B:=by
 induction n with
 | zero=>simp[O3]
 | succ n ih =>
  have h1:=ih (λi hi=>h i (by omega));have h2:=h n (by simp);rw[O3,Nat.succ_mul];omega
theorem Sp.IS {k M}{U:Nat->V}{t:Nat->Int}:∀ n,(∀ j,j<n->Sp k M (U j))->Sp k M (λx=>Lz.IS n λj=>t j*U j x)
 | 0,_=>.zero
 | n+1,h=>Sp.comb (t n) (Sp.IS n λj hj=>h j (by omega)) (h n (by simp))
theorem Hn.bound {k:Nat} {M:Nat->V} {p:Nat->Nat} (h:Hn k M p) {U:Nat->V} (hU:∀ j,j<k->Sp k M (U j)) (h0:∀ i j,i<k->j<k->i≠j->U j (p i)=0) (hD:∀ j,j<k->U j (p j)≠0)
  {i:Nat} (hi:i<k) (x:Nat):(M i x).natAbs<=O3 k λj=>U j x:=by
 have prod:∀ n,n<=k->∃ P:Int,P≠0/\∀ j,j<n->U j (p j) ∣ P:=by
  intro n
  induction n with
  | zero=>exact λ_=>⟨1,by decide,λj hj=>by omega⟩
  | succ n ih =>
   intro hn;obtain⟨P,q1,q2⟩:=ih (by omega);refine⟨P*U n (p n),Int.mul_ne_zero q1 (hD n (by omega)),λj hj=>?_⟩
   by_cases e:j=n
   ·simp_all
   ·exact Int.dvd_mul_of_dvd_left (q2 j (by omega))
 obtain⟨P,hP,hdv⟩:=prod k (Nat.le_refl _);have hq:∀ j,∃ q,j<k->P=q*U j (p j):=λj=>by
  by_cases hj:j<k
  ·obtain⟨q,hq⟩:=hdv j hj;exact⟨q,λ_=>by rw[hq,Int.mul_comm]⟩
  ·exact⟨0,λh=>absurd h hj⟩
 have hq:=Classical.axiomOfChoice hq;obtain⟨q,hq⟩:=hq;have hz:=h.aHW (v:=λx=>P*M i x-IS k λj=>(M i (p j)*q j)*U j x) (Sp.sub (Sp.smul P (Sp.mem hi)) (Sp.IS k hU)) (λl hl=>by
  have:∀ n,n<=k->(IS n λj=>(M i (p j)*q j)*U j (p l))=if l<n then P*M i (p l) else 0:=by
   intro n
   induction n with
   | zero=>intro _; rfl
   | succ n ih =>
    intro hn;rw[IS,ih (by omega)];grind
  rw[this k (Nat.le_refl _),if_pos hl];omega)
 have hx:=congrFun hz x;have hx:P*M i x=IS k λj=>(M i (p j)*q j)*U j x:=by omega
 have h1:(P*M i x).natAbs<=P.natAbs*O3 k λj=>U j x:=by
  rw[hx];refine Nat.le_trans (SO _ _) (aHI λj hj=>?_);rw[Int.natAbs_mul,Int.natAbs_mul];refine Nat.mul_le_mul_right _ ?_;have h2:(M i (p j)).natAbs<=(U j (p j)).natAbs:=by
   have h3:(M j (p j)).natAbs<=(U j (p j)).natAbs:=by
    have:=h.dvd hj (hU j hj) (λl hl=>h0 l j (by omega) hj (by omega));exact Nat.le_of_dvd (Nat.pos_of_ne_zero (by have:=hD j hj; omega)) (Int.natAbs_dvd_natAbs.2 this)
   rcases Nat.lt_trichotomy i j with g|g|g
   ·have:=h.red i j g hj;omega
   ·grind
   ·have:=h.low i hi (p j) (h.inc j i g hi);omega
  have h4:=hq j hj;have h5:P.natAbs=(q j).natAbs*(U j (p j)).natAbs:=by rw[h4,Int.natAbs_mul]
  rw[h5,Nat.mul_comm];exact Nat.mul_le_mul_left _ h2
 rw[Int.natAbs_mul]at h1;exact Nat.le_of_mul_le_mul_left h1 (by omega)
end Go.Lz
