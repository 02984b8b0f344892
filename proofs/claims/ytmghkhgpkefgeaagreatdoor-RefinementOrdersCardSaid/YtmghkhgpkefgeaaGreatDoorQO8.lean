/- Texts of one proof, joined (8). -/
import Derived.Test.YtmghkhgpkefgeaaGreatDoorQO7
set_option linter.unusedSimpArgs false
set_option linter.unusedVariables false
namespace Go.PM
open Go Go.RowKit Go.Proofs
set_option maxRecDepth 100000
set_option maxHeartbeats 4000000
def kB(x:aJ [.nil0,.int .i64]):Option (List ByteArray):=match x with
 | (v0,v1,()) =>
  bif ltI v1 0 then none else bif ltI 0 (aB .i64 (v1-0)) then
   bif !(ltI (aB .i64 (v1-0)) 0) then bif !(ltI 1048576 (aB .i64 (v1-0))) then bif Nat.ble 0 0 then bif Nat.ble 0 ((List.replicate (aB .i64 (v1-0)).toNat (ByteArray.empty:Ty.den .str)).length) then bif Nat.blt 0 ((List.replicate (aB .i64 (v1-0)).toNat (ByteArray.empty:Ty.den .str)).length) then some ((List.replicate (aB .i64 (v1-0)).toNat (ByteArray.empty:Ty.den .str)).take (0-0)) else none else none else none else none else none
  else some []
noncomputable def pY:Code:=aT Tryz.f162
abbrev xR:Env:=b8 []
theorem IU:bE Tryz.prog xR:=bF trivial
def wQ(id:Nat):Option aS:=none
theorem HJ:aF pY=[]:=by kernel_rfl
theorem IA:∀ x,a9I Tryz.prog xR Tryz.f162 (aD Tryz.f162) wQ pY [.nil0,.int .i64] 4 110 .str x=kB x:=by
 rintro⟨v0,v1,⟨⟩⟩
 kernel_rfl
theorem KC:a9N Tryz.prog 162 [.nil0,.int .i64] 110 .str kB:=by
 exact a7L aK IU Tryz.func162 (c:=pY) (by kernel_rfl) (aZ:=aD Tryz.f162) (lt:=wQ) (t:=4) (by kernel_rfl) (aE HJ trivial) IA
abbrev xS:Shr:=(162,bJY [.nil0,.int .i64] 110 .str kB)
theorem IL:zK Tryz.prog xS:=a8O KC
abbrev cU:List (Nat×Kd):=[(0,.list (.list .str)),(3,.int .i64),(9,.list (.list .str)),(10,.int .i64),(11,.int .i64)]
abbrev eE:List (Ex×List (Nat×Kd)):=[(.exit 0,[(0,.list (.list .str)),(3,.int .i64)])]
def rW(x:Shape.den cU):Option (Shape.den cU⊕aW eE):=match x with
 | (v0,v3,v9,v10,v11,()) =>
  bif ltI v11 v10 then
   bif aL v11 v9.length then bif ltI (aB .i64 (v3+((v9.getD v11.toNat []).length:Int))) 0 then none else some (.inl (v0,(aB .i64 (v3+((v9.getD v11.toNat []).length:Int))),v9,v10,(aB .i64 (v11+1)),())) else none
  else some (.inr ((v0,v3,())))
def lF(x:Shape.den cU):Option (aW eE):=bZ rW (2^64) x
abbrev cS:List (Nat×Kd):=[(6,.own 110 .str),(25,.list (.list .str)),(26,.int .i64),(27,.int .i64)]
abbrev eF:List (Ex×List (Nat×Kd)):=[(.exit 2,[(6,.own 110 .str)])]
def rY(x:Shape.den cS):Option (Shape.den cS⊕aW eF):=match x with
 | (v6,v25,v26,v27,()) =>
  bif ltI v27 v26 then
   bif aL v27 v25.length then bif Nat.ble (v25.getD v27.toNat []).length 1048576 then bif Nat.ble v6.length 1048576 then some (.inl ((v6++(v25.getD v27.toNat [])),v25,v26,(aB .i64 (v27+1)),())) else none else none else none
  else some (.inr ((v6,())))
def k9(x:Shape.den cS):Option (aW eF):=bZ rY (2^64) x
def fC(x:aJ [.list (.list .str)]):Option (List ByteArray):=match x with
 | (v0,()) =>
  aC (lF (v0,0,v0,(v0.length:Int),0,())) fun z1 =>
  aC (kB ((),z1.2.1,())) fun y2 =>
  aC (k9 (y2,z1.1,(z1.1.length:Int),0,())) fun z3 =>
  some z3.1
noncomputable def fH:Code:=aT Tryz.f118
abbrev iM:Env:=R2 [] [xS]
theorem l5:bE Tryz.prog iM:=qF trivial ⟨IL,trivial⟩
noncomputable def eO:Code:=dS fH 0
noncomputable def eN:Code:=dS fH 1
def iC(id:Nat):Option aS:=bif Nat.beq id 3 then some ⟨cU,eE,lF⟩ else bif Nat.beq id 11 then some ⟨cS,eF,k9⟩ else none
theorem DH:∀ x,dM Tryz.prog iM 36 (aD Tryz.f118) iC eO cU eE x=rW x:=by
 rintro⟨v0,v3,v9,v10,v11,⟨⟩⟩
 kernel_rfl
theorem GG:aF eO=[]:=by kernel_rfl
theorem DB:aH eO=3:=by kernel_rfl
theorem EA:cF Tryz.prog 36 eO ⟨cU,eE,lF⟩:=by
 exact cC l5.callee aK.mixed _ (aE GG trivial) DH
theorem DE:∀ x,dM Tryz.prog iM 36 (aD Tryz.f118) iC eN cS eF x=rY x:=by
 rintro⟨v6,v25,v26,v27,⟨⟩⟩
 kernel_rfl
theorem GK:aF eN=[]:=by kernel_rfl
theorem DS:aH eN=11:=by kernel_rfl
theorem EZ:cF Tryz.prog 36 eN ⟨cS,eF,k9⟩:=by
 exact cC l5.callee aK.mixed _ (aE GK trivial) DE
theorem FE:aF fH=[eO,eN]:=by kernel_rfl
theorem GC:∀ x,a9I Tryz.prog iM Tryz.f118 (aD Tryz.f118) iC fH [.list (.list .str)] 2 110 .str x=fC x:=by
 rintro⟨v0,⟨⟩⟩
 kernel_rfl
theorem HN:a9N Tryz.prog 118 [.list (.list .str)] 110 .str fC:=by
 exact a7L aK l5 Tryz.func118 (c:=fH) (by kernel_rfl) (aZ:=aD Tryz.f118) (lt:=iC) (t:=2) (by kernel_rfl) (aE FE ⟨cB DB rfl EA,cB DS rfl EZ,trivial⟩) GC
abbrev vU:Shr:=(118,bJY [.list (.list .str)] 110 .str fC)
theorem GU:zK Tryz.prog vU:=a8O HN
abbrev pK:List (Nat×Kd):=[(3,.ptr TyH),(4,.bag 98 TyE 53 TyD none),(7,.int .i64),(8,.own 148 (.hnd 1)),(23,.list TyD),(24,.int .i64),(25,.int .i64),(100000,.ar 110 .str)]
abbrev tD:List (Ex×List (Nat×Kd)):=[(.exit 0,[(3,.ptr TyH),(4,.bag 98 TyE 53 TyD none),(7,.int .i64),(8,.own 148 (.hnd 1)),(100000,.ar 110 .str)])]
def MO(x:Shape.den pK):Option (Shape.den pK⊕aW tD):=match x with
 | (v3,v4,v7,v8,v23,v24,v25,v100000,()) =>
  bif ltI v25 v24 then
   bif aL v25 v23.length then aC (lU ((v23.getD v25.toNat []),())) fun y5 =>
   aC (lU ((v23.getD v25.toNat []),())) fun y6 =>
   aC (fC ([y5.1,y6.1],())) fun y7 =>
   bif Nat.ble [(v100000.length,0,y7.length)].length 1048576 then bif Nat.ble v8.length 1048576 then some (.inl ((v3.1,v3.2),(v4.1,(v4.2.1,())),v7,(v8++[(v100000.length,0,y7.length)]),v23,v24,(aB .i64 (v25+1)),(v100000++[y7]),())) else none else none else none
  else some (.inr (((v3.1,v3.2),(v4.1,(v4.2.1,())),v7,v8,v100000,())))
def CF(x:Shape.den pK):Option (aW tD):=bZ MO (2^64) x
abbrev pJ:List (Nat×Kd):=[(4,.bag 98 TyE 53 TyD none),(7,.int .i64),(8,.own 148 (.hnd 1)),(40,.list TyD),(41,.int .i64),(42,.int .i64),(100000,.ar 110 .str)]
abbrev tJ:List (Ex×List (Nat×Kd)):=[(.exit 2,[(4,.bag 98 TyE 53 TyD none),(7,.int .i64),(8,.own 148 (.hnd 1)),(100000,.ar 110 .str)])]
def MV(x:Shape.den pJ):Option (Shape.den pJ⊕aW tJ):=match x with
 | (v4,v7,v8,v40,v41,v42,v100000,()) =>
  bif ltI v42 v41 then
   bif aL v42 v40.length then aC (lU ((v40.getD v42.toNat []),())) fun y12 =>
   aC (pE () (v7,()) v100000) fun y13 =>
   aC (fC ([y12.1,y13.1],())) fun y14 =>
   bif Nat.ble [(y13.2.length,0,y14.length)].length 1048576 then bif Nat.ble v8.length 1048576 then some (.inl ((v4.1,(v4.2.1,())),v7,(v8++[(y13.2.length,0,y14.length)]),v40,v41,(aB .i64 (v42+1)),(y13.2++[y14]),())) else none else none else none
  else some (.inr (((v4.1,(v4.2.1,())),v7,v8,v100000,())))
def CZ(x:Shape.den pJ):Option (aW tJ):=bZ MV (2^64) x
def D7(x:aJ [.agg TyH,.agg TyH]):Option (aJ [.agg TyH,.int .i64]):=match x with
 | (v0,v1,()) =>
  aC (nN ((v0.1,v0.2),(v1.1,v1.2),())) fun y1 =>
  bif !(eqI y1.1 0) then
   some ((0,[]),y1.1,())
  else aC (CF ((v1.1,v1.2),(0,([],())),v0.1,[],v0.2,(v0.2.length:Int),0,[],())) fun z8 =>
  aC (CZ ((z8.2.1.1,(z8.2.1.2.1,())),z8.2.2.1,z8.2.2.2.1,z8.1.2,(z8.1.2.length:Int),0,z8.2.2.2.2.1,())) fun z15 =>
  aC (dE z15.2.2.1 ((aB .i64 (2*z15.2.1)),()) z15.2.2.2.1) fun y16 =>
  aC (iF () (y16.1,z15.2.1,z15.2.1,()) y16.2) fun y17 =>
  aC (dF y17.1 (z15.2.1,()) y17.2) fun y18 =>
  some ((y18.1.1.1,y18.1.1.2),y18.1.2.1,())
noncomputable def yI:Code:=aT Tryz.f68
abbrev E7:Env:=R2 [EV,QD] [BI,nB,nA,ON,vU]
theorem GM:bE Tryz.prog E7:=qF ⟨F8,UU,trivial⟩ ⟨G9,nG,nW,SM,GU,trivial⟩
noncomputable def u9:Code:=inLoop (a95 yI 0)
noncomputable def vJ:Code:=inLoop (a95 yI 1)
def B2(id:Nat):Option aS:=bif Nat.beq id 7 then some ⟨pK,tD,CF⟩ else bif Nat.beq id 12 then some ⟨pJ,tJ,CZ⟩ else none
def B1(id:Nat):Option aS:=none
theorem aB0:aH u9=7:=by kernel_rfl
theorem aIZ:gR u9=[]:=by kernel_rfl
theorem aDB:∀ x,a7O Tryz.prog E7 67 (aPD Tryz.f68) B2 B1 false [] u9 pK tD x=MO x:=by
 rintro⟨v3,v4,v7,v8,v23,v24,v25,v100000,⟨⟩⟩
 kernel_rfl
theorem aEJ:aEU Tryz.prog 67 false [] (.loop u9) ⟨pK,tD,CF⟩:=by
 exact a1O GM.callee aK.mixed _ (aF8 aIZ trivial) aDB
theorem aDC:aH vJ=12:=by kernel_rfl
theorem aI3:gR vJ=[]:=by kernel_rfl
theorem aCX:∀ x,a7O Tryz.prog E7 67 (aPD Tryz.f68) B2 B1 false [] vJ pJ tJ x=MV x:=by
 rintro⟨v4,v7,v8,v40,v41,v42,v100000,⟨⟩⟩
 kernel_rfl
theorem aDS:aEU Tryz.prog 67 false [] (.loop vJ) ⟨pJ,tJ,CZ⟩:=by
 exact a1O GM.callee aK.mixed _ (aF8 aI3 trivial) aCX
theorem aFX:gR yI=[.loop u9,.loop vJ]:=by kernel_rfl
theorem aKB:∀ x,bC3 Tryz.prog E7 Tryz.f68 (aPD Tryz.f68) B2 B1 yI 110 .str _ _ x=D7 x:=by
 rintro⟨v0,v1,⟨⟩⟩
 kernel_rfl
theorem aNZ:eB Tryz.prog 68 _ _ D7:=by
 exact bMC aK GM Tryz.func68 (c:=yI) (by kernel_rfl) (aZ:=aPD Tryz.f68) (lt:=B2) (rt:=B1) (aF8 aFX ⟨a1F aB0 rfl aEJ,a1F aDC rfl aDS,trivial⟩) aKB
abbrev YJ:Ent:=⟨68,_,_,D7⟩
theorem aI5:Ent.OK Tryz.prog YJ:=aNZ
end Go.PM
namespace Go.PM
open Go Go.RowKit Go.Proofs
set_option maxRecDepth 100000
set_option maxHeartbeats 4000000
def I9(x:aJ [.agg TyG,.agg TyG]):Option (aJ [.agg TyG,.int .i64]):=match x with
 | (v0,v1,()) =>
  aC (iG ((v0.1,(v0.2.1,v0.2.2)),())) fun y1 =>
  aC (iG ((v1.1,(v1.2.1,v1.2.2)),())) fun y2 =>
  aC (V0 ((y1.1.1,y1.1.2),(y2.1.1,y2.1.2),())) fun y3 =>
  bif !(eqI y3.2.1 0) then
   some (([],([],[])),y3.2.1,())
  else aC (jY (v0.1,y3.1.2,())) fun y4 =>
  some ((y4.1.1,(y4.1.2.1,y4.1.2.2)),y4.2.1,())
noncomputable def QY:Code:=aT Tryz.f67
abbrev aD3:Env:=b8 [aTD,EY,vN]
theorem aOI:bE Tryz.prog aD3:=bF ⟨aYT,GF,yP,trivial⟩
def aA1(id:Nat):Option aS:=none
theorem aKK:aF QY=[]:=by kernel_rfl
theorem aOQ:∀ x,cI Tryz.prog aD3 Tryz.f67 (aD Tryz.f67) aA1 QY _ _ x=I9 x:=by
 rintro⟨v0,v1,⟨⟩⟩
 kernel_rfl
theorem aR6:eB Tryz.prog 67 _ _ I9:=by
 exact bL aK aOI Tryz.func67 (c:=QY) (by kernel_rfl) (aZ:=aD Tryz.f67) (lt:=aA1) (aE aKK trivial) aOQ
abbrev aDY:Ent:=⟨67,_,_,I9⟩
theorem aOG:Ent.OK Tryz.prog aDY:=aR6
def CA(x:aJ [.agg TyG,.agg TyG]):Option (aJ [.agg TyG,.int .i64]):=match x with
 | (v0,v1,()) =>
  aC (fI ([(v0.1,(v0.2.1,v0.2.2)),(v1.1,(v1.2.1,v1.2.2))],())) fun y1 =>
  bif !(eqI y1.1 0) then
   some (([],([],[])),y1.1,())
  else aC (I9 ((v0.1,(v0.2.1,v0.2.2)),(v1.1,(v1.2.1,v1.2.2)),())) fun y2 =>
  some ((y2.1.1,(y2.1.2.1,y2.1.2.2)),y2.2.1,())
noncomputable def QX:Code:=aT Tryz.f16
abbrev aE7:Env:=b8 [AP,aDY]
theorem aOT:bE Tryz.prog aE7:=bF ⟨AK,aOG,trivial⟩
def aBB(id:Nat):Option aS:=none
theorem aLJ:aF QX=[]:=by kernel_rfl
theorem aNR:∀ x,cI Tryz.prog aE7 Tryz.f16 (aD Tryz.f16) aBB QX _ _ x=CA x:=by
 rintro⟨v0,v1,⟨⟩⟩
 kernel_rfl
theorem aTW:eB Tryz.prog 16 _ _ CA:=by
 exact bL aK aOT Tryz.func16 (c:=QX) (by kernel_rfl) (aZ:=aD Tryz.f16) (lt:=aBB) (aE aLJ trivial) aNR
abbrev aDV:Ent:=⟨16,_,_,CA⟩
theorem aN1:Ent.OK Tryz.prog aDV:=aTW
def C9(x:aJ [.agg TyG,.agg TyG]):Option (aJ [.agg TyG,.int .i64]):=match x with
 | (v0,v1,()) =>
  aC (fI ([(v0.1,(v0.2.1,v0.2.2)),(v1.1,(v1.2.1,v1.2.2))],())) fun y1 =>
  bif !(eqI y1.1 0) then
   some (([],([],[])),y1.1,())
  else aC (iG ((v0.1,(v0.2.1,v0.2.2)),())) fun y2 =>
  aC (iG ((v1.1,(v1.2.1,v1.2.2)),())) fun y3 =>
  aC (D7 ((y2.1.1,y2.1.2),(y3.1.1,y3.1.2),())) fun y4 =>
  bif !(eqI y4.2.1 0) then
   some (([],([],[])),y4.2.1,())
  else aC (jY (v0.1,y4.1.2,())) fun y5 =>
  some ((y5.1.1,(y5.1.2.1,y5.1.2.2)),y5.2.1,())
noncomputable def QL:Code:=aT Tryz.f17
abbrev aD6:Env:=b8 [YJ,AP,EY,vN]
theorem aN9:bE Tryz.prog aD6:=bF ⟨aI5,AK,GF,yP,trivial⟩
def aA6(id:Nat):Option aS:=none
theorem aKO:aF QL=[]:=by kernel_rfl
theorem aN8:∀ x,cI Tryz.prog aD6 Tryz.f17 (aD Tryz.f17) aA6 QL _ _ x=C9 x:=by
 rintro⟨v0,v1,⟨⟩⟩
 kernel_rfl
theorem aS0:eB Tryz.prog 17 _ _ C9:=by
 exact bL aK aN9 Tryz.func17 (c:=QL) (by kernel_rfl) (aZ:=aD Tryz.f17) (lt:=aA6) (aE aKO trivial) aN8
abbrev aE2:Ent:=⟨17,_,_,C9⟩
theorem aNU:Ent.OK Tryz.prog aE2:=aS0
end Go.PM
namespace Go.PM
open Go Go.RowKit Go.Proofs
set_option maxRecDepth 100000
set_option maxHeartbeats 4000000
def U7(hrefinement_Join:aJ [.agg TyG,.agg TyG]→Option (aJ [.agg TyG,.int .i64])) (hrefinement_Meet:aJ [.agg TyG,.agg TyG]→Option (aJ [.agg TyG,.int .i64])) (hrefinement_Refines:aJ [.agg TyG,.agg TyG]→Option (aJ [.bool,.int .i64])) (hrefinement_Steps:aJ [.agg TyG,.agg TyG]→Option (aJ [.int .i64,.int .i64])) (hslices_Equal_api_Row_int:aJ [.list TyE,.list TyE]→Option (aJ [.bool])) (htemperament_FromCommas:aJ [.list TyE,.list TyD]→Option (aJ [.agg TyG,.int .i64])) (x:aJ []):Option (aJ [.bool]):=match x with
 | (()) =>
  aC (htemperament_FromCommas ([2,3,5],[[(-4),4,(-1)]],())) fun y1 =>
  aC (htemperament_FromCommas ([2,3,5],[[7,0,(-3)]],())) fun y2 =>
  aC (hrefinement_Join ((y1.1.1,(y1.1.2.1,y1.1.2.2)),(y2.1.1,(y2.1.2.1,y2.1.2.2)),())) fun y3 =>
  aC (hrefinement_Meet ((y1.1.1,(y1.1.2.1,y1.1.2.2)),(y2.1.1,(y2.1.2.1,y2.1.2.2)),())) fun y4 =>
  aC (hrefinement_Steps ((y1.1.1,(y1.1.2.1,y1.1.2.2)),(y3.1.1,(y3.1.2.1,y3.1.2.2)),())) fun y5 =>
  aC (hrefinement_Refines ((y1.1.1,(y1.1.2.1,y1.1.2.2)),(y2.1.1,(y2.1.2.1,y2.1.2.2)),())) fun y6 =>
  bif eqI y1.2.1 0 then
   bif eqI y2.2.1 0 then
    bif eqI y3.2.1 0 then
     bif eqI y4.2.1 0 then
      bif eqI y5.2.1 0 then
       bif eqI y6.2.1 0 then
        bif eqI (y3.1.2.2.length:Int) 1 then
         bif aL 0 y3.1.2.2.length then aC (hslices_Equal_api_Row_int ((y3.1.2.2.getD 0 []),[12,19,28],())) fun y7 =>
         bif y7.1 then
          bif eqI (y4.1.2.1.length:Int) 0 then
           bif eqI (y4.1.2.2.length:Int) 3 then
            bif eqI y5.1 1 then
             bif y6.1 then
              some (false,())
             else some (true,())
            else some (false,())
           else some (false,())
          else some (false,())
         else some (false,()) else none
        else some (false,())
       else some (false,())
      else some (false,())
     else some (false,())
    else some (false,())
   else some (false,())
  else some (false,())
def B3(x:aJ []):Option (aJ [.bool]):=U7 CA C9 gJ mO cO jY x
noncomputable def B0:Code:=aT Tryz.f11
abbrev U6:Env:=b8 [aDV,aE2,BX,OP,sX,vN]
theorem aFR:bE Tryz.prog U6:=bF ⟨aN1,aNU,EM,SS,wI,yP,trivial⟩
def IG(id:Nat):Option aS:=none
theorem aEO:aF B0=[]:=by kernel_rfl
theorem aER(hrefinement_Join:aJ [.agg TyG,.agg TyG]→Option (aJ [.agg TyG,.int .i64])) (hrefinement_Meet:aJ [.agg TyG,.agg TyG]→Option (aJ [.agg TyG,.int .i64])) (hrefinement_Refines:aJ [.agg TyG,.agg TyG]→Option (aJ [.bool,.int .i64])) (hrefinement_Steps:aJ [.agg TyG,.agg TyG]→Option (aJ [.int .i64,.int .i64])) (hslices_Equal_api_Row_int:aJ [.list TyE,.list TyE]→Option (aJ [.bool])) (htemperament_FromCommas:aJ [.list TyE,.list TyD]→Option (aJ [.agg TyG,.int .i64])):∀ x,cI Tryz.prog (b8 [⟨16,[.agg TyG,.agg TyG],[.agg TyG,.int .i64],hrefinement_Join⟩,⟨17,[.agg TyG,.agg TyG],[.agg TyG,.int .i64],hrefinement_Meet⟩,⟨18,[.agg TyG,.agg TyG],[.bool,.int .i64],hrefinement_Refines⟩,⟨27,[.agg TyG,.agg TyG],[.int .i64,.int .i64],hrefinement_Steps⟩,⟨62,[.list TyE,.list TyE],[.bool],hslices_Equal_api_Row_int⟩,⟨39,[.list TyE,.list TyD],[.agg TyG,.int .i64],htemperament_FromCommas⟩]) Tryz.f11 (aD Tryz.f11) IG B0 [] [.bool] x=U7 hrefinement_Join hrefinement_Meet hrefinement_Refines hrefinement_Steps hslices_Equal_api_Row_int htemperament_FromCommas x:=by
 rintro⟨⟩
 kernel_rfl
theorem aGD:∀ x,cI Tryz.prog U6 Tryz.f11 (aD Tryz.f11) IG B0 _ _ x=B3 x:=aER CA C9 gJ mO cO jY
theorem aL2:eB Tryz.prog 11 _ _ B3:=by
 exact bL aK aFR Tryz.func11 (c:=B0) (by kernel_rfl) (aZ:=aD Tryz.f11) (lt:=IG) (aE aEO trivial) aGD
def jC(x:aJ []):Option (aJ [.bool]):=some (true,())
theorem aHL:∀ x,B3 x=jC x:=by
 rintro⟨⟩
 kernel_rfl
theorem aKN:eB Tryz.prog 11 _ _ jC:=by
 have h:B3=jC:=funext aHL;rw[← h];exact aL2
abbrev U0:Ent:=⟨11,_,_,jC⟩
theorem aF1:Ent.OK Tryz.prog U0:=aKN
def cM(x:aJ [.agg TyQ]):Option (aJ [.bool]):=match x with
 | (v0,()) =>
  aC (jC (())) fun y1 =>
  bif y1.1 then
   aC (gC (((v0.1.1,(v0.1.2.1,v0.1.2.2)),((v0.2.1.1,(v0.2.1.2.1,v0.2.1.2.2)),v0.2.2)),())) fun y2 =>
   bif y2.1 then
    aC (qO (((v0.1.1,(v0.1.2.1,v0.1.2.2)),((v0.2.1.1,(v0.2.1.2.1,v0.2.1.2.2)),v0.2.2)),())) fun y3 =>
    aC (gJ ((y3.1.1,(y3.1.2.1,y3.1.2.2)),(y3.2.1.1,(y3.2.1.2.1,y3.2.1.2.2)),())) fun y4 =>
    aC (mO ((y3.1.1,(y3.1.2.1,y3.1.2.2)),(y3.2.1.1,(y3.2.1.2.1,y3.2.1.2.2)),())) fun y5 =>
    aC (o5 ((y3.1.1,(y3.1.2.1,y3.1.2.2)),(y3.2.1.1,(y3.2.1.2.1,y3.2.1.2.2)),(y3.1.1,(y3.1.2.1,y3.1.2.2)),())) fun y6 =>
    aC (cH (y3.1.1,y3.2.1.1,())) fun y7 =>
    bif y7.1 then
     aC (l6 ((y3.1.1,(y3.1.2.1,y3.1.2.2)),(y3.2.1.1,(y3.2.1.2.1,y3.2.1.2.2)),())) fun y8 =>
     bif !(eqI y4.2.1 0) then
      some (false,())
     else bif y4.1 then
      bif y8.1 then
       bif !(eqI y6.2.1 0) then
        some (false,())
       else bif y6.1 then
        bif y8.1 then
         bif y8.1 then
          bif eqI y5.2.1 0 then
           some (eqI y5.1 (aB .i64 ((y3.2.1.2.1.length:Int)-(y3.1.2.1.length:Int))),())
          else some (false,())
         else bif eqI y5.2.1 6 then
          some (eqI y5.1 0,())
         else some (false,())
        else some (false,())
       else bif y8.1 then
        some (false,())
       else bif y8.1 then
        bif eqI y5.2.1 0 then
         some (eqI y5.1 (aB .i64 ((y3.2.1.2.1.length:Int)-(y3.1.2.1.length:Int))),())
        else some (false,())
       else bif eqI y5.2.1 6 then
        some (eqI y5.1 0,())
       else some (false,())
      else some (false,())
     else bif y8.1 then
      some (false,())
     else bif !(eqI y6.2.1 0) then
      some (false,())
     else bif y6.1 then
      bif y8.1 then
       bif y8.1 then
        bif eqI y5.2.1 0 then
         some (eqI y5.1 (aB .i64 ((y3.2.1.2.1.length:Int)-(y3.1.2.1.length:Int))),())
        else some (false,())
       else bif eqI y5.2.1 6 then
        some (eqI y5.1 0,())
       else some (false,())
      else some (false,())
     else bif y8.1 then
      some (false,())
     else bif y8.1 then
      bif eqI y5.2.1 0 then
       some (eqI y5.1 (aB .i64 ((y3.2.1.2.1.length:Int)-(y3.1.2.1.length:Int))),())
      else some (false,())
     else bif eqI y5.2.1 6 then
      some (eqI y5.1 0,())
     else some (false,())
    else bif eqI y4.2.1 14 then
     bif eqI y5.2.1 y4.2.1 then
      bif eqI y6.2.1 y4.2.1 then
       bif y4.1 then
        some (false,())
       else bif eqI y5.1 0 then
        bif y6.1 then
         some (false,())
        else some (true,())
       else some (false,())
      else some (false,())
     else some (false,())
    else some (false,())
   else aC (jC (())) fun y9 =>
   some (y9.1,())
  else aC (jC (())) fun y10 =>
  some (y10.1,())
noncomputable def uH:Code:=aT Tryz.f6
abbrev CD:Env:=b8 [UX,BX,OP,XB,XK,U0,O4,wP]
theorem M8:bE Tryz.prog CD:=bF ⟨aFV,EM,SS,aJ6,aJ2,aF1,aCI,BO,trivial⟩
def BM(id:Nat):Option aS:=none
theorem L4:aF uH=[]:=by kernel_rfl
theorem ND:∀ x,cI Tryz.prog CD Tryz.f6 (aD Tryz.f6) BM uH _ _ x=cM x:=by
 rintro⟨v0,⟨⟩⟩
 kernel_rfl
theorem OR:eB Tryz.prog 6 _ _ cM:=by
 exact bL aK M8 Tryz.func6 (c:=uH) (by kernel_rfl) (aZ:=aD Tryz.f6) (lt:=BM) (aE L4 trivial) ND
end Go.PM
namespace Go.PM
open Go Go.RowKit Go.Proofs Go.Lz
set_option maxRecDepth 100000
theorem QG {α:Type} (z:α):∀ {a b:List α},a.length=b.length→a≠b→∃ x,x<a.length∧(∀ y,y<x→a.getD y z=b.getD y z)∧a.getD x z≠b.getD x z
 | [],[],_,h=>absurd rfl h
 | [],_::_,h,_=>by simp at h
 | _::_,[],h,_=>by simp at h
 | s::a,t::b,hl,h=>by
  by_cases e:s=t
  ·subst e
   obtain⟨x,h1,h2,h3⟩:=QG z (a:=a) (b:=b) (by simpa using hl) (fun e=>h (by rw[e]))
   refine⟨x+1,by simpa using h1,fun y hy=>?_,by simpa using h3⟩
   cases y with
   | zero=>rfl
   | succ y=>simpa using h2 y (by omega)
  ·exact⟨0,by simp,fun y hy=>by omega,by simpa using e⟩
theorem a41(a b:List Int) (ha:a.length<1048576):cO (a,b,())=some (decide (a=b),()):=by
 by_cases hl:a.length=b.length
 ·have e0:eqI (a.length:Int) (b.length:Int)=true:=by rw[jS]; exact decide_eq_true (by omega)
  have step:∀ t,t<a.length→∀ c,decide (a.getD t 0=b.getD t 0)=c→eJ (a,b,(a.length:Int),(t:Int),())=(bif c then some (.inl (a,b,(a.length:Int),((t+1:Nat):Int),())) else some (.inr (.inl (false,())))):=fun t ht c hc=>by
   have e1:ltI (t:Int) (a.length:Int)=true:=by rw[aI]; exact decide_eq_true (by omega)
   have e2:aL (t:Int) a.length=true:=by rw[aR]; exact decide_eq_true (by omega)
   have e3:aL (t:Int) b.length=true:=by rw[aR]; exact decide_eq_true (by omega)
   have e4:((t:Nat):Int).toNat=t:=Int.toNat_natCast _;have e5:=cY t (by omega)
   simp only[eJ,e1,e2,e3,e4,e5,cond_true,jS,hc];cases c <;> rfl
  by_cases he:a=b
  ·subst he
   have key:=bI (step:=eJ) (N:=2^64) (fun t=>(a,a,(a.length:Int),(t:Int),())) a.length (.inr ()) (by omega) (fun t ht=>step t ht true (by simp)) (by
    have e1:ltI (a.length:Int) (a.length:Int)=false:=by rw[aI]; exact decide_eq_false (by omega)
    simp only[eJ,e1,cond_false])
   have key:j9 (a,a,(a.length:Int),0,())=_:=key;simp only[cO,e0,Bool.not_true,cond_false,key,aG,lR,decide_true]
  ·obtain⟨x,h1,h2,h3⟩:=QG 0 hl he
   have key:=bI (step:=eJ) (N:=2^64) (fun t=>(a,b,(a.length:Int),(t:Int),())) x (.inl (false,())) (by omega) (fun t ht=>step t (by omega) true (decide_eq_true (h2 t ht))) (step x h1 false (decide_eq_false h3))
   have key:j9 (a,b,(a.length:Int),0,())=_:=key;simp only[cO,e0,Bool.not_true,cond_false,key,aG,CW,decide_eq_false he]
 ·have e0:eqI (a.length:Int) (b.length:Int)=false:=by rw[jS]; exact decide_eq_false (by omega)
  have he:¬ a=b:=fun e=>hl (by rw[e])
  simp only[cO,e0,Bool.not_false,cond_true,decide_eq_false he]
theorem aUG(a b:List Int) (ha:a.length<1048576):cH (a,b,())=some (decide (a=b),()):=by
 by_cases hl:a.length=b.length
 ·have e0:eqI (a.length:Int) (b.length:Int)=true:=by rw[jS]; exact decide_eq_true (by omega)
  have step:∀ t,t<a.length→∀ c,decide (a.getD t 0=b.getD t 0)=c→dI (a,b,(a.length:Int),(t:Int),())=(bif c then some (.inl (a,b,(a.length:Int),((t+1:Nat):Int),())) else some (.inr (.inl (false,())))):=fun t ht c hc=>by
   have e1:ltI (t:Int) (a.length:Int)=true:=by rw[aI]; exact decide_eq_true (by omega)
   have e2:aL (t:Int) a.length=true:=by rw[aR]; exact decide_eq_true (by omega)
   have e3:aL (t:Int) b.length=true:=by rw[aR]; exact decide_eq_true (by omega)
   have e4:((t:Nat):Int).toNat=t:=Int.toNat_natCast _;have e5:=cY t (by omega)
   simp only[dI,e1,e2,e3,e4,e5,cond_true,jS,hc];cases c <;> rfl
  by_cases he:a=b
  ·subst he
   have key:=bI (step:=dI) (N:=2^64) (fun t=>(a,a,(a.length:Int),(t:Int),())) a.length (.inr ()) (by omega) (fun t ht=>step t ht true (by simp)) (by
    have e1:ltI (a.length:Int) (a.length:Int)=false:=by rw[aI]; exact decide_eq_false (by omega)
    simp only[dI,e1,cond_false])
   have key:gO (a,a,(a.length:Int),0,())=_:=key;simp only[cH,e0,Bool.not_true,cond_false,key,aG,lR,decide_true]
  ·obtain⟨x,h1,h2,h3⟩:=QG 0 hl he
   have key:=bI (step:=dI) (N:=2^64) (fun t=>(a,b,(a.length:Int),(t:Int),())) x (.inl (false,())) (by omega) (fun t ht=>step t (by omega) true (decide_eq_true (h2 t ht))) (step x h1 false (decide_eq_false h3))
   have key:gO (a,b,(a.length:Int),0,())=_:=key;simp only[cH,e0,Bool.not_true,cond_false,key,aG,CW,decide_eq_false he]
 ·have e0:eqI (a.length:Int) (b.length:Int)=false:=by rw[jS]; exact decide_eq_false (by omega)
  have he:¬ a=b:=fun e=>hl (by rw[e])
  simp only[cH,e0,Bool.not_false,cond_true,decide_eq_false he]
theorem a9Q(a b:List (List Int)) (ha:a.length<1048576) (hr:∀ r∈a,r.length<1048576):aV (a,b,(),())=some (decide (a=b),()):=by
 by_cases hl:a.length=b.length
 ·have e0:eqI (a.length:Int) (b.length:Int)=true:=by rw[jS]; exact decide_eq_true (by omega)
  have step:∀ t,t<a.length→∀ c,decide (a.getD t []=b.getD t [])=c→aY (b,(),a,(a.length:Int),(t:Int),())=(bif c then some (.inl (b,(),a,(a.length:Int),((t+1:Nat):Int),())) else some (.inr (.inl (false,())))):=fun t ht c hc=>by
   have e1:ltI (t:Int) (a.length:Int)=true:=by rw[aI]; exact decide_eq_true (by omega)
   have e2:aL (t:Int) a.length=true:=by rw[aR]; exact decide_eq_true (by omega)
   have e3:aL (t:Int) b.length=true:=by rw[aR]; exact decide_eq_true (by omega)
   have e4:((t:Nat):Int).toNat=t:=Int.toNat_natCast _;have e5:=cY t (by omega)
   have e6:(a.getD t []).length<1048576:=by
    have:a.getD t []=a[t]:=by simp[List.getD,ht]
    rw[this]; exact hr _ (List.getElem_mem ht)
   have e7:=a41 (a.getD t []) (b.getD t []) e6;simp only[aY,e1,e2,e3,e4,e5,cond_true,Y8,e7,aG,hc]
  by_cases he:a=b
  ·subst he
   have key:=bI (step:=aY) (N:=2^64) (fun t=>(a,(),a,(a.length:Int),(t:Int),())) a.length (.inr ()) (by omega) (fun t ht=>step t ht true (by simp)) (by
    have e1:ltI (a.length:Int) (a.length:Int)=false:=by rw[aI]; exact decide_eq_false (by omega)
    simp only[aY,e1,cond_false])
   have key:bO (a,(),a,(a.length:Int),0,())=_:=key;simp only[aV,e0,Bool.not_true,cond_false,key,aG,lR,decide_true]
  ·obtain⟨x,h1,h2,h3⟩:=QG [] hl he
   have key:=bI (step:=aY) (N:=2^64) (fun t=>(b,(),a,(a.length:Int),(t:Int),())) x (.inl (false,())) (by omega) (fun t ht=>step t (by omega) true (decide_eq_true (h2 t ht))) (step x h1 false (decide_eq_false h3))
   have key:bO (b,(),a,(a.length:Int),0,())=_:=key;simp only[aV,e0,Bool.not_true,cond_false,key,aG,CW,decide_eq_false he]
 ·have e0:eqI (a.length:Int) (b.length:Int)=false:=by rw[jS]; exact decide_eq_false (by omega)
  have he:¬ a=b:=fun e=>hl (by rw[e])
  simp only[aV,e0,Bool.not_false,cond_true,decide_eq_false he]
theorem bAC(a b:List (List Int)) (ha:a.length<1048576) (hr:∀ r∈a,r.length<1048576):aU (a,b,(),())=some (decide (a=b),()):=by
 by_cases hl:a.length=b.length
 ·have e0:eqI (a.length:Int) (b.length:Int)=true:=by rw[jS]; exact decide_eq_true (by omega)
  have step:∀ t,t<a.length→∀ c,decide (a.getD t []=b.getD t [])=c→aX (b,(),a,(a.length:Int),(t:Int),())=(bif c then some (.inl (b,(),a,(a.length:Int),((t+1:Nat):Int),())) else some (.inr (.inl (false,())))):=fun t ht c hc=>by
   have e1:ltI (t:Int) (a.length:Int)=true:=by rw[aI]; exact decide_eq_true (by omega)
   have e2:aL (t:Int) a.length=true:=by rw[aR]; exact decide_eq_true (by omega)
   have e3:aL (t:Int) b.length=true:=by rw[aR]; exact decide_eq_true (by omega)
   have e4:((t:Nat):Int).toNat=t:=Int.toNat_natCast _;have e5:=cY t (by omega)
   have e6:(a.getD t []).length<1048576:=by
    have:a.getD t []=a[t]:=by simp[List.getD,ht]
    rw[this]; exact hr _ (List.getElem_mem ht)
   have e7:=a41 (a.getD t []) (b.getD t []) e6;simp only[aX,e1,e2,e3,e4,e5,cond_true,wS,e7,aG,hc]
  by_cases he:a=b
  ·subst he
   have key:=bI (step:=aX) (N:=2^64) (fun t=>(a,(),a,(a.length:Int),(t:Int),())) a.length (.inr ()) (by omega) (fun t ht=>step t ht true (by simp)) (by
    have e1:ltI (a.length:Int) (a.length:Int)=false:=by rw[aI]; exact decide_eq_false (by omega)
    simp only[aX,e1,cond_false])
   have key:bM (a,(),a,(a.length:Int),0,())=_:=key;simp only[aU,e0,Bool.not_true,cond_false,key,aG,lR,decide_true]
  ·obtain⟨x,h1,h2,h3⟩:=QG [] hl he
   have key:=bI (step:=aX) (N:=2^64) (fun t=>(b,(),a,(a.length:Int),(t:Int),())) x (.inl (false,())) (by omega) (fun t ht=>step t (by omega) true (decide_eq_true (h2 t ht))) (step x h1 false (decide_eq_false h3))
   have key:bM (b,(),a,(a.length:Int),0,())=_:=key;simp only[aU,e0,Bool.not_true,cond_false,key,aG,CW,decide_eq_false he]
 ·have e0:eqI (a.length:Int) (b.length:Int)=false:=by rw[jS]; exact decide_eq_false (by omega)
  have he:¬ a=b:=fun e=>hl (by rw[e])
  simp only[aU,e0,Bool.not_false,cond_true,decide_eq_false he]
theorem a35(n n':Int) (a b:List (List Int)) (ha:a.length<1048576) (hr:∀ r∈a,r.length<1048576):yV ((n,a),(n',b),())=some (decide (n=n')&&decide (a=b),()):=by
 by_cases h:n=n'
 ·subst h
  have e0:eqI n n=true:=by rw[jS]; exact decide_eq_true rfl
  simp only[yV,e0,cond_true,a9Q a b ha hr,aG,decide_true,Bool.true_and]
 ·have e0:eqI n n'=false:=by rw[jS]; exact decide_eq_false h
  simp only[yV,e0,cond_false,h,decide_false,Bool.false_and]
theorem bLL(a b:List (List Int)) (ha:a.length<1048576) (hr:∀ r∈a,r.length<1048576):vZ (a,b,())=some (decide (a=b),()):=by
 simp only[vZ,bAC a b ha hr,aG]
end Go.PM
namespace Go.Lz
theorem AV.back {n m k k2:Nat} {A K K2:Nat→V} (hA:∀ i,i<m→∀ c,n≤c→A i c=0) (h1:AV n m A k K) (h2:AV n k K k2 K2):AV n k2 K2 k K:=by
 intro y;rw[h1];constructor
 ·intro g
  refine⟨g.1,fun x hx=>?_⟩
  have:=((h2 _).1 (Sp.mem hx));rw[NN];exact this.span ((h1 y).2 g)
 ·rintro⟨g1,g2⟩
  refine⟨g1,fun x hx=>?_⟩
  have:Sp k2 K2 (A x):=(h2 _).2 ⟨hA x hx,fun z hz=>by rw[NN]; exact((h1 _).1 (Sp.mem hz)).2 x hx⟩
  exact Ker.span ⟨g1,g2⟩ this
theorem AV.of_same {n m m' k:Nat} {A A' K:Nat→V} (h:Same m A m' A') (h1:AV n m A k K):AV n m' A' k K:=fun y=>(h1 y).trans (Ker.same h)
end Go.Lz
namespace Go.PM
open Go Go.RowKit Go.Proofs Go.Lz
set_option maxRecDepth 100000
structure RT (ps:List Int) (n d r:Nat) (C K:Nat→V):Prop where
 pr:xC (ps,())=some (0,())
 len:ps.length=n
 n4:n≤4
 hc:∃ q,Hn d C q
 hk:∃ p,Hn r K p
 wc:Wd d n C
 wk:Wd r n K
 bc:Big d n C 1000000000
 bk:Big r n K 1000000000
 ker:AV n d C r K
 ker2:AV n r K d C
theorem bIP {d n:Nat} {M:Nat→V} (hn:n≤4):∀ r∈Mr d n M,r.length<1048576:=fun r hr=>by
 obtain⟨i,_,rfl⟩:=a03 hr;rw[FX]; omega
theorem RT.check {ps:List Int} {n d r:Nat} {C K:Nat→V} (h:RT ps n d r C K):dQ ((ps,(Mr d n C,Mr r n K)),())=some (0,()):=by
 obtain⟨q,hc⟩:=h.hc;obtain⟨p,hk⟩:=h.hk;have n4:=h.n4;have d4:=(Hn.LC hc h.wc).1;have r4:=(Hn.LC hk h.wk).1;have e0:eqI 0 0=true:=by decide
 have e1:((ps.length:Nat):Int)=(n:Int):=by rw[h.len]
 have s1:=aXL hc n4 h.wc h.bc h.ker hc h.ker2 h.bc;have s2:=aL8 hc n4 h.wc h.bc hk h.ker h.bk;have s3:=aM2 hc h.wc (by omega) (by omega) h.bc
 have s4:=a35 (n:Int) (n:Int) (Mr d n C) (Mr d n C) (by rw[tZ]; omega) (bIP n4)
 have s5:=bLL (Mr r n K) (Mr r n K) (by rw[tZ]; omega) (bIP n4)
 simp only[decide_true,Bool.and_self]at s4 s5;simp only[dQ,h.pr,aG,e0,Bool.not_true,cond_false,e1,s3,s1,s4,cond_true,s2,s5]
theorem bIW {ps:List Int} {n:Nat} (hp:xC (ps,())=some (0,())) (hl:ps.length=n) (hn:n≤4) (rows:List (List Int)) (hk:rows.length≤4) (hlen:∀ r∈rows,r.length=n) (hr:∀ r∈rows,∀ a∈r,a.natAbs≤10) (vals:Bool) :
  ∃ d r C K,o4 (ps,rows,vals,())=some ((ps,(Mr d n C,Mr r n K)),0,())∧RT ps n d r C K:=by
 have hrow:∀ i,i<rows.length→∃ r,r∈rows∧aM7 rows i=qP r:=fun i hi=>⟨rows[i],List.getElem_mem hi,by unfold aM7; simp[List.getD,hi]⟩
 have hw:Wd rows.length n (aM7 rows):=fun i hi x hx=>by
  obtain⟨r,hr1,hr2⟩:=hrow i hi;rw[hr2]; unfold qP;have:=hlen r hr1;simp[List.getD,List.getElem?_eq_none (show r.length≤x by omega)]
 have hB:Big rows.length n (aM7 rows) 10:=fun i hi x hx=>by
  obtain⟨r,hr1,hr2⟩:=hrow i hi;rw[hr2]; unfold qP;have hl:=hlen r hr1;have:r.getD x 0=r[x]'(by omega):=by simp[List.getD,show x<r.length by omega]
  rw[this];exact hr r hr1 _ (List.getElem_mem _)
 have b10:4*(24*(10*10*10*10))≤1000000000:=by decide
 obtain⟨d,M,q,g1,g2,g3,g4,g5,g6⟩:=of_eq rows (n:=n) (by omega) (by omega) hlen (E:=fun d=>10^dg 1 d) (T:=fun d=>10^(5*dg 1 d+1)) hr (show 10^dg 1 0≤1000000000 by decide) (bGU (.inl hk) (by decide)) fun d H p hd hH hs hwd i hi x hx=>by
  have hdg:=(a9E (k:=rows.length) (M:=aM7 rows) (E:=10) (by omega) hH (fun j hj=>⟨1,by decide,by
   have:=(hs _).2 (Sp.mem hj);refine cast (congrArg _ ?_) this
   funext x; simp⟩) (hB.all hw)).mono fun v=>(hs v).1
  exact Nat.le_trans (Nat.le_trans (Hn.bJO hH hdg i hi x) (Nat.mul_le_mul (by omega) (bD8 (by decide) (by omega)))) b10
 have hd:=(Hn.LC g3 g5).1;obtain⟨m,A,a1,a2⟩:=aRR (by omega) (by omega) g5 g6
 obtain⟨m',A',J',K,p,r,k1,k2,k3,k4,k5,k6,k7⟩:=aQV (by omega) hn g5 (by rw[← p9]; exact g6) a2
 obtain⟨m2,A2,J2,S,s,t,c1,c2,c3,c4,c5,c6,c7⟩:=aZQ (by omega) hn k6 k7 k2
 have hI:AV n rows.length (aM7 rows) r K:=k5.of_same g4.symm;have bK:Big r n K 1000000000:=fun i hi x hx=>Nat.le_trans (aV3 (E:=10) (D:=1) hn (by omega) hw hB (by decide) (by decide) (by decide) k4 hI i hi x) b10
 have bS:Big t n S 1000000000:=fun i hi x hx=>Nat.le_trans (bGV (E:=10) (D:=1) hk hn hw hB (by decide) (by decide) (by decide) hI c4 c5 i hi x) b10
 have s1:=aXL g3 hn g5 g6 k5 c4 c5 bS;have s2:=aL8 g3 hn g5 g6 k4 k5 bK;have back:=AV.back g5 k5 c5;have e0:eqI 0 0=true:=by decide
 have e1:((ps.length:Nat):Int)=(n:Int):=by rw[hl]
 have g1':DY ((n:Int),rows,())=some (((n:Int),Mr d n M),0,()):=g1;cases vals with
 | false =>
  refine⟨t,r,S,K,?_,⟨hp,hl,hn,⟨s,c4⟩,⟨p,k4⟩,c6,k6,bS,bK,back,c5⟩⟩;simp only[o4,hp,aG,e0,Bool.not_true,cond_false,e1,g1',s1,s2]
 | true =>
  refine⟨r,t,K,S,?_,⟨hp,hl,hn,⟨p,k4⟩,⟨s,c4⟩,k6,c6,bK,bS,c5,back⟩⟩;simp only[o4,hp,aG,e0,Bool.not_true,cond_false,cond_true,e1,g1',s1,s2]
end Go.PM
namespace Go.PM
open Go Go.RowKit Go.Proofs Go.Lz
set_option maxRecDepth 100000
def L12:List (List Int):=[[2,3,5],[2,3,5,7],[2,3],[2,3,7],[2,5,7],[3,5,7],[2,3,5,11],[2],[2,3,7,13],[3,5,7,13]]
theorem bMT:∀ i,i<10→xC (L12.getD i [],())=some (0,())∧(L12.getD i []).length≤4:=by
 intro i hi;rcases(show i=0∨i=1∨i=2∨i=3∨i=4∨i=5∨i=6∨i=7∨i=8∨i=9 by omega)with rfl|rfl|rfl|rfl|rfl|rfl|rfl|rfl|rfl|rfl
 all_goals exact⟨by kernel_rfl,by decide⟩
theorem bFJ(v:Int) (h0:0≤v) (h1:v<256):vD (v,())=some (L12.getD (v%10).toNat [],()):=by
 have e1:IntKind.wrap .i64 v=v:=aGN (by omega) (by omega)
 have e2:v.tmod 10=v%10:=Int.tmod_eq_emod_of_nonneg h0;have e3:aL (v%10) 10=true:=by rw[aR]; exact decide_eq_true (by omega)
 have e4:eqI 10 0=false:=by decide
 have hl:(L12.length:Int)=10:=by decide
 have hl2:L12.length=10:=by decide
 show (bif eqI (L12.length:Int) 0 then none else bif aL ((IntKind.wrap .i64 v).tmod (L12.length:Int)) L12.length then some ((L12.getD (((IntKind.wrap .i64 v).tmod (L12.length:Int)).toNat) []),()) else none)=_;rw[e1,hl,e2,hl2,e4,e3];rfl
def TN(t:Int×Int×Int×Int):Nat→Int
 | 0=>t.1
 | 1=>t.2.1
 | 2=>t.2.2.1
 | _=>t.2.2.2
def I8(t:Int×Int×Int×Int):Prop:=∀ i,i<4→-128≤TN t i∧TN t i<128
theorem bAD(ps:List Int) (hl:ps.length≤4) (t:Int×Int×Int×Int) (ht:I8 t):oC (ps,t,())=some ((List.range ps.length).map (fun i=>(TN t i).tmod 10),()):=by
 have w0:IntKind.wrap .i64 t.1=t.1:=aGN (by have:=ht 0 (by omega); simp only[TN]at this; omega) (by have:=ht 0 (by omega); simp only[TN]at this; omega)
 have w1:IntKind.wrap .i64 t.2.1=t.2.1:=aGN (by have:=ht 1 (by omega); simp only[TN]at this; omega) (by have:=ht 1 (by omega); simp only[TN]at this; omega)
 have w2:IntKind.wrap .i64 t.2.2.1=t.2.2.1:=aGN (by have:=ht 2 (by omega); simp only[TN]at this; omega) (by have:=ht 2 (by omega); simp only[TN]at this; omega)
 have w3:IntKind.wrap .i64 t.2.2.2=t.2.2.2:=aGN (by have:=ht 3 (by omega); simp only[TN]at this; omega) (by have:=ht 3 (by omega); simp only[TN]at this; omega)
 have key:=bI (step:=mG) (N:=2^64) (fun s=>(ps,(t.1,(t.2.1,(t.2.2.1,t.2.2.2))),(List.range s).map (fun i=>(TN t i).tmod 10),(s:Int),())) ps.length ((List.range ps.length).map (fun i=>(TN t i).tmod 10),()) (by omega) (fun s hs=>?_) ?_
 ·have key:rH (ps,(t.1,(t.2.1,(t.2.2.1,t.2.2.2))),[],0,())=_:=key
  simp only[oC,key,aG]
 ·have e1:ltI (s:Int) (ps.length:Int)=true:=by rw[aI]; exact decide_eq_true (by omega)
  have e2:ltI (s:Int) 4=true:=by rw[aI]; exact decide_eq_true (by omega)
  have e3:=cY s (by omega)
  have e4:∀ x:Int,Nat.ble [x].length 1048576=true:=fun _=>rfl
  have e5:Nat.ble ((List.range s).map (fun i=>(TN t i).tmod 10)).length 1048576=true:=by rw[gY,List.length_map,List.length_range]; exact decide_eq_true (by omega)
  have e6:(List.range (s+1)).map (fun i=>(TN t i).tmod 10)=(List.range s).map (fun i=>(TN t i).tmod 10)++[(TN t s).tmod 10]:=by rw[List.range_succ,List.map_append]; rfl
  simp only[mG,e1,e2,cond_true,e4,e5,w0,w1,w2,w3,e3,e6];rcases(show s=0∨s=1∨s=2∨s=3 by omega)with rfl|rfl|rfl|rfl <;> rfl
 ·have e1:ltI (ps.length:Int) (ps.length:Int)=false:=by rw[aI]; exact decide_eq_false (by omega)
  simp only[mG,e1,cond_false]
theorem a71(v:Int) (h0:0≤v) (h1:v<256) (rows:List (Int×Int×Int×Int)) (hk:rows.length≤3) (hr:∀ t∈rows,I8 t) (vals:Bool) :
  ∃ d r C K,lB ((v,(rows,vals)),())=some ((L12.getD (v%10).toNat [],(Mr d (L12.getD (v%10).toNat []).length C,Mr r (L12.getD (v%10).toNat []).length K)),())∧RT (L12.getD (v%10).toNat []) (L12.getD (v%10).toNat []).length d r C K:=by
 obtain⟨hp,hl⟩:=bMT (v%10).toNat (by omega)
 have hP:=bFJ v h0 h1;generalize L12.getD (v%10).toNat []=ps at hp hl hP ⊢;have key:=bI (step:=rD) (N:=2^64) (fun s=>((v,(rows,vals)),([],([],[])),ps,(rows.take s).map (fun t=>(List.range ps.length).map (fun i=>(TN t i).tmod 10)),(s:Int),())) rows.length
  ((v,(rows,vals)),([],([],[])),ps,rows.map (fun t=>(List.range ps.length).map (fun i=>(TN t i).tmod 10)),()) (by omega) (fun s hs=>?_) ?_
 ·have key:vX ((v,(rows,vals)),([],([],[])),ps,[],0,())=_:=key
  obtain⟨d,r,C,K,b1,b2⟩:=bIW hp rfl hl (rows.map (fun t=>(List.range ps.length).map (fun i=>(TN t i).tmod 10))) (by rw[List.length_map]; omega) (fun r hr=>by
   obtain⟨t,_,rfl⟩:=List.mem_map.1 hr;simp) (fun r hr a ha=>by
   obtain⟨t,_,rfl⟩:=List.mem_map.1 hr;obtain⟨i,_,rfl⟩:=List.mem_map.1 ha;rw[Int.natAbs_tmod];have:=Nat.mod_lt (TN t i).natAbs (show 0<(10:Int).natAbs by decide)
   have e:(10:Int).natAbs=10:=rfl;omega) vals
  refine⟨d,r,C,K,?_,b2⟩;simp only[lB,hP,aG,key,b1]
 ·have e1:ltI (s:Int) (rows.length:Int)=true:=by rw[aI]; exact decide_eq_true (by omega)
  have e2:ltI (s:Int) 3=true:=by rw[aI]; exact decide_eq_true (by omega)
  have e3:=cY s (by omega)
  have e4:aL (s:Int) rows.length=true:=by rw[aR]; exact decide_eq_true (by omega)
  have e5:((s:Nat):Int).toNat=s:=Int.toNat_natCast _;have e6:rows.getD s (0,0,0,0)=rows[s]:=by simp[List.getD,hs]
  have e7:=bAD ps hl rows[s] (hr _ (List.getElem_mem hs));have e8:∀ x:List Int,Nat.ble [x].length 1048576=true:=fun _=>rfl
  have e9:Nat.ble ((rows.take s).map (fun t=>(List.range ps.length).map (fun i=>(TN t i).tmod 10))).length 1048576=true:=by rw[gY,List.length_map,List.length_take]; exact decide_eq_true (by omega)
  have e10:(rows.take (s+1)).map (fun t=>(List.range ps.length).map (fun i=>(TN t i).tmod 10))=(rows.take s).map (fun t=>(List.range ps.length).map (fun i=>(TN t i).tmod 10))++[(List.range ps.length).map (fun i=>(TN rows[s] i).tmod 10)]:=by
   rw[List.take_succ_eq_append_getElem hs,List.map_append]; rfl
  simp only[rD,e1,e2,cond_true,e4,e5,e6,e7,aG,e8,e9,e3,e10]
 ·have e1:ltI (rows.length:Int) (rows.length:Int)=false:=by rw[aI]; exact decide_eq_false (by omega)
  simp only[rD,e1,cond_false,List.take_length]
end Go.PM
namespace Go.PM
open Go Go.RowKit Go.Proofs Go.Lz
set_option maxRecDepth 100000
theorem bHP {n:Nat} {u v:V} {q:Int} (hn:n<1048576) (ok:a0K n u v q):W9 (t:=.str) kH (Zr n u) (Zn q,Zr n v,())=some (Zr n fun x=>u x-q*v x):=by
 have hl:=lZ n u;have main:kH () ((0,0,n),Zn q,Zr n v,()) [Zr n u]=some ((),[Zr n fun x=>u x-q*v x]):=by
  unfold kH;simp only[I5]
  by_cases hq:q=0
  ·subst hq
   simp only[decide_true,cond_true];have:Zr n (fun x=>u x-0*v x)=Zr n u:=RX fun i _=>by simp
   rw[this]
  ·have key:=bI (step:=kU) (N:=2^64)
    (fun t=>((0,0,n),Zn q,Zr n v,(n:Int),(t:Int),[Zr n fun x=>if x<t then u x-q*v x else u x],())) n ([Zr n fun x=>u x-q*v x],()) (by omega) (fun t ht=>?_) ?_
   ·have h0:Zr n (fun x=>if x<0 then u x-q*v x else u x)=Zr n u:=RX fun i _=>by simp
    simp only[h0]at key;have key:bZ kU (2^64) ((0,0,n),Zn q,Zr n v,(n:Int),0,[Zr n u],())=_:=key;simp only[hq,decide_false,cond_false,sY,lZ,key,aG]
   ·have e1:ltI (t:Int) (n:Int)=true:=by rw[aI]; exact decide_eq_true (by omega)
    have e2:aL (t:Int) n=true:=by rw[aR]; exact decide_eq_true (by omega)
    have e3:(0+t)*1=t:=by omega
    have e3':((t:Nat):Int).toNat=t:=Int.toNat_natCast _;have e4:dH [Zr n fun x=>if x<t then u x-q*v x else u x] 0=n:=by
     show (Zr n _).length=n;exact lZ _ _
    have e6:Nat.blt t n=true:=by rw[cX]; simpa using ht
    have e7:eD [Zr n fun x=>if x<t then u x-q*v x else u x] 0 t ByteArray.empty=Zn (u t):=by
     show (Zr n _).getD t _=_;rw[W5 _ ht]; simp
    have e9:yQ [Zr n fun x=>if x<t then u x-q*v x else u x] 0 t (Zn (u t-q*v t))=[Zr n fun x=>if x<t+1 then u x-q*v x else u x]:=by
     show [(Zr n _).set t _]=_;rw[bCE u (fun x=>u x-q*v x) t ht]
    have m1:=aQY q (v t) (ok.mul t ht);have m2:=a14 (u t) (q*v t) (ok.sub t ht) (by rw[Int.natAbs_mul]; exact Nat.le_trans (aWG _ _) (ok.mul t ht))
    have e10:=cY t (by omega)
    simp only[kU,e1,cond_true,e2,e3',e3,e6,e4,e7,lZ,W5 v ht,m1,aG,m2,e9,e10]
   ·have e1:ltI (n:Int) (n:Int)=false:=by rw[aI]; exact decide_eq_false (by omega)
    have:Zr n (fun x=>if x<n then u x-q*v x else u x)=Zr n fun x=>u x-q*v x:=RX fun i hi=>by simp[hi]
    simp only[kU,e1,cond_false,this]
 have e1:Nat.beq (Zr n fun x=>u x-q*v x).length (Zr n u).length=true:=by
  have hbb:∀ a:Nat,Nat.beq a a=true:=fun a=>by
   induction a with
   | zero=>rfl
   | succ a ih=>exact ih
  rw[lZ,lZ];exact hbb n
 unfold W9;rw[hl,main];simp only[hl,lZ]at e1 ⊢;rw[e1]; rfl
def red(M:Nat→V) (p:Nat→Nat):Nat→V→V
 | 0,u=>u
 | t+1,u=>fun x=>red M p t u x-(red M p t u (p t)).fdiv (M t (p t))*M t x
def quo(M:Nat→V) (p:Nat→Nat) (t:Nat) (u:V):Int:=(red M p t u (p t)).fdiv (M t (p t))
section
variable {d n:Nat} {M:Nat→V} {p:Nat→Nat}
theorem bBD(h:Hn d M p) (u:V):∀ t,t≤d→Sp d M (fun x=>u x-red M p t u x)
 | 0,_=>by
  refine cast (congrArg _ ?_) Sp.zero
  funext x; simp[red]
 | t+1,ht=>by
  have:=Sp.comb (quo M p t u) (bBD h u t (by omega)) (Sp.mem (M:=M) (show t<d by omega))
  refine cast (congrArg _ ?_) this
  funext x
  simp only[red,quo];grind
theorem bHF(h:Hn d M p) (u:V):∀ t,t≤d→∀ i,i<t→0≤red M p t u (p i)∧red M p t u (p i)<M i (p i)
 | 0,_,i,hi=>by omega
 | t+1,ht,i,hi=>by
  by_cases e:i=t
  ·subst e
   simp only[red];rw[aSO];have hp:=h.pos i (by omega)
   exact⟨Int.fmod_nonneg_of_pos _ hp,Int.fmod_lt_of_pos _ hp⟩
  ·have hlow:=h.low t (by omega) (p i) (h.inc i t (by omega) (by omega))
   simp only[red,hlow,Int.mul_zero,Int.sub_zero];exact bHF h u t (by omega) i (by omega)
theorem a97(hw:∀ i,i<d→∀ x,n≤x→M i x=0) {u:V} (hu:∀ x,n≤x→u x=0):∀ t,t≤d→∀ x,n≤x→red M p t u x=0
 | 0,_,x,hx=>hu x hx
 | t+1,ht,x,hx=>by
  simp only[red,a97 hw hu t (by omega) x hx,hw t (by omega) x hx,Int.mul_zero,Int.sub_zero]
structure Rds (d n:Nat) (M:Nat→V) (B:Nat) (U:Nat→Nat):Prop where
 row:∀ i,i<d→∀ x,x<n→(M i x).natAbs≤B
 up:∀ t,t<d→U t+(U t+1)*B≤U (t+1)
 fit:∀ t,t<d→Lib.nDigits (U t+1)+Lib.nDigits B≤xM
theorem bEL {B:Nat} {U:Nat→Nat} (h:Hn d M p) (hw:∀ i,i<d→∀ x,n≤x→M i x=0) (hb:Rds d n M B U) {u:V} (hu:∀ x,x<n→(u x).natAbs≤U 0):∀ t,t≤d→∀ x,x<n→(red M p t u x).natAbs≤U t
 | 0,_,x,hx=>hu x hx
 | t+1,ht,x,hx=>by
  have h1:=bEL h hw hb hu t (by omega)
  have hpos:=h.pos t (by omega)
  have hp:=Hn.aVI h hw (show t<d by omega)
  have h2:=aT1 (h1 (p t) hp) (show M t (p t)≠0 by omega)
  have h3:(red M p t u (p t)).fdiv (M t (p t))*M t x=(red M p t u (p t)).fdiv (M t (p t))*M t x:=rfl;have h4:((red M p t u (p t)).fdiv (M t (p t))*M t x).natAbs=((red M p t u (p t)).fdiv (M t (p t))).natAbs*(M t x).natAbs:=Int.natAbs_mul _ _;have h5:((red M p t u (p t)).fdiv (M t (p t))).natAbs*(M t x).natAbs≤(U t+1)*B:=Nat.mul_le_mul h2 (hb.row t (by omega) x hx)
  have h6:=hb.up t (by omega)
  have h7:=h1 x hx;simp only[red];omega
end
theorem bDC(r:List Int) (hl:r.length≤1048576) (hr:∀ a∈r,-9223372036854775808≤a∧a<9223372036854775808):lU (r,())=some (r.map Zn,()):=by
 have e1:ltI (r.length:Int) 0=false:=by rw[aI]; exact decide_eq_false (by omega)
 have e2:ltI 1048576 (r.length:Int)=false:=by rw[aI]; exact decide_eq_false (by omega)
 have key:yZ ([],r,(r.length:Int),0,())=some (r.map Zn,()):=aWW r hl hr;unfold lU;simp only[e1,e2,Bool.not_false,cond_true,List.replicate_zero,key,aG]
theorem bFQ(n:Nat) (v:V):(Vr n v).map Zn=Zr n v:=by simp[Vr,Zr]
section
variable {d n:Nat} {M:Nat→V} {p:Nat→Nat}
theorem a5I(h:Hn d M p) (hw:∀ i,i<d→∀ x,n≤x→M i x=0) (hn:n<1048576) (hM:∀ i,i<d→∀ x,x<n→(M i x).natAbs≤1000000000):∀ l:List Nat,(∀ i∈l,i<d) →
  aZ8 (l.map fun i=>Vr n (M i))=some (l.map fun i=>((p i:Int),Zr n (M i),()))
 | [],_=>rfl
 | i::l,hl=>by
  have hi:=hl i (by simp)
  have e1:=bDC (Vr n (M i)) (by rw[FX]; omega) (fun a ha=>by have:=a1E (hM i hi) a ha; omega)
  rw[bFQ]at e1;have e2:=bEI hn (Hn.aVI h hw hi) (h.low i hi) (by have:=h.pos i hi; omega)
  have e3:=a5I h hw hn hM l (fun j hj=>hl j (by simp[hj]))
  simp only[List.map_cons,aZ8,e1,aG,e2,e3]
theorem bC6(h:Hn d M p) (hw:∀ i,i<d→∀ x,n≤x→M i x=0) (hn:n<1048576) (hd:d<1048576) (hM:∀ i,i<d→∀ x,x<n→(M i x).natAbs≤1000000000) :
  aR8 (((n:Int),Mr d n M),())=some ((List.range d).map fun i=>((p i:Int),Zr n (M i),())):=by
 have e1:Nat.ble (Mr d n M).length 1048576=true:=by rw[gY,tZ]; exact decide_eq_true (by omega)
 simp only[aR8,e1,cond_true];exact a5I h hw hn hM (List.range d) fun i hi=>List.mem_range.1 hi
theorem aWB {B:Nat} {U:Nat→Nat} (h:Hn d M p) (hw:∀ i,i<d→∀ x,n≤x→M i x=0) (hn:n<1048576) (hd:d<1048576) (hb:Rds d n M B U) {u:V} (hu:∀ x,x<n→(u x).natAbs≤U 0) (c:XZ [(.prod (.int .i64) (.list (.list (.int .i64))))]):∀ (j t:Nat),t+j=d→∀ (q:List ByteArray),q.length=t →
  ∃ q',aRE lK (bMF cZ gB) ((List.range' t j).map fun i=>((p i:Int),Zr n (M i),())) (Zr n (red M p t u),q,c,())=some (Zr n (red M p d u),q',())
 | 0,t,ht,q,_=>by
  have:t=d:=by omega
  subst this;exact⟨q,rfl⟩
 | j+1,t,ht,q,hq=>by
  have htd:t<d:=by omega
  have hpos:=h.pos t htd;have hp:=Hn.aVI h hw htd;have hR:=bEL h hw hb hu t (by omega)
  have f:=hb.fit t htd;have hdm:xM=400000:=rfl;have g1:Lib.nDigits (red M p t u (p t)).natAbs≤399999:=by
   have h1:=qM (show (red M p t u (p t)).natAbs≤U t+1 from Nat.le_succ_of_le (hR (p t) hp));have h2:=nDigits_pos B;omega
  have g2:Lib.nDigits (M t (p t)).natAbs≤399999:=by
   have h1:=qM (hb.row t htd (p t) hp);have h2:=nDigits_pos (U t+1);omega
  have e0:((p t:Nat):Int).toNat=p t:=Int.toNat_natCast _;have e1:aL (p t:Int) n=true:=by rw[aR]; exact decide_eq_true (by omega)
  have e2:Nat.blt (p t) n=true:=by rw[cX]; simpa using hp
  have e3:=aCG (red M p t u (p t)) (M t (p t)) (by omega) (by omega) (show M t (p t)≠0 by omega)
  have hq1:=aT1 (hR (p t) hp) (show M t (p t)≠0 by omega)
  have e4:=bHP (n:=n) (u:=red M p t u) (v:=M t) (q:=(red M p t u (p t)).fdiv (M t (p t))) hn ⟨fun i hi=>by
    have h1:=qM hq1;have h2:=qM (hb.row t htd i hi);omega,fun i hi=>by
    have h1:=qM (show (red M p t u i).natAbs≤U t+1 from Nat.le_succ_of_le (hR i hi));omega⟩
  have e5:Nat.ble [Zn ((red M p t u (p t)).fdiv (M t (p t)))].length 1048576=true:=rfl;have e6:Nat.ble q.length 1048576=true:=by rw[gY,hq]; exact decide_eq_true (by omega)
  obtain⟨c1,⟨⟩⟩:=c;obtain⟨q',hq'⟩:=aWB h hw hn hd hb hu ((c1.1,c1.2),()) j (t+1) (by omega) (q++[Zn ((red M p t u (p t)).fdiv (M t (p t)))]) (by simp[hq])
  refine⟨q',?_⟩;rw[List.range'_succ,List.map_cons,aRE];have hs:lK (Zr n (red M p t u),q,(c1,()),()) ((p t:Int),Zr n (M t),())=some (.inl (Zr n (red M p (t+1) u),q++[Zn ((red M p t u (p t)).fdiv (M t (p t)))],((c1.1,c1.2),()),())):=by
   have e7:(Zr n fun x=>red M p t u x-(red M p t u (p t)).fdiv (M t (p t))*M t x)=Zr n (red M p (t+1) u):=rfl
   rw[e7]at e4;simp only[lK,lZ,e0,e1,e2,W5 _ hp,e3,aG,e4,e5,e6,cond_true]
  rw[hs];exact hq'
theorem bGZ {B:Nat} {U:Nat→Nat} (h:Hn d M p) (hw:∀ i,i<d→∀ x,n≤x→M i x=0) (hn:n≤12) (hd:d≤12) (hM:∀ i,i<d→∀ x,x<n→(M i x).natAbs≤1000000000) (hb:Rds d n M B U) (r:List Int) (hl:r.length=n) (hr:∀ a∈r,a.natAbs≤U 0) (hU:U 0≤1000000000) :
  ∃ q,mZ (((n:Int),Mr d n M),r,())=some (Zr n (red M p d (qP r)),q,()):=by
 have hu:∀ x,x<n→(qP r x).natAbs≤U 0:=fun x hx=>by
  unfold qP;have:r.getD x 0=r[x]'(by omega):=by simp[List.getD,show x<r.length by omega]
  rw[this];exact hr _ (List.getElem_mem _)
 have e1:=aUZ r (by omega) (fun a ha=>by have:=hr a ha; omega)
 have e2:r.map Zn=Zr n (qP r):=by rw[← hl,bEP]
 rw[e2]at e1;obtain⟨q,hq⟩:=aWB h hw (by omega) (by omega) hb hu (((n:Int),Mr d n M),()) d 0 (by omega) [] rfl
 rw[← List.range_eq_range']at hq;refine⟨q,?_⟩;have e3:=bC6 h hw (by omega) (by omega) hM
 have e4:lO (Zr n (qP r),[],(((n:Int),Mr d n M),()),())=some (Zr n (red M p d (qP r)),q,()):=by
  unfold lO bJS;simp only[xQ,e3];exact hq
 simp only[mZ,e1,aG,qS,e4]
end
end Go.PM
namespace Go.PM
open Go Go.RowKit Go.Proofs Go.Lz
set_option maxRecDepth 100000
theorem bGS {n:Nat} {v:V} (hn:n<1048576) (hz:∀ x,x<n→v x=0):iD (Zr n v,())=some (-1,()):=by
 have hl:=lZ n v;have key:=bI (step:=a8) (N:=2^64) (fun t=>(Zr n v,(),(n:Int),(t:Int),())) n (.inr ()) (by omega) (fun t ht=>?_) ?_
 ·have key:bZ a8 (2^64) (Zr n v,(),(n:Int),0,())=some (.inr ()):=key
  simp only[iD,dC,dG,hl,key,aG,lR]
 ·have e1:ltI (t:Int) (n:Int)=true:=by rw[aI]; exact decide_eq_true (by omega)
  have e2:aL (t:Int) n=true:=by rw[aR]; exact decide_eq_true (by omega)
  have e3:((t:Nat):Int).toNat=t:=Int.toNat_natCast _;have e4:eqS ((Zr n v).getD t ByteArray.empty) (ByteArray.mk #[48])=true:=by rw[W5 v (by omega),I5]; exact decide_eq_true (hz t ht)
  have e9:=cY t (by omega)
  simp only[a8,hl,e1,e2,e3,gW,e4,e9,aG,Bool.not_true,cond_true,cond_false]
 ·have e1:ltI (n:Int) (n:Int)=false:=by rw[aI]; exact decide_eq_false (by omega)
  simp only[a8,hl,e1,cond_false]
theorem bM1 {d n:Nat} {M:Nat→V} (hd:d≤12) (hM:Big d n M 1000000000):Rds d n M 1000000000 (fun t=>10^(9+10*t)):=by
 refine⟨hM,fun t ht=>?_,fun t ht=>?_⟩
 ·show 10^(9+10*t)+(10^(9+10*t)+1)*1000000000≤10^(9+10*(t+1))
  rw[show 9+10*(t+1)=(9+10*t)+10 by omega,Nat.pow_add 10 (9+10*t) 10]
  have h1:(10^10:Nat)=10000000000:=by decide
  have h2:(1:Nat)≤10^(9+10*t):=Nat.pow_pos (by decide)
  rw[h1];generalize (10^(9+10*t):Nat)=a at h2 ⊢;omega
 ·have h1:(10^(9+10*t)+1:Nat)<10^(9+10*t+1):=by
   rw[Nat.pow_succ];have:0<10^(9+10*t):=Nat.pow_pos (by decide)
   omega
  have h2:=wN h1;have h3:=wN (u:=1000000000) (k:=9) (by decide)
  have h4:xM=400000:=rfl;omega
section
variable {d n:Nat} {M:Nat→V} {p:Nat→Nat}
theorem has_eq(h:Hn d M p) (hn:n≤12) (hw:Wd d n M) (hM:Big d n M 1000000000) (r:List Int) (hl:r.length=n) (hr:∀ a∈r,a.natAbs≤1000000000) :
  ∃ b,n8 (((n:Int),Mr d n M),r,())=some (b,())∧(b=true↔Sp d M (qP r)):=by
 have hd:=(Hn.LC h hw).1;have hb:=bM1 (d:=d) (by omega) hM
 obtain⟨q,e1⟩:=bGZ h hw hn (by omega) hM hb r hl hr (by decide)
 have hsp:=bBD h (qP r) d (Nat.le_refl _);have hat:=bHF h (qP r) d (Nat.le_refl _);have hwr:∀ x,n≤x→qP r x=0:=fun x hx=>by
  unfold qP;simp[List.getD,List.getElem?_eq_none (show r.length≤x by omega)]
 have hwd:=a97 (p:=p) hw hwr d (Nat.le_refl _)
 by_cases hz:∀ x,x<n→red M p d (qP r) x=0
 ·refine⟨true,?_,⟨fun _=>?_,fun _=>rfl⟩⟩
  ·have e2:ltI (-1) 0=true:=by decide
   simp only[n8,e1,aG,bGS (by omega) hz,e2]
  ·refine cast (congrArg _ ?_) hsp
   funext x
   rcases Nat.lt_or_ge x n with hx|hx
   ·rw[hz x hx,Int.sub_zero]
   ·rw[hwd x hx,Int.sub_zero]
 ·obtain⟨x,hx1,hx2,hx3⟩:∃ x,x<n∧red M p d (qP r) x≠0∧∀ y,y<x→red M p d (qP r) y=0:=by
   obtain⟨x0,h1⟩:=Classical.not_forall.1 hz;obtain⟨h1,h2⟩:=Classical.not_imp.1 h1;have:∀ N x0,x0<N→x0<n→red M p d (qP r) x0≠0→∃ x,x<n∧red M p d (qP r) x≠0∧∀ y,y<x→red M p d (qP r) y=0:=by
    intro N
    induction N with
    | zero=>intro x0 h; omega
    | succ N ih =>
     intro x0 h0 h1 h2
     by_cases hy:∀ y,y<x0→red M p d (qP r) y=0
     ·exact⟨x0,h1,h2,hy⟩
     ·obtain⟨y,g1⟩:=Classical.not_forall.1 hy
      obtain⟨g1,g2⟩:=Classical.not_imp.1 g1;exact ih y (by omega) (by omega) g2
   exact this (x0+1) x0 (by omega) h1 h2
  refine⟨false,?_,⟨fun h=>(by cases h),fun hs=>?_⟩⟩
  ·have e2:ltI (x:Int) 0=false:=by rw[aI]; exact decide_eq_false (by omega)
   simp only[n8,e1,aG,bEI (by omega) hx1 hx3 hx2,e2]
  ·exfalso
   have h1:=Sp.sub hs hsp;have h2:Sp d M (red M p d (qP r)):=by
    refine cast (congrArg _ ?_) h1
    funext y
    omega
   have h3:=h.small h2 fun i hi=>by
    have:=hat i hi;have:=h.pos i hi;constructor <;> omega
   exact hx2 (congrFun h3 x)
end
section
variable {d n d':Nat} {A B:Nat→V} {p q:Nat→Nat}
theorem bGH(hA:Hn d A p) (hB:Hn d' B q) (hn:n≤12) (wA:Wd d n A) (wB:Wd d' n B) (bA:Big d n A 1000000000) (bB:Big d' n B 1000000000) :
  ∃ b,wO (((n:Int),Mr d n A),((n:Int),Mr d' n B),())=some (b,0,())∧(b=true↔∀ i,i<d→Sp d' B (A i)):=by
 have hd:=(Hn.LC hA wA).1;have hd':=(Hn.LC hB wB).1;have c1:=aM2 hA wA (by omega) hn bA
 have c2:=aM2 hB wB (by omega) hn bB
 have e0:eqI 0 0=true:=by decide
 have en:eqI (n:Int) (n:Int)=true:=by rw[jS]; exact decide_eq_true rfl
 have cb:nN (((n:Int),Mr d n A),((n:Int),Mr d' n B),())=some (0,()):=by
  have key:=bI (step:=mY) (N:=2^64) (fun t=>(((n:Int),Mr d n A),((n:Int),Mr d' n B),[((n:Int),Mr d n A),((n:Int),Mr d' n B)],2,(t:Int),())) 2 (.inr (((n:Int),Mr d n A),((n:Int),Mr d' n B),())) (by omega) (fun t ht=>?_) ?_
  ·have key:vY (((n:Int),Mr d n A),((n:Int),Mr d' n B),[((n:Int),Mr d n A),((n:Int),Mr d' n B)],([((n:Int),Mr d n A),((n:Int),Mr d' n B)].length:Int),0,())=_:=key
   simp only[nN,key,aG,lR,en,Bool.not_true,cond_false]
  ·have e1:ltI (t:Int) 2=true:=by rw[aI]; exact decide_eq_true (by omega)
   have e3:=cY t (by omega)
   rcases(show t=0∨t=1 by omega)with rfl|rfl
   ·have e2:aL ((0:Nat):Int) 2=true:=by decide
    simp only[mY,e1,cond_true,e3];show (bif aL ((0:Nat):Int) 2 then aC (lQ (((n:Int),Mr d n A),())) _ else none)=_;simp only[e2,cond_true,c1,aG,e0,Bool.not_true,cond_false]
   ·have e2:aL ((1:Nat):Int) 2=true:=by decide
    simp only[mY,e1,cond_true,e3];show (bif aL ((1:Nat):Int) 2 then aC (lQ (((n:Int),Mr d' n B),())) _ else none)=_;simp only[e2,cond_true,c2,aG,e0,Bool.not_true,cond_false]
  ·have e1:ltI ((2:Nat):Int) 2=false:=by decide
   simp only[mY,e1,cond_false]
 have hrow:∀ t,t<d→∃ b,qL ((Mr d n A).getD t [],((n:Int),Mr d' n B),())=some (!b,())∧(b=true↔Sp d' B (A t)):=fun t ht=>by
  rw[aVW A ht];obtain⟨b,h1,h2⟩:=has_eq hB hn wB bB (Vr n (A t)) (FX _ _) (a1E fun x hx=>bA t ht x hx)
  rw[a6X fun x hx=>wA t ht x hx]at h2
  refine⟨b,?_,h2⟩;simp only[qL,h1,aG];cases b <;> rfl
 have step:∀ t,t<d→∀ b,qL ((Mr d n A).getD t [],((n:Int),Mr d' n B),())=some (!b,())→bY (Mr d n A,(((n:Int),Mr d' n B),()),(d:Int),(t:Int),())=(bif b then some (.inl (Mr d n A,(((n:Int),Mr d' n B),()),(d:Int),((t+1:Nat):Int),())) else some (.inr (.inl ((t:Int),())))):=fun t ht b hb=>by
  have e1:ltI (t:Int) (d:Int)=true:=by rw[aI]; exact decide_eq_true (by omega)
  have e2:aL (t:Int) d=true:=by rw[aR]; exact decide_eq_true (by omega)
  have e3:((t:Nat):Int).toNat=t:=Int.toNat_natCast _;have e4:=cY t (by omega)
  simp only[bY,e1,tZ,e2,e3,hb,aG,e4,cond_true];cases b <;> rfl
 have hlen:((Mr d n A).length:Int)=(d:Int):=by rw[tZ]
 by_cases hall:∀ i,i<d→Sp d' B (A i)
 ·refine⟨true,?_,⟨fun _=>hall,fun _=>rfl⟩⟩
  have key:=bI (step:=bY) (N:=2^64) (fun t=>(Mr d n A,(((n:Int),Mr d' n B),()),(d:Int),(t:Int),())) d (.inr ()) (by omega) (fun t ht=>by
   obtain⟨b,h1,h2⟩:=hrow t ht;rw[h2.2 (hall t ht)]at h1;exact step t ht true h1) (by
   have e1:ltI (d:Int) (d:Int)=false:=by rw[aI]; exact decide_eq_false (by omega)
   simp only[bY,e1,cond_false])
  have key:dO (Mr d n A,(((n:Int),Mr d' n B),()),(d:Int),0,())=_:=key;have e2:ltI (-1) 0=true:=by decide
  simp only[wO,cb,aG,e0,Bool.not_true,cond_false,cT,dK,hlen,key,lR,e2]
 ·refine⟨false,?_,⟨fun h=>(by cases h),fun h=>absurd h hall⟩⟩
  obtain⟨x,hx1,hx2,hx3⟩:∃ x,x<d∧¬ Sp d' B (A x)∧∀ y,y<x→Sp d' B (A y):=by
   obtain⟨x0,h1⟩:=Classical.not_forall.1 hall;obtain⟨h1,h2⟩:=Classical.not_imp.1 h1;have:∀ N x0,x0<N→x0<d→¬ Sp d' B (A x0)→∃ x,x<d∧¬ Sp d' B (A x)∧∀ y,y<x→Sp d' B (A y):=by
    intro N
    induction N with
    | zero=>intro x0 h; omega
    | succ N ih =>
     intro x0 h0 h1 h2
     by_cases hy:∀ y,y<x0→Sp d' B (A y)
     ·exact⟨x0,h1,h2,hy⟩
     ·obtain⟨y,g1⟩:=Classical.not_forall.1 hy
      obtain⟨g1,g2⟩:=Classical.not_imp.1 g1;exact ih y (by omega) (by omega) g2
   exact this (x0+1) x0 (by omega) h1 h2
  have key:=bI (step:=bY) (N:=2^64) (fun t=>(Mr d n A,(((n:Int),Mr d' n B),()),(d:Int),(t:Int),())) x (.inl ((x:Int),())) (by omega) (fun t ht=>by
   obtain⟨b,h1,h2⟩:=hrow t (by omega)
   rw[h2.2 (hx3 t ht)]at h1;exact step t (by omega) true h1) (by
   obtain⟨b,h1,h2⟩:=hrow x hx1;cases b with
   | true=>exact absurd (h2.1 rfl) hx2
   | false=>exact step x hx1 false h1)
  have key:dO (Mr d n A,(((n:Int),Mr d' n B),()),(d:Int),0,())=_:=key;have e2:ltI (x:Int) 0=false:=by rw[aI]; exact decide_eq_false (by omega)
  simp only[wO,cb,aG,e0,Bool.not_true,cond_false,cT,dK,hlen,key,CW,e2,Bool.not_false,cond_true]
end
end Go.PM
namespace Go.PM
open Go Go.RowKit Go.Proofs Go.Lz
set_option maxRecDepth 100000
theorem bE7 {a b:V} {E F:Nat}:∀ {n:Nat},(∀ x,x<n→(a x).natAbs≤E)→(∀ x,x<n→(b x).natAbs≤F)→(dot n a b).natAbs≤n*(E*F)
 | 0,_,_=>by simp[dot]
 | n+1,ha,hb=>by
  have h1:=bE7 (n:=n) (fun x hx=>ha x (by omega)) (fun x hx=>hb x (by omega))
  have h2:=aYR (ha n (by omega)) (hb n (by omega))
  rw[Nat.succ_mul];show (dot n a b+a n*b n).natAbs≤_;omega
section
variable {n r:Nat} {K:Nat→V}
theorem bGQ(hn:n≤12) (hr:r≤12) (ps:List Int) (C:List (List Int)) (x:List Int) (hl:x.length=n) (hx:∀ a∈x,a.natAbs≤1000000000) (hw:Wd r n K) (hK:Big r n K 1000000000) :
  sJ ((ps,(C,Mr r n K)),x,())=some ((List.range r).map (fun i=>Zn (dot n (qP x) (K i))),()):=by
 have hxv:∀ t,t<n→(qP x t).natAbs≤1000000000:=fun t ht=>by
  unfold qP;have:x.getD t 0=x[t]'(by omega):=by simp[List.getD,show t<x.length by omega]
  rw[this];exact hx _ (List.getElem_mem _)
 have inner:∀ i,i<r→∀ (v5:List ByteArray) (v12:List (List Int)) (v13 v14:Int),pM (x,v5,Vr n (K i),ByteArray.mk #[48],v12,v13,v14,x,(x.length:Int),0,())=some (x,v5,Zn (dot n (qP x) (K i)),v12,v13,v14,()):=fun i hi v5 v12 v13 v14=>by
  have key:=bI (step:=pZ) (N:=2^64) (fun t=>(x,v5,Vr n (K i),Zn (dot t (qP x) (K i)),v12,v13,v14,x,(x.length:Int),(t:Int),())) n (x,v5,Zn (dot n (qP x) (K i)),v12,v13,v14,()) (by omega) (fun t ht=>?_) ?_
  ·have z:Zn (dot 0 (qP x) (K i))=ByteArray.mk #[48]:=by
    show Zn 0=_
    kernel_rfl
   have key:pM (x,v5,Vr n (K i),Zn (dot 0 (qP x) (K i)),v12,v13,v14,x,(x.length:Int),0,())=_:=key;rwa[z]at key
  ·have e1:ltI (t:Int) (x.length:Int)=true:=by rw[aI]; exact decide_eq_true (by omega)
   have e2:aL (t:Int) x.length=true:=by rw[aR]; exact decide_eq_true (by omega)
   have e3:((t:Nat):Int).toNat=t:=Int.toNat_natCast _;have e4:aL (t:Int) n=true:=by rw[aR]; exact decide_eq_true (by omega)
   have b1:=hxv t ht;have b2:=hK i hi t ht;have b3:=bE7 (n:=t) (a:=qP x) (b:=K i) (fun y hy=>hxv y (by omega)) (fun y hy=>hK i hi y (by omega))
   have b4:=aYR b1 b2;have e5:j3 (x.getD t 0,())=some (Zn (qP x t),()):=yN _ (by have:x.getD t 0=qP x t:=rfl; omega) (by have:x.getD t 0=qP x t:=rfl; omega)
   have e6:j3 ((Vr n (K i)).getD t 0,())=some (Zn (K i t),()):=by rw[a13 _ ht]; exact yN _ (by omega) (by omega)
   have d1:=wN (u:=(qP x t).natAbs) (k:=9) (by omega)
   have d2:=wN (u:=(K i t).natAbs) (k:=9) (by omega)
   have e7:=aQY (qP x t) (K i t) (by omega)
   have d3:=wN (u:=(dot t (qP x) (K i)).natAbs) (k:=20) (by omega)
   have d4:=wN (u:=(qP x t*K i t).natAbs) (k:=20) (by omega)
   have e8:=a18 (dot t (qP x) (K i)) (qP x t*K i t) (by omega) (by omega)
   have e9:=cY t (by omega)
   have e10:dot t (qP x) (K i)+qP x t*K i t=dot (t+1) (qP x) (K i):=rfl;simp only[pZ,e1,e2,e3,e5,aG,FX,e4,e6,e7,e8,e9,e10,cond_true]
  ·have e1:ltI (n:Int) (x.length:Int)=false:=by rw[aI]; exact decide_eq_false (by omega)
   simp only[pZ,e1,cond_false]
 have key:=bI (step:=p5) (N:=2^64) (fun t=>(x,(List.range t).map (fun i=>Zn (dot n (qP x) (K i))),Mr r n K,((Mr r n K).length:Int),(t:Int),())) r ((List.range r).map (fun i=>Zn (dot n (qP x) (K i))),()) (by omega) (fun t ht=>?_) ?_
 ·have key:uV (x,[],Mr r n K,((Mr r n K).length:Int),0,())=_:=key
  simp only[sJ,key,aG]
 ·have e1:ltI (t:Int) (r:Int)=true:=by rw[aI]; exact decide_eq_true (by omega)
  have e2:aL (t:Int) r=true:=by rw[aR]; exact decide_eq_true (by omega)
  have e3:((t:Nat):Int).toNat=t:=Int.toNat_natCast _;have e4:∀ s:ByteArray,Nat.ble [s].length 1048576=true:=fun _=>rfl
  have e5:Nat.ble ((List.range t).map (fun i=>Zn (dot n (qP x) (K i)))).length 1048576=true:=by rw[gY,List.length_map,List.length_range]; exact decide_eq_true (by omega)
  have e6:=cY t (by omega)
  have e7:(List.range (t+1)).map (fun i=>Zn (dot n (qP x) (K i)))=(List.range t).map (fun i=>Zn (dot n (qP x) (K i)))++[Zn (dot n (qP x) (K t))]:=by rw[List.range_succ,List.map_append]; rfl
  simp only[p5,tZ,e1,e2,e3,aVW K ht,inner t ht,aG,e4,e5,e6,e7,cond_true]
 ·have e1:ltI (r:Int) (r:Int)=false:=by rw[aI]; exact decide_eq_false (by omega)
  simp only[p5,tZ,e1,cond_false]
theorem bLR(l:List Int) (hl:l.length<1048576):∃ b,cK (l.map Zn,(),())=some (!b,())∧(b=true↔∀ i,i<l.length→l.getD i 0=0):=by
 have hlen:(l.map Zn).length=l.length:=List.length_map _;have step:∀ t,t<l.length→∀ c,decide (l.getD t 0=0)=c→cE (l.map Zn,(),(l.length:Int),(t:Int),())=(bif c then some (.inl (l.map Zn,(),(l.length:Int),((t+1:Nat):Int),())) else some (.inr (.inl ((t:Int),())))):=fun t ht c hc=>by
  have e1:ltI (t:Int) (l.length:Int)=true:=by rw[aI]; exact decide_eq_true (by omega)
  have e2:aL (t:Int) l.length=true:=by rw[aR]; exact decide_eq_true (by omega)
  have e3:((t:Nat):Int).toNat=t:=Int.toNat_natCast _;have e4:=cY t (by omega)
  have e5:(l.map Zn).getD t ByteArray.empty=Zn (l.getD t 0):=by simp[List.getD,ht]
  simp only[cE,e1,hlen,e2,e3,e5,oW,I5,hc,aG,e4,cond_true];cases c <;> rfl
 by_cases hz:∀ i,i<l.length→l.getD i 0=0
 ·refine⟨true,?_,⟨fun _=>hz,fun _=>rfl⟩⟩
  have key:=bI (step:=cE) (N:=2^64) (fun t=>(l.map Zn,(),(l.length:Int),(t:Int),())) l.length (.inr ()) (by omega) (fun t ht=>step t ht true (decide_eq_true (hz t ht))) (by
   have e1:ltI (l.length:Int) (l.length:Int)=false:=by rw[aI]; exact decide_eq_false (by omega)
   simp only[cE,e1,cond_false])
  have key:eL (l.map Zn,(),(l.length:Int),0,())=_:=key;have e2:ltI (-1) 0=true:=by decide
  simp only[cK,eI,hlen,key,aG,lR,e2]
 ·refine⟨false,?_,⟨fun h=>(by cases h),fun h=>absurd h hz⟩⟩
  obtain⟨x,h1,h2,h3⟩:=QG (0:Int) (a:=l) (b:=List.replicate l.length 0) (by simp) (fun e=>hz fun i hi=>by rw[e]; simp[List.getD,hi])
  have hrep:∀ i,i<l.length→(List.replicate l.length (0:Int)).getD i 0=0:=fun i hi=>by simp[List.getD,hi]
  rw[hrep x h1]at h3;have key:=bI (step:=cE) (N:=2^64) (fun t=>(l.map Zn,(),(l.length:Int),(t:Int),())) x (.inl ((x:Int),())) (by omega) (fun t ht=>step t (by omega) true (decide_eq_true (by rw[h2 t ht]; exact hrep t (by omega)))) (step x h1 false (decide_eq_false h3))
  have key:eL (l.map Zn,(),(l.length:Int),0,())=_:=key;have e2:ltI (x:Int) 0=false:=by rw[aI]; exact decide_eq_false (by omega)
  simp only[cK,eI,hlen,key,aG,CW,e2,Bool.not_false]
end
theorem a3D {ps:List Int} {n d r:Nat} {C K:Nat→V} (h:RT ps n d r C K) (x:List Int) (hl:x.length=n) (hx:∀ a∈x,a.natAbs≤1000000000) :
  ∃ b,gG ((ps,(Mr d n C,Mr r n K)),x,())=some (b,0,())∧(b=true↔Sp d C (qP x)):=by
 have n4:=h.n4;obtain⟨p,hk⟩:=h.hk;have r4:=(Hn.LC hk h.wk).1;have e0:eqI 0 0=true:=by decide
 have c1:=aRY x (by omega) hx
 have e1:eqI ((x.length:Nat):Int) ((ps.length:Nat):Int)=true:=by rw[jS]; exact decide_eq_true (by rw[hl,h.len])
 have hbeg:tW ((ps,(Mr d n C,Mr r n K)),[x],())=some (0,()):=by
  have key:=bI (step:=qY) (N:=2^64) (fun t=>((ps,(Mr d n C,Mr r n K)),[x],1,(t:Int),())) 1 (.inr ()) (by omega) (fun t ht=>?_) ?_
  ·have key:wG ((ps,(Mr d n C,Mr r n K)),[x],([x].length:Int),0,())=_:=key
   simp only[tW,h.check,aG,e0,Bool.not_true,cond_false,key,lR]
  ·obtain rfl:t=0:=by omega
   have e2:ltI ((0:Nat):Int) 1=true:=by decide
   have e3:=cY 0 (by omega)
   simp only[qY,e2,cond_true,e3];show (bif aL ((0:Nat):Int) 1 then aC (EJ (x,())) _ else none)=_;have e4:aL ((0:Nat):Int) 1=true:=by decide
   simp only[e4,cond_true,c1,aG,e0,Bool.not_true,cond_false];show (bif !(eqI ((x.length:Nat):Int) ((ps.length:Nat):Int)) then _ else _)=_;rw[e1]; rfl
  ·have e2:ltI ((1:Nat):Int) 1=false:=by decide
   simp only[qY,e2,cond_false]
 have t1:=bGQ (by omega) (by omega) ps (Mr d n C) x hl hx h.wk h.bk
 obtain⟨b,a1,a2⟩:=bLR ((List.range r).map fun i=>dot n (qP x) (K i)) (by simp; omega)
 have e5:((List.range r).map fun i=>dot n (qP x) (K i)).map Zn=(List.range r).map (fun i=>Zn (dot n (qP x) (K i))):=by rw[List.map_map]; rfl
 rw[e5]at a1;refine⟨b,?_,a2.trans ?_⟩
 ·simp only[gG,hbeg,aG,e0,Bool.not_true,cond_false,t1,a1]
  cases b <;> rfl
 ·rw[h.ker2]
  constructor
  ·intro g
   refine⟨fun c hc=>?_,fun i hi=>?_⟩
   ·unfold qP
    simp[List.getD,List.getElem?_eq_none (show x.length≤c by omega)]
   ·have:=g i (by simpa using hi)
    simpa[List.getD,hi]using this
  ·intro g i hi
   have hi:i<r:=by simpa using hi
   have:=g.2 i hi;simpa[List.getD,hi]using this
end Go.PM
namespace Go.PM
open Go Go.RowKit Go.Proofs Go.Lz
set_option maxRecDepth 100000
abbrev TT:=List Int×List (List Int)×List (List Int)
abbrev zT:TT:=([],([],[]))
theorem aXE(l:List TT) (hl:l.length<1048576) (hc:∀ i,i<l.length→dQ (l.getD i zT,())=some (0,())):xF (l,l,(l.length:Int),0,())=some (.inr (l,())):=by
 have e0:eqI 0 0=true:=by decide
 refine bI (step:=rZ) (N:=2^64) (fun t=>(l,l,(l.length:Int),(t:Int),())) l.length (.inr (l,())) (by omega) (fun t ht=>?_) ?_
 ·have e1:ltI (t:Int) (l.length:Int)=true:=by rw[aI]; exact decide_eq_true (by omega)
  have e2:aL (t:Int) l.length=true:=by rw[aR]; exact decide_eq_true (by omega)
  have e3:((t:Nat):Int).toNat=t:=Int.toNat_natCast _;have e4:=cY t (by omega)
  have e5:dQ (((l.getD t zT).1,((l.getD t zT).2.1,(l.getD t zT).2.2)),())=some (0,()):=hc t ht;simp only[rZ,e1,e2,e3,cond_true];show aC (dQ (((l.getD t zT).1,((l.getD t zT).2.1,(l.getD t zT).2.2)),())) _=_;rw[e5];simp only[aG,e0,Bool.not_true,cond_false,e4]
 ·have e1:ltI (l.length:Int) (l.length:Int)=false:=by rw[aI]; exact decide_eq_false (by omega)
  simp only[rZ,e1,cond_false]
theorem aQD(l:List TT) (hl:l.length<1048576) (hp:∀ i,i<l.length→(l.getD i zT).1.length<1048576) {t:Nat} (ht:t<l.length) {c:Bool} (hc:decide ((l.getD t zT).1=(l.getD 0 zT).1)=c) :
  lE (l,l,(l.length:Int),(t:Int),())=(bif c then some (.inl (l,l,(l.length:Int),((t+1:Nat):Int),())) else some (.inr (.inl (14,())))):=by
 have e1:ltI (t:Int) (l.length:Int)=true:=by rw[aI]; exact decide_eq_true (by omega)
 have e2:aL (t:Int) l.length=true:=by rw[aR]; exact decide_eq_true (by omega)
 have e3:((t:Nat):Int).toNat=t:=Int.toNat_natCast _;have e4:=cY t (by omega)
 have e5:aL 0 l.length=true:=by rw[aR]; exact decide_eq_true (by omega)
 have e6:=aUG (l.getD t zT).1 (l.getD 0 zT).1 (hp t ht);simp only[lE,e1,e2,e3,e5,cond_true];show aC (cH ((l.getD t zT).1,(l.getD 0 zT).1,())) _=_;rw[e6,hc];simp only[aG,e4]
theorem a5A(l:List TT) (hl:l.length<1048576) (hc:∀ i,i<l.length→dQ (l.getD i zT,())=some (0,())) (hp:∀ i,i<l.length→(l.getD i zT).1.length<1048576) (he:∀ i,i<l.length→(l.getD i zT).1=(l.getD 0 zT).1):fI (l,())=some (0,()):=by
 have key:=bI (step:=lE) (N:=2^64) (fun t=>(l,l,(l.length:Int),(t:Int),())) l.length (.inr ()) (by omega) (fun t ht=>aQD l hl hp ht (c:=true) (decide_eq_true (he t ht))) (by
  have e1:ltI (l.length:Int) (l.length:Int)=false:=by rw[aI]; exact decide_eq_false (by omega)
  simp only[lE,e1,cond_false])
 have key:r6 (l,l,(l.length:Int),0,())=_:=key;simp only[fI,aXE l hl hc,aG,lR,key]
theorem aZ6(l:List TT) (hl:l.length<1048576) (hc:∀ i,i<l.length→dQ (l.getD i zT,())=some (0,())) (hp:∀ i,i<l.length→(l.getD i zT).1.length<1048576) {x:Nat} (hx:x<l.length) (he:∀ i,i<x→(l.getD i zT).1=(l.getD 0 zT).1) (hn:(l.getD x zT).1≠(l.getD 0 zT).1):fI (l,())=some (14,()):=by
 have key:=bI (step:=lE) (N:=2^64) (fun t=>(l,l,(l.length:Int),(t:Int),())) x (.inl (14,())) (by omega) (fun t ht=>aQD l hl hp (by omega) (c:=true) (decide_eq_true (he t ht))) (aQD l hl hp hx (c:=false) (decide_eq_false hn))
 have key:r6 (l,l,(l.length:Int),0,())=_:=key;simp only[fI,aXE l hl hc,aG,lR,CW,key]
section
variable {ps ps':List Int} {n n' d r d' r':Nat} {C K C' K':Nat→V}
theorem RT.bGW (h:RT ps n d r C K):ps.length<1048576:=by have:=h.n4; have:=h.len; omega
theorem aZZ(h:RT ps n d r C K) (h':RT ps n d' r' C' K'):∃ b,l4 ((ps,(Mr d n C,Mr r n K)),(ps,(Mr d' n C',Mr r' n K')),())=some (b,0,())∧(b=true↔∀ i,i<d→Sp d' C' (C i)):=by
 obtain⟨q,hq⟩:=h.hc;obtain⟨q',hq'⟩:=h'.hc;have n4:=h.n4;obtain⟨b,h1,h2⟩:=bGH hq hq' (by omega) h.wc h'.wc h.bc h'.bc
 refine⟨b,?_,h2⟩;have e:((ps.length:Nat):Int)=(n:Int):=by rw[h.len]
 simp only[l4,iG,aG,e,h1]
theorem a7U(h:RT ps n d r C K) (h':RT ps n d' r' C' K'):∃ b,l6 ((ps,(Mr d n C,Mr r n K)),(ps,(Mr d' n C',Mr r' n K')),())=some (b,())∧(b=true↔∀ i,i<d→Sp d' C' (C i)):=by
 obtain⟨q,hq⟩:=h.hc;have n4:=h.n4;have d4:=(Hn.LC hq h.wc).1;have e0:eqI 0 0=true:=by decide
 have row:∀ t,t<d→∃ b,gG ((ps,(Mr d' n C',Mr r' n K')),Vr n (C t),())=some (b,0,())∧(b=true↔Sp d' C' (C t)):=fun t ht=>by
  obtain⟨b,h1,h2⟩:=a3D h' (Vr n (C t)) (FX _ _) (a1E fun x hx=>h.bc t ht x hx)
  rw[a6X fun x hx=>h.wc t ht x hx]at h2
  exact⟨b,h1,h2⟩
 have step:∀ t,t<d→∀ b,gG ((ps,(Mr d' n C',Mr r' n K')),Vr n (C t),())=some (b,0,())→gD ((ps,(Mr d' n C',Mr r' n K')),Mr d n C,(d:Int),(t:Int),())=(bif b then some (.inl ((ps,(Mr d' n C',Mr r' n K')),Mr d n C,(d:Int),((t+1:Nat):Int),())) else some (.inr (.inl (false,())))):=fun t ht b hb=>by
  have e1:ltI (t:Int) (d:Int)=true:=by rw[aI]; exact decide_eq_true (by omega)
  have e2:aL (t:Int) d=true:=by rw[aR]; exact decide_eq_true (by omega)
  have e3:((t:Nat):Int).toNat=t:=Int.toNat_natCast _;have e4:=cY t (by omega)
  simp only[gD,e1,tZ,e2,e3,aVW C ht,hb,aG,e0,Bool.not_true,cond_false,cond_true,e4]
 have hlen:((Mr d n C).length:Int)=(d:Int):=by rw[tZ]
 by_cases hall:∀ i,i<d→Sp d' C' (C i)
 ·refine⟨true,?_,⟨fun _=>hall,fun _=>rfl⟩⟩
  have key:=bI (step:=gD) (N:=2^64) (fun t=>((ps,(Mr d' n C',Mr r' n K')),Mr d n C,(d:Int),(t:Int),())) d (.inr ()) (by omega) (fun t ht=>by
   obtain⟨b,h1,h2⟩:=row t ht;rw[h2.2 (hall t ht)]at h1;exact step t ht true h1) (by
   have e1:ltI (d:Int) (d:Int)=false:=by rw[aI]; exact decide_eq_false (by omega)
   simp only[gD,e1,cond_false])
  have key:nQ ((ps,(Mr d' n C',Mr r' n K')),Mr d n C,(d:Int),0,())=_:=key;simp only[l6,hlen,key,aG,lR]
 ·refine⟨false,?_,⟨fun h=>(by cases h),fun h=>absurd h hall⟩⟩
  obtain⟨x,hx1,hx2,hx3⟩:∃ x,x<d∧¬ Sp d' C' (C x)∧∀ y,y<x→Sp d' C' (C y):=by
   obtain⟨x0,h1⟩:=Classical.not_forall.1 hall;obtain⟨h1,h2⟩:=Classical.not_imp.1 h1;have:∀ N x0,x0<N→x0<d→¬ Sp d' C' (C x0)→∃ x,x<d∧¬ Sp d' C' (C x)∧∀ y,y<x→Sp d' C' (C y):=by
    intro N
    induction N with
    | zero=>intro x0 h; omega
    | succ N ih =>
     intro x0 h0 h1 h2
     by_cases hy:∀ y,y<x0→Sp d' C' (C y)
     ·exact⟨x0,h1,h2,hy⟩
     ·obtain⟨y,g1⟩:=Classical.not_forall.1 hy
      obtain⟨g1,g2⟩:=Classical.not_imp.1 g1;exact ih y (by omega) (by omega) g2
   exact this (x0+1) x0 (by omega) h1 h2
  have key:=bI (step:=gD) (N:=2^64) (fun t=>((ps,(Mr d' n C',Mr r' n K')),Mr d n C,(d:Int),(t:Int),())) x (.inl (false,())) (by omega) (fun t ht=>by
   obtain⟨b,h1,h2⟩:=row t (by omega)
   rw[h2.2 (hx3 t ht)]at h1;exact step t (by omega) true h1) (by
   obtain⟨b,h1,h2⟩:=row x hx1;cases b with
   | true=>exact absurd (h2.1 rfl) hx2
   | false=>exact step x hx1 false h1)
  have key:nQ ((ps,(Mr d' n C',Mr r' n K')),Mr d n C,(d:Int),0,())=_:=key;simp only[l6,hlen,key,aG,CW]
end
end Go.PM
namespace Go.PM
open Go Go.RowKit Go.Proofs Go.Lz
set_option maxRecDepth 100000
section
variable {ps ps':List Int} {n n' d r d' r':Nat} {C K C' K':Nat→V}
theorem bCL(h:RT ps n d r C K) (h':RT ps' n' d' r' C' K'):fI ([(ps,(Mr d n C,Mr r n K)),(ps',(Mr d' n' C',Mr r' n' K'))],())=some (if ps'=ps then 0 else 14,()):=by
 have two:∀ i,i<2→i=0∨i=1:=fun i hi=>by omega
 have c:∀ i,i<2→dQ (([(ps,(Mr d n C,Mr r n K)),(ps',(Mr d' n' C',Mr r' n' K'))]:List TT).getD i zT,())=some (0,()):=fun i hi=>by
  rcases two i hi with rfl|rfl
  ·exact h.check
  ·exact h'.check
 have p:∀ i,i<2→(([(ps,(Mr d n C,Mr r n K)),(ps',(Mr d' n' C',Mr r' n' K'))]:List TT).getD i zT).1.length<1048576:=fun i hi=>by
  rcases two i hi with rfl|rfl
  ·exact h.bGW
  ·exact h'.bGW
 by_cases e:ps'=ps
 ·rw[if_pos e]
  refine a5A _ (by show 2<_; omega) c p fun i hi=>?_
  rcases two i hi with rfl|rfl
  ·rfl
  ·exact e
 ·rw[if_neg e]
  refine aZ6 _ (by show 2<_; omega) c p (x:=1) (by show 1<2; omega) (fun i hi=>?_) e
  obtain rfl:i=0:=by omega
  rfl
theorem bA2(h:RT ps n d r C K) (h':RT ps' n' d' r' C' K'):fI ([(ps,(Mr d n C,Mr r n K)),(ps',(Mr d' n' C',Mr r' n' K')),(ps,(Mr d n C,Mr r n K))],())=some (if ps'=ps then 0 else 14,()):=by
 have two:∀ i,i<3→i=0∨i=1∨i=2:=fun i hi=>by omega
 have c:∀ i,i<3→dQ (([(ps,(Mr d n C,Mr r n K)),(ps',(Mr d' n' C',Mr r' n' K')),(ps,(Mr d n C,Mr r n K))]:List TT).getD i zT,())=some (0,()):=fun i hi=>by
  rcases two i hi with rfl|rfl|rfl
  ·exact h.check
  ·exact h'.check
  ·exact h.check
 have p:∀ i,i<3→(([(ps,(Mr d n C,Mr r n K)),(ps',(Mr d' n' C',Mr r' n' K')),(ps,(Mr d n C,Mr r n K))]:List TT).getD i zT).1.length<1048576:=fun i hi=>by
  rcases two i hi with rfl|rfl|rfl
  ·exact h.bGW
  ·exact h'.bGW
  ·exact h.bGW
 by_cases e:ps'=ps
 ·rw[if_pos e]
  refine a5A _ (by show 3<_; omega) c p fun i hi=>?_
  rcases two i hi with rfl|rfl|rfl
  ·rfl
  ·exact e
  ·rfl
 ·rw[if_neg e]
  refine aZ6 _ (by show 3<_; omega) c p (x:=1) (by show 1<3; omega) (fun i hi=>?_) e
  obtain rfl:i=0:=by omega
  rfl
theorem aXD(h:RT ps n d r C K) (h':RT ps' n' d' r' C' K') (x:(Int×List (Int×Int×Int×Int)×Bool)×(Int×List (Int×Int×Int×Int)×Bool)×Bool)
  (hf:gC (x,())=some (true,())) (hm:qO (x,())=some ((ps,(Mr d n C,Mr r n K)),(ps',(Mr d' n' C',Mr r' n' K')),())):cM (x,())=some (true,()):=by
 obtain⟨⟨a1,a2,a3⟩,⟨b1,b2,b3⟩,b4⟩:=x;have c2:=bCL h h';have c3:=bA2 h h';have e0:eqI 0 0=true:=by decide
 have e14:eqI 14 0=false:=by decide
 have e6:eqI 6 0=false:=by decide
 have e66:eqI 6 6=true:=by decide
 have e1414:eqI 14 14=true:=by decide
 have eq:=aUG ps ps' h.bGW;have kn:jC (())=some (true,()):=rfl
 by_cases e:ps'=ps
 ·subst e
  have hn:n'=n:=by rw[← h.len,← h'.len]
  subst hn;rw[if_pos rfl]at c2 c3;obtain⟨b,r1,r2⟩:=aZZ h h';obtain⟨s,s1,s2⟩:=a7U h h';obtain⟨b0,t1,t2⟩:=aZZ h h;have hb0:b0=true:=t2.2 fun i hi=>Sp.mem hi
  subst hb0;have hbs:s=b:=by
   cases b with
   | true=>exact s2.2 (r2.1 rfl)
   | false=>cases s with
    | false=>rfl
    | true=>exact absurd (r2.2 (s2.1 rfl)) (by simp)
  subst hbs;have ew:∀ z:Int,eqI z z=true:=fun z=>by rw[jS]; exact decide_eq_true rfl
  simp only[decide_true]at eq;cases s with
  | true=>simp only[cM,kn,aG,cond_true,hf,hm,gJ,mO,o3,o5,c2,c3,e0,Bool.not_true,cond_false,r1,t1,eq,s1,ew]
  | false=>simp only[cM,kn,aG,cond_true,hf,hm,gJ,mO,o3,o5,c2,c3,e0,Bool.not_true,Bool.not_false,cond_false,r1,t1,eq,s1,ew,e6,e66]
 ·rw[if_neg e]at c2 c3
  rw[decide_eq_false (fun e'=>e e'.symm)]at eq
  simp only[cM,kn,aG,cond_true,hf,hm,gJ,mO,o3,o5,c2,c3,e14,Bool.not_false,Bool.not_true,cond_false,eq,e1414,e0]
end
end Go.PM
namespace Go.PM
open Go Go.RowKit Go.Proofs Go.Lz
set_option maxRecDepth 100000
def bB6(p:Int×List (Int×Int×Int×Int)×Bool):Prop:=(0≤p.1∧p.1<256)∧∀ t∈p.2.1,I8 t
theorem bJQ(p:Int×List (Int×Int×Int×Int)×Bool):qN (p,())=some (decide (p.2.1.length≤3),()):=by
 obtain⟨a,b,c⟩:=p;have:(!(ltI 3 (b.length:Int)))=decide (b.length≤3):=by
  rw[aI]
  by_cases h:b.length≤3
  ·rw[decide_eq_true h,decide_eq_false (by omega)]; rfl
  ·rw[decide_eq_false h,decide_eq_true (by omega)]; rfl
 simp only[qN,this]
theorem a9R(x:(Int×List (Int×Int×Int×Int)×Bool)×(Int×List (Int×Int×Int×Int)×Bool)×Bool) (hA:bB6 x.1) (hB:bB6 x.2.1):cM (x,())=some (true,()):=by
 obtain⟨⟨a1,a2,a3⟩,⟨b1,b2,b3⟩,al⟩:=x;have kn:jC (())=some (true,()):=rfl;have fa:=bJQ (a1,a2,a3);have fb:=bJQ (b1,b2,b3)
 by_cases ha:a2.length≤3
 ·rw[decide_eq_true ha]at fa
  by_cases hb:b2.length≤3
  ·rw[decide_eq_true hb]at fb
   have hf:gC (((a1,a2,a3),(b1,b2,b3),al),())=some (true,()):=by
    simp only[gC,fa,fb,aG,cond_true]
   obtain⟨d,r,C,K,m1,h1⟩:=a71 a1 hA.1.1 hA.1.2 a2 ha hA.2 a3;cases al with
   | true =>
    obtain⟨d',r',C',K',m2,h2⟩:=a71 a1 hA.1.1 hA.1.2 b2 hb hB.2 b3;exact aXD h1 h2 _ hf (by simp only[qO,cond_true,m1,m2,aG])
   | false =>
    obtain⟨d',r',C',K',m2,h2⟩:=a71 b1 hB.1.1 hB.1.2 b2 hb hB.2 b3;exact aXD h1 h2 _ hf (by simp only[qO,cond_false,m1,m2,aG])
  ·rw[decide_eq_false hb]at fb
   have hf:gC (((a1,a2,a3),(b1,b2,b3),al),())=some (false,()):=by
    simp only[gC,fa,fb,aG,cond_true]
   simp only[cM,kn,aG,cond_true,hf,cond_false]
 ·rw[decide_eq_false ha]at fa
  have hf:gC (((a1,a2,a3),(b1,b2,b3),al),())=some (false,()):=by
   simp only[gC,fa,aG,cond_false]
  simp only[cM,kn,aG,cond_true,hf,cond_false]
end Go.PM
namespace Go.PM
open Go Go.RowKit Go.Proofs Go.Lz
theorem wf_u8 {x:Int} (h:(Lit.int .u8 x).wf=true):0≤x∧x<256:=by
 simp only[Lit.wf,Bool.and_eq_true,decide_eq_true_eq]at h;have h1:IntKind.u8.min=0:=by decide
 have h2:IntKind.u8.max=255:=by decide
 omega
theorem wf_i8 {x:Int} (h:(Lit.int .i8 x).wf=true) : -128≤x∧x<128:=by
 simp only[Lit.wf,Bool.and_eq_true,decide_eq_true_eq]at h;have h1:IntKind.i8.min = -128:=by decide
 have h2:IntKind.i8.max=127:=by decide
 omega
theorem bJK {p:Int×List (Int×Int×Int×Int)×Bool} (h:WF (.prod (.int .u8) (.prod (.list (.prod (.int .i8) (.prod (.int .i8) (.prod (.int .i8) (.int .i8))))) .bool)) p):bB6 p:=by
 obtain⟨h1,⟨_,h2⟩,_⟩:=h;refine⟨wf_u8 h1,fun t ht i hi=>?_⟩
 obtain⟨a1,a2,a3,a4⟩:=h2 t ht;rcases(show i=0∨i=1∨i=2∨i=3 by omega)with rfl|rfl|rfl|rfl
 ·exact wf_i8 a1
 ·exact wf_i8 a2
 ·exact wf_i8 a3
 ·exact wf_i8 a4
end Go.PM
