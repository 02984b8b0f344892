/- Texts of one proof, joined (8). -/
import Derived.Lib.AtoiTie
import Derived.Lib.ParseIntBTie
import Derived.Test.YtcbgclaonahijaaGreatDoorQF7
set_option linter.unusedSimpArgs false
set_option linter.unusedVariables false
set_option linter.defProp false
set_option maxRecDepth 100000
noncomputable section
namespace Go.PM
open Go Go.RowKit Go.Proofs Tryz
set_option maxHeartbeats 4000000
abbrev yS:zb:=[(3,.own 167 .str),(9,.list TyE),(10,zd),(11,zd)]
abbrev DF:zc:=[(.exit 0,[(3,.own 167 .str)])]
def zH:zp yS DF:=λ(c,d,b,a,())=>bif ltI a b then za (aE a d.length)<|aB (pA ((d.getD a.toNat 0),())) λe=>za (Nat.ble [e.1].length 1048576)<|za (Nat.ble c.length 1048576)<|some (.inl ((c++[e.1]),d,b,(aA .i64 (a+1)),()))else some (.inr ((c,())))
def F8:zq yS DF:=aV zH (2^64)
def wJ(x:aM [.list TyE]):Option (List ByteArray):=match x with|(a,())=>bif !(ltI (a.length:Int) 0) then bif !(ltI 1048576 (a.length:Int)) then aB (F8 ((List.replicate 0 (ByteArray.empty:Ty.den .str)),a,(a.length:Int),0,())) λb=>some b.1 else none else none
def R3:Code:=bY f141
abbrev Y6:Env:=B1 [a1U]
def aD1:dN tP Y6:=aS ⟨RZ,trivial⟩
def UW:Code:=dC R3 0
def W6(id:Nat):Option cI:=bif Nat.beq id 3 then some ⟨yS,DF,F8⟩ else none
def aPG:∀ x,dL tP Y6 22 (aP f141) W6 UW yS DF x=zH x:=λ_=>Y
def aQP:cJ tP 22 UW ⟨yS,DF,F8⟩:=cC aD1.callee aQ.mixed _ (aO (l:=[]) Y trivial) aPG
def aSY:bA R3=[UW]:=Y
def aUZ:∀ x,bDW tP Y6 f141 (aP f141) W6 R3 [.list TyE] 2 167 .str x=wJ x:=λ_=>Y
def aZU:aYH tP 141 [.list TyE] 167 .str wJ:=a6M aQ aD1 func141 (c:=R3) Y (keep:=aP f141) (lt:=W6) (t:=2) Y (aO aSY ⟨cB (i:=3) Y rfl aQP,trivial⟩) aUZ
abbrev SF:Shr:=(141,bMW [.list TyE] 167 .str wJ)
def S2:sT tP SF:=aY4 aZU
abbrev qM:zb:=[(0,.hnd 1),(1,.str),(10,.hnd 1),(11,zd),(12,zd),(100000,.ar 167 .str)]
abbrev wC:zc:=[(.exit 0,[(100000,.ar 167 .str)])]
def sQ:zp qM wC:=λ(c,e,b,d,a,u00,())=>bif ltI a d then za (aE a b.2.2)<|za (Nat.blt ((b.2.1+a.toNat)*1) (dG u00 b.1))<|za (aE a c.2.2)<|za (Nat.blt ((c.2.1+a.toNat)*1) (dG u00 c.1))<|aB (ZN (e,(dZ u00 b.1 ((b.2.1+a.toNat)*1) ByteArray.empty),())) λg=>aB (aGT ((dZ u00 c.1 ((c.2.1+a.toNat)*1) ByteArray.empty),g.1,())) λf=>za (aE a c.2.2)<|za (Nat.blt ((c.2.1+a.toNat)*1) (dG u00 c.1))<|some (.inl ((c.1,c.2.1,c.2.2),e,(b.1,b.2.1,b.2.2),d,(aA .i64 (a+1)),(DQ u00 c.1 ((c.2.1+a.toNat)*1) f.1),()))else some (.inr ((u00,())))
def zA:zq qM wC:=aV sQ (2^64)
def iR(u0:Unit)(x:aM [.hnd 1,.str,.hnd 1])(A:List (List ByteArray)):Option ((aM [])×List (List ByteArray)):=match x with|(b,c,a,())=>bif eqS c (ByteArray.mk #[48]) then some ((()),A)else aB (zA ((b.1,b.2.1,b.2.2),c,(a.1,a.2.1,a.2.2),((a.2.2:Nat):Int),0,A,())) λd=>some ((()),d.1)
def IL:Code:=bY f159
abbrev RB:Env:=B1 [aOT,aWZ]
def VD:dN tP RB:=aS ⟨aK7,aVC,trivial⟩
def NL:Code:=dC IL 0
def O5(id:Nat):Option cI:=bif Nat.beq id 2 then some ⟨qM,wC,zA⟩ else none
def aGK:∀ x,dL tP RB 29 (aP f159) O5 NL qM wC x=sQ x:=λ_=>Y
def aIM:cJ tP 29 NL ⟨qM,wC,zA⟩:=cC VD.callee aQ.mixed _ (aO (l:=[]) Y trivial) aGK
def aKX:bA IL=[NL]:=Y
def aM3:∀ l x A,SQ tP RB f159 (aP f159) O5 IL 167 .str .none [.hnd 1,.str,.hnd 1] (.data []) l x A=iR l x A:=by
 rintro u0 ⟨v0,v1,v2,⟨⟩⟩ A;kernel_rfl
def aQN:Z6 tP 159 167 .str .none [.hnd 1,.str,.hnd 1] (.data []) iR:=I7 aQ VD func159 (c:=IL) Y (keep:=aP f159) (lt:=O5) (by rfl) (aO aKX ⟨cB (i:=2) Y rfl aIM,trivial⟩) aM3
abbrev aBL:Shr:=(159,aGA 0 (arH 167 .str .none [.hnd 1,.str,.hnd 1] (.data []) iR))
def aNE:sT tP aBL:=yZ (g:=159) (f:=arH 167 .str .none [.hnd 1,.str,.hnd 1] (.data []) iR) (QD aQN)
abbrev qK:zb:=[(0,.hnd 1),(1,.str),(10,.list .str),(11,zd),(12,zd),(100000,.ar 167 .str)]
abbrev vT:zc:=[(.exit 0,[(100000,.ar 167 .str)])]
def mE:zp qK vT:=λ(b,e,c,d,a,u00,())=>bif ltI a d then za (aE a c.length)<|za (aE a b.2.2)<|za (Nat.blt ((b.2.1+a.toNat)*1) (dG u00 b.1))<|aB (ZN (e,(c.getD a.toNat ByteArray.empty),())) λg=>aB (aGT ((dZ u00 b.1 ((b.2.1+a.toNat)*1) ByteArray.empty),g.1,())) λf=>za (aE a b.2.2)<|za (Nat.blt ((b.2.1+a.toNat)*1) (dG u00 b.1))<|some (.inl ((b.1,b.2.1,b.2.2),e,c,d,(aA .i64 (a+1)),(DQ u00 b.1 ((b.2.1+a.toNat)*1) f.1),()))else some (.inr ((u00,())))
def zE:zq qK vT:=aV mE (2^64)
def lM(u0:Unit)(x:aM [.hnd 1,.str,.list .str])(A:List (List ByteArray)):Option ((aM [])×List (List ByteArray)):=match x with|(a,b,c,())=>bif eqS b (ByteArray.mk #[48]) then some ((()),A)else aB (zE ((a.1,a.2.1,a.2.2),b,c,(c.length:Int),0,A,())) λd=>some ((()),d.1)
def IH:Code:=bY f159
abbrev Q6:Env:=B1 [aOT,aWZ]
def VW:dN tP Q6:=aS ⟨aK7,aVC,trivial⟩
def MS:Code:=dC IH 0
def OX(id:Nat):Option cI:=bif Nat.beq id 2 then some ⟨qK,vT,zE⟩ else none
def aG2:∀ x,dL tP Q6 29 (aP f159) OX MS qK vT x=mE x:=λ_=>Y
def aIW:cJ tP 29 MS ⟨qK,vT,zE⟩:=cC VW.callee aQ.mixed _ (aO (l:=[]) Y trivial) aG2
def aK3:bA IH=[MS]:=Y
def aNT:∀ l x A,SQ tP Q6 f159 (aP f159) OX IH 167 .str .none [.hnd 1,.str,.list .str] (.data []) l x A=lM l x A:=by
 rintro u0 ⟨v0,v1,v2,⟨⟩⟩ A;kernel_rfl
def aQT:Z6 tP 159 167 .str .none [.hnd 1,.str,.list .str] (.data []) lM:=I7 aQ VW func159 (c:=IH) Y (keep:=aP f159) (lt:=OX) (by rfl) (aO aK3 ⟨cB (i:=2) Y rfl aIW,trivial⟩) aNT
def aPD:bDJ tP 159 167 .str [.str,.list .str] (aBW lM):=aTT aQT (by rfl) (by rfl)
abbrev YM:Shr:=(159,aGA 1 (bND 167 .str [.str,.list .str] (aBW lM)))
def aL2:sT tP YM:=yZ (a5X aPD)
abbrev mA:zb:=[(0,.hnd 1),(4,.hnd 1),(5,zd),(6,zd),(100000,.ar 167 .str)]
abbrev sG:zc:=[(.exit 0,[(100000,.ar 167 .str)])]
def pY:zp mA sG:=λ(a,c,d,b,u00,())=>bif ltI b d then za (aE b c.2.2)<|za (Nat.blt ((c.2.1+b.toNat)*1) (dG u00 c.1))<|aB (aGM ((dZ u00 c.1 ((c.2.1+b.toNat)*1) ByteArray.empty),())) λe=>za (aE b a.2.2)<|za (Nat.blt ((a.2.1+b.toNat)*1) (dG u00 a.1))<|some (.inl ((a.1,a.2.1,a.2.2),(c.1,c.2.1,c.2.2),d,(aA .i64 (b+1)),(DQ u00 a.1 ((a.2.1+b.toNat)*1) e.1),()))else some (.inr ((u00,())))
def wW:zq mA sG:=aV pY (2^64)
def fH(u0:Unit)(x:aM [.hnd 1])(A:List (List ByteArray)):Option ((aM [])×List (List ByteArray)):=match x with|(a,())=>aB (wW ((a.1,a.2.1,a.2.2),(a.1,a.2.1,a.2.2),((a.2.2:Nat):Int),0,A,())) λb=>some ((()),b.1)
def DX:Code:=bY f183
abbrev NS:Env:=B1 [a8N]
def SY:dN tP NS:=aS ⟨aVH,trivial⟩
def JL:Code:=dC DX 0
def K1(id:Nat):Option cI:=bif Nat.beq id 1 then some ⟨mA,sG,wW⟩ else none
def aCW:∀ x,dL tP NS 17 (aP f183) K1 JL mA sG x=pY x:=λ_=>Y
def aFB:cJ tP 17 JL ⟨mA,sG,wW⟩:=cC SY.callee aQ.mixed _ (aO (l:=[]) Y trivial) aCW
def aGC:bA DX=[JL]:=Y
def aI1:∀ l x A,SQ tP NS f183 (aP f183) K1 DX 167 .str .none [.hnd 1] (.data []) l x A=fH l x A:=by
 rintro u0 ⟨v0,⟨⟩⟩ A;kernel_rfl
def aMP:Z6 tP 183 167 .str .none [.hnd 1] (.data []) fH:=I7 aQ SY func183 (c:=DX) Y (keep:=aP f183) (lt:=K1) (by rfl) (aO aGC ⟨cB (i:=1) Y rfl aFB,trivial⟩) aI1
abbrev WT:Shr:=(183,aGA 0 (arH 167 .str .none [.hnd 1] (.data []) fH))
def aJC:sT tP WT:=yZ (g:=183) (f:=arH 167 .str .none [.hnd 1] (.data []) fH) (QD aMP)
def vM:zo [.str] [.bool]:=λ(a,())=>some (!(eqS a (ByteArray.mk #[48])),())
abbrev aA9:Ent:=⟨204,_,_,vM⟩
def VU:Ent.OK tP aA9:=oI (aS oW) func204
abbrev mK:zb:=[(0,.list .str),(1,.fn 204),(7,zd),(8,zd)]
abbrev xQ:zc:=[(.ret,[(4,zd)]),(.exit 0,[])]
def dI:zp mK xQ:=λ(b,e,c,a,())=>bif ltI a c then za (aE a b.length)<|aB (vM ((b.getD a.toNat ByteArray.empty),())) λd=>bif d.1 then some (.inr (.inl (a,())))else some (.inl (b,(),c,(aA .i64 (a+1)),()))else some (.inr (.inr ((()))))
def kY:zq mK xQ:=aV dI (2^64)
def qD:zo [.list .str,.fn 204] [zd]:=λ(a,e,())=>aB (kY (a,(),(a.length:Int),0,())) λb=>mN b (λc=>some (c.1,())) λd=>some ((-1),())
abbrev PX:Ent:=⟨203,_,_,qD⟩
def MT:Ent.OK tP PX:=oU (aS (oV VU oW)) func203 2 (lp:=kY) rfl
def EU:zo [.list .str] [zd]:=λ(a,())=>aB (qD (a,(),())) λb=>some (b.1,())
abbrev aGU:Ent:=⟨151,_,_,EU⟩
def aQS:Ent.OK tP aGU:=oI (aS (oV MT oW)) func151
abbrev NM:zb:=[(4,.own 3 TyE),(12,.list .str),(13,zd),(14,zd)]
abbrev XG:zc:=[(.ret,[(2,.list TyE),(3,zd)]),(.exit 0,[(4,.own 3 TyE)])]
def uP:zp NM XG:=λ(e,b,c,a,())=>bif ltI a c then za (aE a b.length)<|aB (IF ((b.getD a.toNat ByteArray.empty),())) λd=>bif d.2.1 then bif ltI 1000000000 d.1 then some (.inr (.inl ([],4,())))else bif ltI d.1 (-1000000000) then some (.inr (.inl ([],4,())))else za (Nat.ble [d.1].length 1048576)<|za (Nat.ble e.length 1048576)<|some (.inl ((e++[d.1]),b,c,(aA .i64 (a+1)),()))else some (.inr (.inl ([],4,())))else some (.inr (.inr ((e,()))))
def JT:zq NM XG:=aV uP (2^64)
def KF:zo [.list .str] [.list TyE,zd]:=λ(a,())=>za (!(ltI (a.length:Int) 0))<|za (!(ltI 1048576 (a.length:Int)))<|aB (JT ((List.replicate 0 (0:Ty.den TyE)),a,(a.length:Int),0,())) λd=>mN d (λb=>some (b.1,b.2.1,())) λc=>some (c.1,0,())
abbrev aUB:Ent:=⟨123,_,_,KF⟩
def aO0:Ent.OK tP aUB:=oU (aS (oV aDL oW)) func123 3 (lp:=JT) rfl
abbrev cS:zb:=[(0,.hnd 1),(1,.fn 204),(7,zd),(8,zd),(100000,.ar 167 .str)]
abbrev dQ:zc:=[(.ret,[(4,zd),(100000,.ar 167 .str)]),(.exit 0,[(100000,.ar 167 .str)])]
def bW:zp cS dQ:=λ(a,e,c,b,u00,())=>bif ltI b c then za (aE b a.2.2)<|za (Nat.blt ((a.2.1+b.toNat)*1) (dG u00 a.1))<|aB (vM ((dZ u00 a.1 ((a.2.1+b.toNat)*1) ByteArray.empty),())) λd=>bif d.1 then some (.inr (.inl (b,u00,())))else some (.inl ((a.1,a.2.1,a.2.2),(),c,(aA .i64 (b+1)),u00,()))else some (.inr (.inr ((u00,()))))
def dF:zq cS dQ:=aV bW (2^64)
def cE(u0:Unit)(x:aM [.hnd 1,.fn 204])(A:List (List ByteArray)):Option ((aM [zd])×List (List ByteArray)):=match x with|(a,e,())=>aB (dF ((a.1,a.2.1,a.2.2),(),((a.2.2:Nat):Int),0,A,())) λc=>mN c (λb=>some ((b.1,()),b.2.1)) λd=>some (((-1),()),d.1)
def gK:Code:=bY f203
abbrev pM:Env:=B1 [aA9]
def xC:dN tP pM:=aS ⟨VU,trivial⟩
def mM:Code:=dC gK 0
def mZ(id:Nat):Option cI:=bif Nat.beq id 2 then some ⟨cS,dQ,dF⟩ else none
def JY:∀ x,dL tP pM 19 (aP f203) mZ mM cS dQ x=bW x:=λ_=>Y
def J9:cJ tP 19 mM ⟨cS,dQ,dF⟩:=cC xC.callee aQ.mixed _ (aO (l:=[]) Y trivial) JY
def LW:bA gK=[mM]:=Y
def L8:∀ l x A,SQ tP pM f203 (aP f203) mZ gK 167 .str .none [.hnd 1,.fn 204] (.data [.int .i64]) l x A=cE l x A:=by
 rintro u0 ⟨v0,v1,⟨⟩⟩ A;kernel_rfl
def OA:Z6 tP 203 167 .str .none [.hnd 1,.fn 204] (.data [.int .i64]) cE:=I7 aQ xC func203 (c:=gK) Y (keep:=aP f203) (lt:=mZ) (by rfl) (aO LW ⟨cB (i:=2) Y rfl J9,trivial⟩) L8
abbrev zT:Shr:=(203,aGA 0 (arH 167 .str .none [.hnd 1,.fn 204] (.data [.int .i64]) cE))
def MA:sT tP zT:=yZ (g:=203) (f:=arH 167 .str .none [.hnd 1,.fn 204] (.data [.int .i64]) cE) (QD OA)
def lP(u0:Unit) (x:aM [.hnd 1]) (A:List (List ByteArray)):Option ((aM [zd])×List (List ByteArray)):=match x with|(a,())=>aB (cE () ((a.1,a.2.1,a.2.2),(),()) A) λb=>some ((b.1.1,()),b.2)
def P6:Code:=bY f151
abbrev aCE:Env:=RP [] [zT]
def aME:dN tP aCE:=jH trivial ⟨MA,trivial⟩
def Y2(id:Nat):Option cI:=none
def aKT:bA P6=[]:=Y
def aNC:∀ l x A,SQ tP aCE f151 (aP f151) Y2 P6 167 .str .none [.hnd 1] (.data [.int .i64]) l x A=lP l x A:=by
 rintro u0 ⟨v0,⟨⟩⟩ A;kernel_rfl
def aQK:Z6 tP 151 167 .str .none [.hnd 1] (.data [.int .i64]) lP:=I7 aQ aME func151 (c:=P6) Y (keep:=aP f151) (lt:=Y2) (by rfl) (aO aKT trivial) aNC
abbrev aBC:Shr:=(151,aGA 0 (arH 167 .str .none [.hnd 1] (.data [.int .i64]) lP))
def aNQ:sT tP aBC:=yZ (g:=151) (f:=arH 167 .str .none [.hnd 1] (.data [.int .i64]) lP) (QD aQK)
abbrev nY:zb:=[(4,.own 3 TyE),(12,.hnd 1),(13,zd),(14,zd),(100000,.ar 167 .str)]
abbrev tZ:zc:=[(.ret,[(2,.list TyE),(3,zd),(100000,.ar 167 .str)]),(.exit 0,[(4,.own 3 TyE),(100000,.ar 167 .str)])]
def j9:zp nY tZ:=λ(e,a,c,b,u00,())=>bif ltI b c then za (aE b a.2.2)<|za (Nat.blt ((a.2.1+b.toNat)*1) (dG u00 a.1))<|aB (IF ((dZ u00 a.1 ((a.2.1+b.toNat)*1) ByteArray.empty),())) λd=>bif d.2.1 then bif ltI 1000000000 d.1 then some (.inr (.inl ([],4,u00,())))else bif ltI d.1 (-1000000000) then some (.inr (.inl ([],4,u00,())))else za (Nat.ble [d.1].length 1048576)<|za (Nat.ble e.length 1048576)<|some (.inl ((e++[d.1]),(a.1,a.2.1,a.2.2),c,(aA .i64 (b+1)),u00,()))else some (.inr (.inl ([],4,u00,())))else some (.inr (.inr ((e,u00,()))))
def yB:zq nY tZ:=aV j9 (2^64)
def pL(u0:Unit)(x:aM [.hnd 1])(A:List (List ByteArray)):Option ((aM [.list TyE,zd])×List (List ByteArray)):=match x with|(a,())=>bif !(ltI ((a.2.2:Nat):Int) 0) then bif !(ltI 1048576 ((a.2.2:Nat):Int)) then aB (yB ((List.replicate 0 (0:Ty.den TyE)),(a.1,a.2.1,a.2.2),((a.2.2:Nat):Int),0,A,())) λd=>mN d (λb=>some ((b.1,b.2.1,()),b.2.2.1)) λc=>some ((c.1,0,()),c.2.1) else none else none
def GA:Code:=bY f123
abbrev PD:Env:=B1 [a0J]
def TQ:dN tP PD:=aS ⟨aDL,trivial⟩
def K8:Code:=dC GA 0
def MR(id:Nat):Option cI:=bif Nat.beq id 3 then some ⟨nY,tZ,yB⟩ else none
def aEU:∀ x,dL tP PD 39 (aP f123) MR K8 nY tZ x=j9 x:=λ_=>Y
def aIE:cJ tP 39 K8 ⟨nY,tZ,yB⟩:=cC TQ.callee aQ.mixed _ (aO (l:=[]) Y trivial) aEU
def aIO:bA GA=[K8]:=Y
def aLB:∀ l x A,SQ tP PD f123 (aP f123) MR GA 167 .str .none [.hnd 1] (.data [.list TyE,.int .i64]) l x A=pL l x A:=by
 rintro u0 ⟨v0,⟨⟩⟩ A;kernel_rfl
def aN4:Z6 tP 123 167 .str .none [.hnd 1] (.data [.list TyE,.int .i64]) pL:=I7 aQ TQ func123 (c:=GA) Y (keep:=aP f123) (lt:=MR) (by rfl) (aO aIO ⟨cB (i:=3) Y rfl aIE,trivial⟩) aLB
abbrev YS:Shr:=(123,aGA 0 (arH 167 .str .none [.hnd 1] (.data [.list TyE,.int .i64]) pL))
def aL6:sT tP YS:=yZ (g:=123) (f:=arH 167 .str .none [.hnd 1] (.data [.list TyE,.int .i64]) pL) (QD aN4)
abbrev r7:zb:=[(3,.own 183 (.hnd 1)),(6,.list TyD),(7,zd),(8,zd),(100000,.ar 167 .str)]
abbrev yE:zc:=[(.exit 0,[(3,.own 183 (.hnd 1)),(100000,.ar 167 .str)])]
def n9:zp r7 yE:=λ(b,d,e,a,u00,())=>bif ltI a e then za (aE a d.length)<|aB (wJ ((d.getD a.toNat []),())) λc=>za (Nat.ble [(u00.length,0,c.length)].length 1048576)<|za (Nat.ble b.length 1048576)<|some (.inl ((b++[(u00.length,0,c.length)]),d,e,(aA .i64 (a+1)),(u00++[c]),()))else some (.inr ((b,u00,())))
def A8:zq r7 yE:=aV n9 (2^64)
def gV(u0:Unit)(x:aM [.list TyD])(A:List (List ByteArray)):Option ((List (Nat×Nat×Nat))×List (List ByteArray)):=match x with|(a,())=>aB (A8 ([],a,(a.length:Int),0,A,())) λb=>some (b.1,b.2.1)
def KI:Code:=bY f94
abbrev S0:Env:=RP [] [SF]
def XT:dN tP S0:=jH trivial ⟨S2,trivial⟩
def OU:Code:=dC KI 0
def RC(id:Nat):Option cI:=bif Nat.beq id 3 then some ⟨r7,yE,A8⟩ else none
def aJE:∀ x,dL tP S0 19 (aP f94) RC OU r7 yE x=n9 x:=λ_=>Y
def aK2:cJ tP 19 OU ⟨r7,yE,A8⟩:=cC XT.callee aQ.mixed _ (aO (l:=[]) Y trivial) aJE
def aMG:bA KI=[OU]:=Y
def aPL:∀ l x A,SQ tP S0 f94 (aP f94) RC KI 167 .str .none [.list TyD] (.own 183 (.hnd 1)) l x A=gV l x A:=by
 rintro u0 ⟨v0,⟨⟩⟩ A;kernel_rfl
def aRR:Z6 tP 94 167 .str .none [.list TyD] (.own 183 (.hnd 1)) gV:=I7 aQ XT func94 (c:=KI) Y (keep:=aP f94) (lt:=RC) (by rfl) (aO aMG ⟨cB (i:=3) Y rfl aK2,trivial⟩) aPL
abbrev KH:Shr:=(94,aGA 0 (arH 167 .str .none [.list TyD] (.own 183 (.hnd 1)) gV))
def NR:sT tP KH:=yZ (g:=94) (f:=arH 167 .str .none [.list TyD] (.own 183 (.hnd 1)) gV) (QD aRR)
abbrev j8:zb:=[(0,.own 183 (.hnd 1)),(1,zd),(5,zd),(6,zd),(7,zd),(8,zd),(100000,.ar 167 .str)]
abbrev rF:zc:=[(.exit 4,[(0,.own 183 (.hnd 1)),(1,zd),(5,zd),(6,zd),(7,zd),(100000,.ar 167 .str)])]
def dX:zp j8 rF:=λ(a,f,e,c,d,b,u00,())=>bif ltI b (a.length:Int) then za (aE b a.length)<|za (Nat.blt b.toNat a.length)<|za (aE c ((a.getD b.toNat (0,0,0)).2.2))<|za (Nat.blt (((a.getD b.toNat (0,0,0)).2.1+c.toNat)*1) (dG u00 ((a.getD b.toNat (0,0,0)).1)))<|bif !(eqS (dZ u00 ((a.getD b.toNat (0,0,0)).1) (((a.getD b.toNat (0,0,0)).2.1+c.toNat)*1) ByteArray.empty) (ByteArray.mk #[48])) then bif ltI d 0 then some (.inl (a,f,e,c,b,(aA .i64 (b+1)),u00,()))else za (aE b a.length)<|za (Nat.blt b.toNat a.length)<|za (aE c ((a.getD b.toNat (0,0,0)).2.2))<|za (Nat.blt (((a.getD b.toNat (0,0,0)).2.1+c.toNat)*1) (dG u00 ((a.getD b.toNat (0,0,0)).1)))<|aB (aII ((dZ u00 ((a.getD b.toNat (0,0,0)).1) (((a.getD b.toNat (0,0,0)).2.1+c.toNat)*1) ByteArray.empty),())) λi=>za (aE d a.length)<|za (Nat.blt d.toNat a.length)<|za (aE c ((a.getD d.toNat (0,0,0)).2.2))<|za (Nat.blt (((a.getD d.toNat (0,0,0)).2.1+c.toNat)*1) (dG u00 ((a.getD d.toNat (0,0,0)).1)))<|aB (aII ((dZ u00 ((a.getD d.toNat (0,0,0)).1) (((a.getD d.toNat (0,0,0)).2.1+c.toNat)*1) ByteArray.empty),())) λg=>aB (WM (i.1,g.1,())) λh=>bif ltI h.1 0 then some (.inl (a,f,e,c,b,(aA .i64 (b+1)),u00,()))else some (.inl (a,f,e,c,d,(aA .i64 (b+1)),u00,()))else some (.inl (a,f,e,c,d,(aA .i64 (b+1)),u00,()))else some (.inr ((a,f,e,c,d,u00,())))
def nF:zq j8 rF:=aV dX (2^64)
abbrev kT:zb:=[(0,.own 183 (.hnd 1)),(1,zd),(5,zd),(6,zd),(9,.bool),(10,zd),(100000,.ar 167 .str)]
abbrev rB:zc:=[(.exit 6,[(0,.own 183 (.hnd 1)),(1,zd),(5,zd),(6,zd),(9,.bool),(100000,.ar 167 .str)])]
def eT:zp kT rB:=λ(b,g,c,d,h,a,u00,())=>bif ltI a (b.length:Int) then za (aE a b.length)<|za (Nat.blt a.toNat b.length)<|za (aE d ((b.getD a.toNat (0,0,0)).2.2))<|za (Nat.blt (((b.getD a.toNat (0,0,0)).2.1+d.toNat)*1) (dG u00 ((b.getD a.toNat (0,0,0)).1)))<|za (aE c b.length)<|za (Nat.blt c.toNat b.length)<|za (aE d ((b.getD c.toNat (0,0,0)).2.2))<|za (Nat.blt (((b.getD c.toNat (0,0,0)).2.1+d.toNat)*1) (dG u00 ((b.getD c.toNat (0,0,0)).1)))<|aB (OP ((dZ u00 ((b.getD a.toNat (0,0,0)).1) (((b.getD a.toNat (0,0,0)).2.1+d.toNat)*1) ByteArray.empty),(dZ u00 ((b.getD c.toNat (0,0,0)).1) (((b.getD c.toNat (0,0,0)).2.1+d.toNat)*1) ByteArray.empty),())) λe=>za (aE a b.length)<|za (Nat.blt a.toNat b.length)<|za (aE c b.length)<|za (Nat.blt c.toNat b.length)<|aB (iR () (((b.getD a.toNat (0,0,0)).1,(b.getD a.toNat (0,0,0)).2.1,(b.getD a.toNat (0,0,0)).2.2),e.1,((b.getD c.toNat (0,0,0)).1,(b.getD c.toNat (0,0,0)).2.1,(b.getD c.toNat (0,0,0)).2.2),()) u00) λf=>bif h then some (.inl (b,g,c,d,true,(aA .i64 (a+1)),f.2,()))else some (.inl (b,g,c,d,!(eqS e.2.1 (ByteArray.mk #[48])),(aA .i64 (a+1)),f.2,()))else some (.inr ((b,g,c,d,h,u00,())))
def uS:zq kT rB:=aV eT (2^64)
abbrev j7:zb:=[(0,.own 183 (.hnd 1)),(1,zd),(5,zd),(6,zd),(142,zd),(143,zd),(100000,.ar 167 .str)]
abbrev qT:zc:=[(.exit 8,[(0,.own 183 (.hnd 1)),(1,zd),(5,zd),(6,zd),(100000,.ar 167 .str)])]
def mQ:zp j7 qT:=λ(b,h,c,d,e,a,u00,())=>bif ltI a e then za (aE a b.length)<|za (Nat.blt a.toNat b.length)<|za (aE d ((b.getD a.toNat (0,0,0)).2.2))<|za (Nat.blt (((b.getD a.toNat (0,0,0)).2.1+d.toNat)*1) (dG u00 ((b.getD a.toNat (0,0,0)).1)))<|za (aE c b.length)<|za (Nat.blt c.toNat b.length)<|za (aE d ((b.getD c.toNat (0,0,0)).2.2))<|za (Nat.blt (((b.getD c.toNat (0,0,0)).2.1+d.toNat)*1) (dG u00 ((b.getD c.toNat (0,0,0)).1)))<|aB (OP ((dZ u00 ((b.getD a.toNat (0,0,0)).1) (((b.getD a.toNat (0,0,0)).2.1+d.toNat)*1) ByteArray.empty),(dZ u00 ((b.getD c.toNat (0,0,0)).1) (((b.getD c.toNat (0,0,0)).2.1+d.toNat)*1) ByteArray.empty),())) λf=>za (aE a b.length)<|za (Nat.blt a.toNat b.length)<|za (aE c b.length)<|za (Nat.blt c.toNat b.length)<|aB (iR () (((b.getD a.toNat (0,0,0)).1,(b.getD a.toNat (0,0,0)).2.1,(b.getD a.toNat (0,0,0)).2.2),f.1,((b.getD c.toNat (0,0,0)).1,(b.getD c.toNat (0,0,0)).2.1,(b.getD c.toNat (0,0,0)).2.2),()) u00) λg=>some (.inl (b,h,c,d,e,(aA .i64 (a+1)),g.2,()))else some (.inr ((b,h,c,d,u00,())))
def dW:zq j7 qT:=aV mQ (2^64)
abbrev kB:zb:=[(0,.own 183 (.hnd 1)),(1,zd),(5,zd),(6,zd),(100000,.ar 167 .str)]
abbrev rI:zc:=[(.exit 2,[(0,.own 183 (.hnd 1)),(1,zd),(5,zd),(6,zd),(100000,.ar 167 .str)])]
def dY:zp kB rI:=λ(h,i,g,j,u00,())=>aB (nF (h,i,g,j,(-1),g,u00,())) λa=>bif ltI a.2.2.2.2.1 0 then some (.inr ((a.1,a.2.1,a.2.2.1,a.2.2.2.1,a.2.2.2.2.2.1,())))else za (aE a.2.2.2.2.1 a.1.length)<|za (Nat.blt a.2.2.2.2.1.toNat a.1.length)<|za (aE a.2.2.1 a.1.length)<|za (Nat.blt a.2.2.1.toNat a.1.length)<|za (aE a.2.2.1 a.1.length)<|za (Nat.blt a.2.2.1.toNat a.1.length)<|za (aE a.2.2.2.2.1 (a.1.set a.2.2.1.toNat ((a.1.getD a.2.2.2.2.1.toNat (0,0,0)).1,(a.1.getD a.2.2.2.2.1.toNat (0,0,0)).2.1,(a.1.getD a.2.2.2.2.1.toNat (0,0,0)).2.2)).length)<|za (Nat.blt a.2.2.2.2.1.toNat (a.1.set a.2.2.1.toNat ((a.1.getD a.2.2.2.2.1.toNat (0,0,0)).1,(a.1.getD a.2.2.2.2.1.toNat (0,0,0)).2.1,(a.1.getD a.2.2.2.2.1.toNat (0,0,0)).2.2)).length)<|aB (uS (((a.1.set a.2.2.1.toNat ((a.1.getD a.2.2.2.2.1.toNat (0,0,0)).1,(a.1.getD a.2.2.2.2.1.toNat (0,0,0)).2.1,(a.1.getD a.2.2.2.2.1.toNat (0,0,0)).2.2)).set a.2.2.2.2.1.toNat ((a.1.getD a.2.2.1.toNat (0,0,0)).1,(a.1.getD a.2.2.1.toNat (0,0,0)).2.1,(a.1.getD a.2.2.1.toNat (0,0,0)).2.2)),a.2.1,a.2.2.1,a.2.2.2.1,false,(aA .i64 (a.2.2.1+1)),a.2.2.2.2.2.1,())) λb=>bif b.2.2.2.2.1 then some (.inl (b.1,b.2.1,b.2.2.1,b.2.2.2.1,b.2.2.2.2.2.1,()))else za (aE b.2.2.1 b.1.length)<|za (Nat.blt b.2.2.1.toNat b.1.length)<|za (aE b.2.2.2.1 ((b.1.getD b.2.2.1.toNat (0,0,0)).2.2))<|za (Nat.blt (((b.1.getD b.2.2.1.toNat (0,0,0)).2.1+b.2.2.2.1.toNat)*1) (dG b.2.2.2.2.2.1 ((b.1.getD b.2.2.1.toNat (0,0,0)).1)))<|aB (RQ ((dZ b.2.2.2.2.2.1 ((b.1.getD b.2.2.1.toNat (0,0,0)).1) (((b.1.getD b.2.2.1.toNat (0,0,0)).2.1+b.2.2.2.1.toNat)*1) ByteArray.empty),())) λe=>bif ltI e.1 0 then za (aE b.2.2.1 b.1.length)<|za (Nat.blt b.2.2.1.toNat b.1.length)<|aB (fH () (((b.1.getD b.2.2.1.toNat (0,0,0)).1,(b.1.getD b.2.2.1.toNat (0,0,0)).2.1,(b.1.getD b.2.2.1.toNat (0,0,0)).2.2),()) b.2.2.2.2.2.1) λf=>aB (dW (b.1,b.2.1,b.2.2.1,b.2.2.2.1,b.2.2.1,0,f.2,())) λc=>some (.inr ((c.1,c.2.1,(aA .i64 (c.2.2.1+1)),c.2.2.2.1,c.2.2.2.2.1,())))else aB (dW (b.1,b.2.1,b.2.2.1,b.2.2.2.1,b.2.2.1,0,b.2.2.2.2.2.1,())) λd=>some (.inr ((d.1,d.2.1,(aA .i64 (d.2.2.1+1)),d.2.2.2.1,d.2.2.2.2.1,())))
def mO:zq kB rI:=aV dY (2^64)
abbrev kI:zb:=[(0,.own 183 (.hnd 1)),(1,zd),(5,zd),(6,zd),(100000,.ar 167 .str)]
abbrev rJ:zc:=[(.exit 0,[(0,.own 183 (.hnd 1)),(5,zd),(100000,.ar 167 .str)])]
def eU:zp kI rJ:=λ(b,d,c,e,u00,())=>bif ltI e d then bif ltI c (b.length:Int) then aB (mO (b,d,c,e,u00,())) λa=>some (.inl (a.1,a.2.1,a.2.2.1,(aA .i64 (a.2.2.2.1+1)),a.2.2.2.2.1,()))else some (.inr ((b,c,u00,())))else some (.inr ((b,c,u00,())))
def uT:zq kI rJ:=aV eU (2^64)
def eQ(b:List (Nat×Nat×Nat))(x:aM [zd])(A:List (List ByteArray)):Option ((List (Nat×Nat×Nat))×List (List ByteArray)):=match x with|(c,())=>aB (uT (b,c,0,0,A,())) λa=>bif Nat.beq a.1.length 0 then bif !(ltI a.2.1 0) then bif Nat.beq a.2.1.toNat 0 then some (a.1,a.2.2.1) else none else none else bif !(ltI a.2.1 0) then bif Nat.ble 0 a.2.1.toNat then bif Nat.ble a.2.1.toNat a.1.length then bif Nat.blt 0 a.1.length then some (a.1.take (a.2.1.toNat-0),a.2.2.1) else none else none else none else none
def CH:Code:=bY f143
abbrev kF:Env:=RP [a8G,aRK,aKV,a4T] [aBL,WT]
def k9:dN tP kF:=jH ⟨bA8,aZ8,aNN,aSA,trivial⟩ ⟨aNE,aJC,trivial⟩
def sD:Code:=dC CH 0
def hX:Code:=dC sD 0
def HF:Code:=dC hX 0
def HJ:Code:=dC hX 1
def GZ:Code:=dC hX 2
def iT(id:Nat):Option cI:=bif Nat.beq id 7 then some ⟨j8,rF,nF⟩ else bif Nat.beq id 15 then some ⟨kT,rB,uS⟩ else bif Nat.beq id 24 then some ⟨j7,qT,dW⟩ else bif Nat.beq id 5 then some ⟨kB,rI,mO⟩ else bif Nat.beq id 3 then some ⟨kI,rJ,uT⟩ else none
def aA4:∀ x,dL tP kF 181 (aP f143) iT HF j8 rF x=dX x:=λ_=>Y
def aDE:cJ tP 181 HF ⟨j8,rF,nF⟩:=cC k9.callee aQ.mixed _ (aO (l:=[]) Y trivial) aA4
def aBJ:∀ x,dL tP kF 181 (aP f143) iT HJ kT rB x=eT x:=λ_=>Y
def aCU:cJ tP 181 HJ ⟨kT,rB,uS⟩:=cC k9.callee aQ.mixed _ (aO (l:=[]) Y trivial) aBJ
def aBZ:∀ x,dL tP kF 181 (aP f143) iT GZ j7 qT x=mQ x:=λ_=>Y
def aDT:cJ tP 181 GZ ⟨j7,qT,dW⟩:=cC k9.callee aQ.mixed _ (aO (l:=[]) Y trivial) aBZ
def aBU:∀ x,dL tP kF 181 (aP f143) iT hX kB rI x=dY x:=λ_=>Y
def aHS:bA hX=[HF,HJ,GZ]:=Y
def aCR:cJ tP 181 hX ⟨kB,rI,mO⟩:=cC k9.callee aQ.mixed _ (aO aHS ⟨cB (i:=7) Y rfl aDE,cB (i:=15) Y rfl aCU,cB (i:=24) Y rfl aDT,trivial⟩) aBU
def aCC:∀ x,dL tP kF 181 (aP f143) iT sD kI rJ x=eU x:=λ_=>Y
def aHD:bA sD=[hX]:=Y
def aC8:cJ tP 181 sD ⟨kI,rJ,uT⟩:=cC k9.callee aQ.mixed _ (aO aHD ⟨cB (i:=5) Y rfl aCR,trivial⟩) aCC
def aEO:bA CH=[sD]:=Y
def aGH:∀ l x A,SQ tP kF f143 (aP f143) iT CH 167 .str (.own 183 (.hnd 1)) [.int .i64] (.own 183 (.hnd 1)) l x A=eQ l x A:=by
 rintro u0 ⟨v1,⟨⟩⟩ A;kernel_rfl
def aLO:Z6 tP 143 167 .str (.own 183 (.hnd 1)) [.int .i64] (.own 183 (.hnd 1)) eQ:=I7 aQ k9 func143 (c:=CH) Y (keep:=aP f143) (lt:=iT) (by rfl) (aO aEO ⟨cB (i:=3) Y rfl aC8,trivial⟩) aGH
abbrev CD:Shr:=(143,aGA 1 (arH 167 .str (.own 183 (.hnd 1)) [.int .i64] (.own 183 (.hnd 1)) eQ))
def FY:sT tP CD:=yZ (g:=143) (f:=arH 167 .str (.own 183 (.hnd 1)) [.int .i64] (.own 183 (.hnd 1)) eQ) (QD aLO)
def Dn(u:Nat):ByteArray:=⟨(Lib.decDigits u).toArray⟩
def Zn(n:Int):ByteArray:=⟨(Lib.itoa n).toArray⟩
def NP u:(Dn u).data.toList=Lib.decDigits u:=by rfl
def bXY n:(Zn n).data.toList=Lib.itoa n:=by rfl
def bF3(u:Nat):Zn u=Dn u:=by rfl
def aZ4 {n}(h:n.natAbs<10^20):IP n=Zn n:=a7L h
def aOM {n}(h:n<0):(Zn n).data.toList=45::Lib.decDigits n.natAbs:=by rw[bXY,Lib.itoa,if_pos h]
def aK1 {n}(h:0<=n):Zn n=Dn n.natAbs:=by
 obtain⟨u,rfl⟩:∃ u:Nat,n=u:=⟨n.natAbs,by omega⟩;rfl
def aG3 {a b:ByteArray}(h:a.data.toList=b.data.toList):a=b:=by cases a; simp_all
def aT1(a:ByteArray):a.size=a.data.toList.length:=by rfl
def a83(l m:List UInt8):∀ (acc:Nat),Lib.decFrom acc (l++m)=(Lib.decFrom acc l).bind λa=>Lib.decFrom a m:=by
 induction l with
 | nil=>intro acc; rfl
 | cons b l c =>
  intro acc;rw[List.cons_append,Lib.decFrom,Lib.decFrom];split
  ·grind
  ·rfl
def bCL {d}(h:d<10):Lib.digitVal (UInt8.ofNat (48+d))=some d:=by
 have a:(UInt8.ofNat (48+d)).toNat=48+d:=(by rw[UInt8.toNat_ofNat'];omega);unfold Lib.digitVal;grind
def xS u:Lib.decFrom 0 (Lib.decDigits u)=some u:=by
 induction u using Nat.strongRecOn with
 | _ u a =>
  rw[Lib.decDigits];split
  next h=>rw[Lib.decFrom,bCL h];simp[Lib.decFrom]
  ·rw[a83,a (u/10) Z];simp only[Option.bind_some];rw[Lib.decFrom,bCL (Nat.mod_lt _ R)];simp only[Lib.decFrom];grind
def X8 u:Lib.decDigits u≠[]:=by
 rw[Lib.decDigits];split <;> simp
def aAQ u:∀ b∈Lib.decDigits u,48<=b.toNat/\b.toNat<=57:=by
 induction u using Nat.strongRecOn with
 | _ u c =>
  intro b a;rw[Lib.decDigits]at a;have key:∀ d,d<10->48<=(UInt8.ofNat (48+d)).toNat/\(UInt8.ofNat (48+d)).toNat<=57:=λd h=>by rw[UInt8.toNat_ofNat']; omega
  grind
def bT8 {a b}(h:Dn a=Dn b):a=b:=by
 have c:=oZ (λx:ByteArray=>Lib.decFrom 0 x.data.toList) h;simp only[NP,xS]at c;grind
def a3F {n}(h:n<0) m:Zn n≠Dn m:=by
 intro e;have a:=oZ (λx:ByteArray=>x.data.toList) e;simp only[aOM h,NP]at a;have:=aAQ m 45 W;grind
def bVK {a b}(h:Zn a=Zn b):a=b:=by
 rcases(by omega:a<0\/0<=a)with ha|ha;rcases(by omega:b<0\/0<=b)with hb|hb;have c:=oZ (λx:ByteArray=>x.data.toList) h;simp only[aOM ha,aOM hb,List.cons.injEq,true_and]at c;have d:=oZ (Lib.decFrom 0) c;rw[xS,xS]at d;grind;rw[aK1 hb]at h;exact absurd h (a3F ha _);rcases(by omega:b<0\/0<=b)with hb|hb;rw[aK1 ha]at h;exact absurd h.symm (a3F hb _);rw[aK1 ha,aK1 hb]at h;have:=bT8 h;omega
def bTB a b:eqS a b=decide (a=b):=by
 unfold eqS;by_cases h:a=b;grind;have:¬ a.data=b.data:=λe=>h (aG3 W);simp_all
def b03:ByteArray.mk #[48]=Dn 0:=aG3 (by rw[NP,Lib.decDigits]; rfl)
def b3S:ByteArray.mk #[49]=Dn 1:=aG3 (by rw[NP,Lib.decDigits]; rfl)
def WS n:eqS (Zn n) (ByteArray.mk #[48])=decide (n=0):=by
 rw[bTB,b03,((bF3 0).symm)];by_cases h:n=0;grind;have :=λe=>h (bVK e);grind
def a6N n:eqS (Dn n) (ByteArray.mk #[48])=decide (n=0):=by
 rw[<- bF3,WS];simp
def R2 u:(Dn u).size=Lib.nDigits u:=by rw[aT1,NP,Lib.decDigits_length]
def VK {n}(h:n<0):(Zn n).size=Lib.nDigits n.natAbs+1:=by rw[aT1,aOM h,List.length_cons,Lib.decDigits_length]
def xL {u k}:u<10^(k+1)->Lib.nDigits u<=k+1:=by
 induction k generalizing u with
 | zero=>intro h; rw[Lib.nDigits_small W]; simp
 | succ k b =>
  by_cases a:u<10
  ·grind
  ·rw[Lib.nDigits_big a];grind
def pD u:u<10^Lib.nDigits u:=by
 have:=Lib.decFrom_lt _ _ _ (xS u);rw[Lib.decDigits_length]at this;grind
def nDigits_pos u:1<=Lib.nDigits u:=by rw[Lib.nDigits]; grind
def bZB n:Lib.atoi (Zn n).data.toList=some n:=by
 rcases(by omega:n<0\/0<=n)with h|h
 ·rw[aOM h];have f:(Lib.decDigits n.natAbs).isEmpty=false:=by
   cases e:Lib.decDigits n.natAbs with
   | nil=>exact absurd e (X8 _)
   | cons _ _=>rfl
  simp only[Lib.atoi,Lib.decNat,xS];grind
 ·rw[aK1 h,NP];have c:=xS n.natAbs;have d:=aAQ n.natAbs;cases e:Lib.decDigits n.natAbs with
  | nil=>exact absurd e (X8 _)
  | cons b r =>
   rw[e]at c d;have i:=d b R;have a:(b==45)=false:=by
    rw[beq_eq_false_iff_ne]; rintro rfl;grind
   have g:(b==43)=false:=by
    rw[beq_eq_false_iff_ne]; rintro rfl;grind
   simp only[Lib.atoi,a,Lib.decNat,c];grind
def bDM u:Lib.decNat (Dn u).data.toList=some u:=by
 have a:(Lib.decDigits u).isEmpty=false:=by
  cases e:Lib.decDigits u with
  | nil=>exact absurd e (X8 _);| cons _ _=>rfl
 simp only[NP,Lib.decNat,a,xS];rfl
def aWU:∀ (l:List UInt8) (acc n:Nat),Lib.decFrom acc l=some n->acc*10^l.length<=n
 | [],acc,n,h=>by
  obtain rfl:=oB h;simp
 | b::l,acc,n,h=>by
  rw[Lib.decFrom]at h;split at h
  next d hd=>have:=aWU l _ n h;rw[List.length_cons,Nat.pow_succ];grind
  ·cases h
def aMW:∀ l m acc x y,l.length=m.length->Lib.decFrom acc l=some x->Lib.decFrom acc m=some y->Op.bytesLess l m=decide (x<y)
 | [],[],acc,x,y,_,h1,h2=>by
  obtain rfl:=oB h1;obtain rfl:=oB h2;simp[Op.bytesLess]
 | [],_::_,_,_,_,h,_,_=>by simp at h
 | _::_,[],_,_,_,h,_,_=>by simp at h
 | c::l,d::m,acc,x,y,h,h1,h2=>by
  have k:l.length=m.length:=by simpa using h
  have digit:∀ (b:UInt8) (e:Nat),Lib.digitVal b=some e->b.toNat=48+e/\e<10:=by
   intro b e he;unfold Lib.digitVal at he;grind
  rw[Lib.decFrom]at h1 h2;split at h1
  next f i=>
   split at h2
   ·rename_i a j;have⟨c1,c2⟩:=digit c f i;have⟨d1,d2⟩:=digit d a j;have o:=Lib.decFrom_lt l _ x h1;have n:=aWU l _ x h1;have p:=Lib.decFrom_lt m _ y h2;have q:=aWU m _ y h2;rw[k]at o n;rw[Op.bytesLess];rcases Nat.lt_trichotomy f a with g|g|g
    ·have lt:c<d:=by rw[UInt8.lt_iff_toNat_lt]; omega
     have:(acc*10+f+1)*10^m.length<=(acc*10+a)*10^m.length:=Nat.mul_le_mul_right _ Z;grind
    ·subst g;have e:c=d:=UInt8.toNat_inj.1 Z;subst e;have lt:¬ c<c:=by rw[UInt8.lt_iff_toNat_lt]; omega
     simp[lt,aMW l m _ x y k h1 h2]
    ·have lt:¬ c<d:=by rw[UInt8.lt_iff_toNat_lt]; omega
     have ne:¬ c=d:=by rintro rfl; omega
     have:(acc*10+a+1)*10^m.length<=(acc*10+f)*10^m.length:=Nat.mul_le_mul_right _ Z;grind
   ·cases h2
  ·cases h1
def b0V {a b}(h:Lib.nDigits a=Lib.nDigits b):ltS (Dn a) (Dn b)=decide (a<b):=by
 unfold ltS;rw[NP,NP];exact aMW _ _ 0 a b (by rw[Lib.decDigits_length,Lib.decDigits_length,h]) (xS a) (xS b)
def vC {a b}(h:a<=b):Lib.nDigits a<=Lib.nDigits b:=by
 obtain⟨k,c⟩:∃ k,Lib.nDigits b=k+1:=⟨Lib.nDigits b-1,by have:=nDigits_pos b; omega⟩;rw[c];refine xL (Nat.lt_of_le_of_lt h ?_);rw[<- c];exact pD b
def b1E a b:eqS (Dn a) (Dn b)=decide (a=b):=by
 rw[bTB];by_cases h:a=b;grind;have :=λe=>h (bT8 e);grind
def aUL(a b:Nat):Int:=if a<b then -1 else if b<a then 1 else 0
def HP a b (f:Lib.nDigits a<2^32)(g:Lib.nDigits b<2^32):iF (Dn a,Dn b,())=some (aUL a b,()):=by
 unfold iF;dsimp only;rw[R2,R2];by_cases h:Lib.nDigits a=Lib.nDigits b
 ·have c:eqI (Lib.nDigits a:Int) (Lib.nDigits b:Int)=true:=by rw[bN]; simp[h]
  rw[c,b0V h,b1E];unfold aUL;grind
 ·have c:eqI (Lib.nDigits a:Int) (Lib.nDigits b:Int)=false:=by rw[bN]; simp; omega
  rw[c];rw[wrap64 Z Z];unfold aUL;by_cases d:a<b;have:=vC (Nat.le_of_lt d);grind;have e:b<a:=W;have:=vC (Nat.le_of_lt e);grind
def FC(n:Int) (d : -9223372036854775808<=n) (c:n<9223372036854775808):pA (n,())=some (Zn n,()):=by
 unfold pA EE;have a:ltI n (-9223372036854775808)=false:=by rw[aF]; grind
 have b:ltI 9223372036854775807 n=false:=by rw[aF]; simp; omega
 simp only[a,b,Bool.and_self,aZ4 (n:=n) Z,zz]
def aAE(u:Nat)(h:u<18446744073709551616):EF ((u:Int),())=some (Dn u,()):=by
 unfold EF C4;have b:ltI u 0=false:=by rfl
 have c:ltI u 18446744073709551616=true:=by rw[aF]; grind
 have a:eqI 10 10=true:=by rfl
 simp only[b,c,a,Bool.and_self,aZ4 (n:=u) W,bF3,zz]
def aVD u (h:Lib.nDigits u<=18):RN (Dn u,())=some ((u:Int),true,()):=by
 unfold RN FF;have c:Nat.ble (Dn u).size 1000000000=true:=by rw[eL,R2]; grind
 have b:eqI 10 10=true:=by rfl
 have a:eqI 64 64=true:=by rfl
 have d:Lib.parseUintB 64 (Dn u).data.toList=.ok u:=by
  rw[Lib.parseUintB_64,Lib.parseMag_short _ (by rw[NP,Lib.decDigits_length]; omega),bDM];rfl
 simp only[c,b,a,Bool.and_self,d,zz]
def aEY a b (f:Lib.nDigits a<=18)(c:Lib.nDigits b<=18):A6 (Dn a,Dn b,())=some ((a:Int),(b:Int),true,()):=by
 unfold A6;have e:ltI 18 ((Dn a).size)=false:=by rw[aF,R2]; simp; omega
 have d:ltI 18 ((Dn b).size)=false:=by rw[aF,R2]; grind
 simp only[e,d,aVD a f,aVD b c,zz]
def aTK {s c l}(h:s.data.toList=c::l):bA6 s 0=c.toNat:=by
 have d:s[0]?=some c:=by
  have b:s.data[0]?=some c:=by rw[<- Array.getElem?_toList,h]; rfl
  have a:s[0]?=s.data[0]?:=by rfl
  grind
 unfold bA6;grind
def bO4 u:∃ c l,(Dn u).data.toList=c::l/\c.toNat≠45:=by
 have h:=aAQ u;rw[NP];cases e:Lib.decDigits u with
 | nil=>exact absurd e (X8 _)
 | cons c l =>
  grind
def bEN {s:ByteArray}{c l}(h:s.data.toList=c::l):s.extract 1 s.size=⟨l.toArray⟩:=by
 refine aG3 ?_;have a:(s.extract 1 s.size).data=s.data.extract 1 s.data.size:=ByteArray.data_extract;rw[a,Array.toList_extract,List.extract_eq_take_drop,h];have b:s.data.size=l.length+1:=by rw[<- Array.length_toList,h]; rfl
 grind
def D7 n:dE (Zn n,())=some (decide (n<0),Dn n.natAbs,()):=by
 unfold dE;by_cases h:n<0
 ·have hz:=aOM h;have j:ltI 0 ((Zn n).size:Int)=true:=by rw[aF,VK h]; simp <;> omega
  have b:aE 0 (Zn n).size=true:=by rw[aL,VK h]; simp <;> omega
  have a:bA6 (Zn n) 0=45:=by rw[aTK hz]; rfl
  have g:Nat.ble 1 (Zn n).size=true:=by rw[eL,VK h]; simp
  have e:Nat.ble (Zn n).size (Zn n).size=true:=R;have f:eqI 45 45=true:=O;simp only[j,b,a,g,e,f,oC,bEN hz,h,decide_true,Dn]
 ·rw[aK1 Z];have⟨c,l,d,k⟩:=bO4 n.natAbs;have i:(Dn n.natAbs).size=l.length+1:=by rw[aT1,d]; rfl
  have b:aE 0 (Dn n.natAbs).size=true:=by rw[aL,i]; simp <;> omega
  have a:eqI (bA6 (Dn n.natAbs) 0) 45=false:=by rw[aTK d,bN]; simp <;> omega
  grind
def a69(b:Bool) m (hm:Lib.nDigits m<2^32):aD (b,Dn m,())=some (Zn (if b then -m else m),()):=by
 unfold aD;cases b with
 | false=>rfl
 | true =>
  have a:Nat.ble ((ByteArray.mk #[45]).size+(Dn m).size) 9223372036854775807=true:=by
   rw[eL,R2];have:(ByteArray.mk #[45]).size=1:=rfl;grind
  simp only[a6N,a]
  by_cases h:m=0
  ·subst h;rfl
  ·simp only[h,decide_false,zz];simp only[if_true]
   congr 2
   refine aG3 ?_;rw[aOM Z,Joins.data_append,NP];grind
def vP m (hm:Lib.nDigits m<2^32):aD (true,Dn m,())=some (Zn (-m),()):=(a69 true m hm).trans (by rfl)
def BE m (hm:Lib.nDigits m<2^32):aD (false,Dn m,())=some (Zn m,()):=(a69 false m hm).trans (by rfl)
def R9(n k:Int)(c:k<=18):AU (Zn n,k,())=if ((Zn n).size)<=k then some (n,true,()) else some (0,false,()):=by
 unfold AU;by_cases h:((Zn n).size)<=k
 ·have a:ltI k ((Zn n).size:Int)=false:=by rw[aF]; grind
  have b:Nat.ble (Zn n).size 18=true:=by simp <;> omega
  rw[if_pos h];simp only[a,UA,b,bZB,zz]
 ·have a:ltI k ((Zn n).size)=true:=by rw[aF]; grind
  grind
def aVS n:RQ (Zn n,())=some (n.sign,()):=by
 unfold RQ;simp only[WS];by_cases f:n=0;grind
 ·by_cases h:n<0
  ·have hz:=aOM h;have d:aE 0 (Zn n).size=true:=by rw[aL,VK h]; simp <;> omega
   have b:bA6 (Zn n) 0=45:=by rw[aTK hz]; rfl
   have i:eqI 45 45=true:=O;grind
  ·rw[aK1 Z];have⟨c,l,a,g⟩:=bO4 n.natAbs;have e:(Dn n.natAbs).size=l.length+1:=by rw[aT1,a]; rfl
   have d:aE 0 (Dn n.natAbs).size=true:=by rw[aL,e]; simp
   have b:eqI (bA6 (Dn n.natAbs) 0) 45=false:=by rw[aTK a,bN]; simp <;> omega
   grind
def bB9 n (h:Lib.nDigits n.natAbs<2^32):aGM (Zn n,())=some (Zn (-n),()):=by
 unfold aGM;simp only[D7 n];by_cases a:n<0;simp only[BE _ h,aC];grind;simp only[vP _ h,aC];grind
def bDR n:aII (Zn n,())=some (Zn n.natAbs,()):=by
 unfold aII;simp only[D7 n,aC,bF3]
def bBB(a b:Nat) (f:Lib.nDigits a<2^32) (g:Lib.nDigits b<2^32):WM (Zn (a:Int),Zn (b:Int),())=some (aUL a b,()):=by
 unfold WM;have i:∀ n:Nat,(n:Int).sign=if n=0 then 0 else 1:=λn=>W
 simp only[aVS (a:Int),aVS (b:Int),D7 (a:Int),D7 (b:Int),aC,i];have h:∀ n:Nat,decide ((n:Int)<0)=false:=λn=>R
 by_cases d:a=0;by_cases c:b=0;have e:eqI 0 0=true:=O;simp only[d,c,if_true,e,h,Int.natAbs_natCast,zz];have:=HP a b f g;rw[d,c]at this;simp only[this,aC];have:eqI 0 1=false:=O;have e:ltI 0 1=true:=O;simp only[d,c,if_true,if_false,this,e,zz];unfold aUL;grind;by_cases c:b=0;have:eqI 1 0=false:=O;have e:ltI 1 0=false:=O;simp only[d,c,if_true,if_false,this,e,zz];unfold aUL;grind;have e:eqI 1 1=true:=O;simp only[d,c,if_false,e,h,Int.natAbs_natCast,HP a b f g,zz]
def a3U {u}(h:Lib.nDigits u<=18):u<1000000000000000000:=by
 have b:=pD u;have a:10^Lib.nDigits u<=10^18:=Nat.pow_le_pow_right R h;omega
def AP {x}(b:0<=x)(a:x<18446744073709551616):aA .u64 x=x:=by
 rw[a9N,IntKind.wrap_u64];omega
def bIO a b (d:Lib.nDigits a<=18)(c:Lib.nDigits b<=18):gM (Dn a,Dn b,())=some (Dn (a+b),()):=by
 have f:=a3U d;have e:=a3U c;unfold gM;simp only[aEY a b d c,aC];rw[AP Z Z];have:a+b=((a+b:Nat):Int):=by rfl
 rw[this,aAE _ Z];rfl
def bK9 a b (c:Lib.nDigits a<=18)(d:Lib.nDigits b<=18)(h:b<=a):dM (Dn a,Dn b,())=some (Dn (a-b),0,()):=by
 have f:=a3U c;unfold dM;have e:ltI (aUL a b) 0=false:=by
  rw[aF]; unfold aUL;grind
 simp only[HP a b Z Z,aEY a b c d,aC,e];rw[AP Z Z];have:a-b=((a-b:Nat):Int):=Z
 rw[this,aAE _ Z];rfl
def bIX a b (h:Lib.nDigits a+Lib.nDigits b<=18):gO (Dn a,Dn b,())=some (Dn (a*b),()):=by
 have j:a*b<1000000000000000000:=by
  have c:=pD a;have f:=pD b;have g :=Nat.mul_lt_mul'' c f;rw[<- Nat.pow_add]at g;have i:10^(Lib.nDigits a+Lib.nDigits b)<=10^18:=Nat.pow_le_pow_right O h;omega
 unfold gO;have e:ltI 18 (aA .i64 (((Dn a).size:Int)+((Dn b).size:Int)))=false:=by
  rw[R2,R2,wrap64 Z Z,aF];grind
 simp only[e,aEY a b Z Z,aC];have d:(a:Int)*(b:Int)=((a*b:Nat):Int):=by rfl
 rw[d,AP Z Z,aAE _ Z];rfl
def a7F a b (c:Lib.nDigits a<=18)(e:Lib.nDigits b<=18)(h:b≠0):u7 (Dn a,Dn b,())=some (Dn (a/b),Dn (a%b),0,()):=by
 have i:=a3U c;unfold u7;have g:eqI (b:Int) 0=false:=by rw[bN]; simp; omega
 have f:(a:Int).tdiv (b:Int)=((a/b:Nat):Int):=rfl;have d:(a:Int).tmod (b:Int)=((a%b:Nat):Int):=rfl;have k:a/b<=a:=Nat.div_le_self _ _;have j:a%b<=a:=Nat.mod_le _ _;simp only[a6N,h,aEY a b c e,aC,g,f,d];generalize a/b=q at *;rw[AP Z Z,aAE _ Z,aC,aAE _ Z];rfl
def ZY {n}{k:Nat}(h:((Zn n).size:Int)<=k):Lib.nDigits n.natAbs<=k:=by
 rcases(by omega:n<0\/0<=n)with g|g;rw[VK g]at h; omega;rw[aK1 g,R2]at h; omega
def xV {x y f g:Int} (h:x=y*f+g) (hp:0<y->0<=g/\g<y) (hn:y<0->y<g/\g<=0) (d:y≠0):x.fdiv y=f/\x.fmod y=g:=by
 have key:∀ x y f g:Int,x=y*f+g->0<y->0<=g->g<y->x.fdiv y=f/\x.fmod y=g:=by
  intro x y f g h c a b;have l:=Int.fmod_def x y;have k:=Int.fmod_nonneg_of_pos x c;have j:=Int.fmod_lt_of_pos x c;have i:y*(x.fdiv y-f)=g-x.fmod y:=by rw[Int.mul_sub]; omega
  have e:x.fdiv y-f=0:=(by rcases Int.lt_trichotomy (x.fdiv y-f) 0 with g1|g1|g1;have:y*(x.fdiv y-f)<=y*(-1):=Int.mul_le_mul_of_nonneg_left Z Z;omega;exact g1;have:y*1<=y*(x.fdiv y-f):=Int.mul_le_mul_of_nonneg_left Z Z;omega);rw[e]at i;omega
 rcases Int.lt_or_gt_of_ne d with g1|g1;have⟨a,b⟩:=hn g1;have:=key (-x) (-y) f (-g) (by rw[h]; grind) Z Z Z;rw[Int.neg_fdiv_neg,Int.neg_fmod_neg]at this;omega;have⟨a,b⟩:=hp g1;exact key x y f g h g1 a b
end Go.PM
namespace Go.De
abbrev pw(i:Nat):Int:=(1000000000:Int)^i
def bEP:pw 0=1:=rfl
def WZ i:pw (i+1)=1000000000*pw i:=W
def aDO i:0<pw i:=Int.pow_pos R
def aV7 i j:pw (i+j)=pw i*pw j:=W
def bGN {i j}(h:i<=j):pw i<=pw j:=by
 obtain⟨k,rfl⟩:=Nat.exists_eq_add_of_le h;rw[aV7];have b:=aDO i;have a:=aDO k;have:pw i*1<=pw i*pw k:=Int.mul_le_mul_of_nonneg_left Z Z;omega
def vl:List Int->Int| []=>0| x::l=>x+1000000000*vl l
def Pc(l:List Int):Prop:=∀ x∈l,0<=x/\x<1000000000
def Pc.nil:Pc []:=λ_ h=>by cases h
def Pc.cons {x l}(h:0<=x/\x<1000000000)(b:Pc l):Pc (x::l):=λy a=>by
 rcases List.mem_cons.1 a with rfl|a
 ·omega
 ·exact b y a
def Pc.head {x l}(h:Pc (x::l)):0<=x/\x<1000000000:=h x R
def Pc.tail {x l}(h:Pc (x::l)):Pc l:=λy a=>h y W
def Pc.append {a b}(e:Pc a)(c:Pc b):Pc (a++b):=λx d=>(List.mem_append.1 d).elim (e x) (c x)
def Pc.left {a b}(h:Pc (a++b)):Pc a:=λx c=>h x (List.mem_append_left _ c)
def Pc.set {l}(h:Pc l){x}(b:0<=x/\x<1000000000) i:Pc (l.set i x):=λy a=>by
 rcases List.mem_or_eq_of_mem_set a with h1|rfl
 ·exact h y h1
 grind
def bKY {l:List Int}{i}(h:i<l.length):l.getD i 0∈l:=W
def Pc.get {l}(h:Pc l) i:0<=l.getD i 0/\l.getD i 0<1000000000:=by
 rcases Nat.lt_or_ge i l.length with h1|h1;exact h _ (bKY h1);grind
def Pc.rep n:Pc (List.replicate n 0):=λx a=>W
def VQ:∀ a b,vl (a++b)=vl a+pw a.length*vl b
 | [],b=>by simp[vl]
 | x::a,b=>by
  rw[List.cons_append,vl,vl,VQ a b,List.length_cons,WZ];grind
def aPT:∀ n,vl (List.replicate n 0)=0| 0=>rfl| n+1=>by rw[List.replicate_succ,vl,aPT n]; rfl
def aXD:∀ l i x,i<l.length->vl (l.set i x)=vl l+(x-l.getD i 0)*pw i
 | [],i,x,h=>absurd h (Nat.not_lt_zero _)
 | y::l,0,x,h=>by simp[vl]; omega
 | y::l,i+1,x,h=>by
  rw[List.set_cons_succ,vl,vl,aXD l i x W,WZ,List.getD_cons_succ];grind
def zU:∀ {l},Pc l->0<=vl l
 | [],_=>Int.le_refl _
 | x::l,h=>by
  have b:=zU h.tail;have a:=h.head;rw[vl]; omega
def aCL:∀ {l},Pc l->vl l<pw l.length
 | [],_=>O
 | x::l,h=>by
  have b:=aCL h.tail;have a:=h.head;rw[vl,List.length_cons,WZ];omega
def SA:∀ (l:List Int) k,k<l.length->vl (l.take (k+1))=vl (l.take k)+l.getD k 0*pw k:=λl k h=>by
 rw[List.take_succ_eq_append_getElem h,VQ,List.length_take,Nat.min_eq_left Z,List.getD_eq_getElem?_getD,List.getElem?_eq_getElem h];simp[vl,Int.mul_comm]
def aH9 l k (h:k<=l.length):vl l=vl (l.take k)+pw k*vl (l.drop k):=by
 have e:=VQ (l.take k) (l.drop k);simp_all
def Pc.aVA {l}(h:Pc l) k:Pc (l.take k):=λx a=>h x (List.mem_of_mem_take a)
def Pc.b1S {l}(h:Pc l) k:Pc (l.drop k):=λx a=>h x (List.mem_of_mem_drop a)
def bO9 {l:List Int} (h:Pc l) {k:Nat} (hz:∀ j,k<=j->l.getD j 0=0):vl l<pw k:=by
 rcases Nat.lt_or_ge k l.length with h1|h1
 ·rw[aH9 l k Z];have:vl (l.drop k)=0:=by
   have:l.drop k=List.replicate (l.drop k).length 0:=by
    rw[List.eq_replicate_iff];refine⟨rfl,λx a=>?_⟩;obtain⟨i,hi,rfl⟩:=List.getElem_of_mem a;have:=hz (k+i) Z;grind
   rw[this,aPT]
  have b:=aCL (h.aVA k);grind
 exact Int.lt_of_lt_of_le (aCL h) (bGN h1)
def VH {l}(h:Pc l){k}(f:vl l<pw k){j}(b:k<=j):l.getD j 0=0:=by
 rcases Nat.lt_or_ge j l.length with a|a
 ·have e:=SA l j a;have d:=aH9 l (j+1) Z;have n1:=zU (h.aVA j);have c:=zU (h.b1S (j+1));have n3:0<=pw (j+1)*vl (l.drop (j+1)):=Int.mul_nonneg (Int.le_of_lt (aDO _)) c;have g:=h.get j;have m:=bGN b;have p:=aDO j;have :=λa=>by
   have:1*pw j<=l.getD j 0*pw j:=Int.mul_le_mul_of_nonneg_right a Z;omega
  omega
 grind
def Tr(l:List Int):Prop:=∀ x,l.getLast?=some x->x≠0
def Tr.nil:Tr []:=λ_ h=>nomatch h
def Tr.tail {x l}(h:Tr (x::l)):Tr l:=λy a=>h y (by
 grind)
def bLO:∀ {l},Pc l->Tr l->l≠[]->0<vl l
 | [],_,_,h=>absurd rfl h
 | [x],h,t,_=>by
  have:=h.head;have:=t x rfl;simp only[vl]; omega
 | x::y::l,h,t,_=>by
  have a:=bLO h.tail t.tail R;have:=h.head;rw[vl]; omega
def bPD:∀ {a b},Pc a->Pc b->Tr a->Tr b->vl a=vl b->a=b
 | [],[],_,_,_,_,_=>rfl
 | [],y::b,_,hb,_,tb,e=>by
  have d:=bLO hb tb R;have c:vl ([]:List Int)=0:=rfl;omega
 | x::a,[],ha,_,ta,_,e=>by
  have d:=bLO ha ta R;have c:vl ([])=0:=rfl;omega
 | x::a,y::b,ha,hb,ta,tb,e=>by
  have d:=ha.head;have c:=hb.head;rw[vl,vl]at e;have g:x=y:=Z
  have f:vl a=vl b:=Z
  rw[g,bPD ha.tail hb.tail ta.tail tb.tail f]
def MH(l:List Int):List Int:=(l.reverse.dropWhile (λx=>decide (x=0))).reverse
def aP0 l:MH (l++[0])=MH l:=by simp[MH]
def aW1 l {x}(h:x≠0):MH (l++[x])=l++[x]:=by simp[MH,h]
def bM2 l:Pc l->Pc (MH l)/\Tr (MH l)/\vl (MH l)=vl l/\(MH l).length<=l.length:=by
 suffices H:∀ n (l:List Int),l.length=n->Pc l->Pc (MH l)/\Tr (MH l)/\vl (MH l)=vl l/\(MH l).length<=l.length from H _ l rfl;intro n;induction n with
 | zero =>
  intro l b h;have:l=[]:=List.eq_nil_of_length_eq_zero b;subst this;exact⟨Pc.nil,Tr.nil,rfl,Nat.le_refl _⟩
 | succ n e =>
  intro l b h;rcases List.eq_nil_or_concat l with rfl|⟨a,x,rfl⟩
  ·grind
  ·rw[List.concat_eq_append]at b h ⊢;rw[List.length_append,List.length_singleton]at b
   by_cases c:x=0
   ·subst c;rw[aP0];have⟨d,f,g,i⟩:=e a Z h.left;refine⟨d,f,?_,by grind⟩;rw[VQ,g]; simp[vl]
   ·rw[aW1 a c];refine⟨h,λy j=>?_,rfl,Nat.le_refl _⟩;grind
def pcs(n:Nat):List Int:=if h:n=0 then [] else ((n%1000000000:Nat):Int)::pcs (n/1000000000)
termination_by n
decreasing_by omega
def aQ5:pcs 0=[]:=by rw[pcs]; rfl
def aYW {n}(h:n≠0):pcs n=((n%1000000000:Nat):Int)::pcs (n/1000000000):=by rw[pcs,dif_neg h]
def kL n:Pc (pcs n)/\Tr (pcs n)/\vl (pcs n)=n:=by
 induction n using Nat.strongRecOn with
 | _ n e =>
  by_cases h:n=0
  ·subst h; rw[aQ5]; exact⟨Pc.nil,Tr.nil,rfl⟩
  ·have⟨d,c,a⟩:=e (n/1000000000) Z;rw[aYW h];refine⟨Pc.cons Z d,λy b=>?_,by rw[vl,a]; omega⟩;cases hp:pcs (n/1000000000)with
   | nil =>
    rw[hp]at b a;have a:0=((n/1000000000):Int):=a;grind
   | cons z l =>
    rw[hp]at b c;exact c y b
def b0D {l}{n:Nat}(b:Pc l)(a:Tr l)(c:vl l=n):l=pcs n :=bPD b (kL n).1 a (kL n).2.1 (c.trans (kL n).2.2.symm)
def VX {l}{n:Nat}(e:Pc l)(f:vl l=n):MH l=pcs n:=by
 have⟨a,b,c,d⟩:=bM2 l e;exact b0D a b (c.trans f)
def aN1 {n k}(h:n<1000000000^k):(pcs n).length<=k:=by
 rcases Nat.lt_or_ge k (pcs n).length with h1|h1
 ·have⟨a,b,c⟩:=kL n;have e:vl (pcs n)<pw k:=W
  have hz:=VH a e (j:=(pcs n).length-1) Z;have d:pcs n≠[]:=λh=>W
  have:=b _ (List.getLast?_eq_some_getLast d);grind
 omega
def b0U {n k}(h:k<(pcs n).length):1000000000^k<=n:=by
 rcases Nat.lt_or_ge n (1000000000^k)with h1|h1;have:=aN1 h1; omega;omega
end Go.De
namespace Go.De
def tkS(q:List Int) (n:Int) (at':Nat) (p:List Int):Nat->List Int×Int×Int
 | 0=>(p,0,0)
 | k+1 =>
  let s:=tkS q n at' p k
  let c:=if k<q.length then s.2.2+n*q.getD k 0 else s.2.2
  let d:=s.1.getD (at'+k) 0-c%1000000000-s.2.1
  (s.1.set (at'+k) (if d<0 then d+1000000000 else d),if d<0 then 1 else 0,c/1000000000)
def getD_set_ne(l:List Int){i j} x (h:i≠j):(l.set i x).getD j 0=l.getD j 0:=W
structure TkI (q:List Int) (n:Int) (at':Nat) (p:List Int) (k:Nat) (s:List Int×Int×Int):Prop where
 pc:Pc s.1
 len:s.1.length=p.length
 bo:s.2.1=0\/s.2.1=1
 ca:0<=s.2.2/\s.2.2<1000000000
 hi:∀ j,at'+k<=j->s.1.getD j 0=p.getD j 0
 val:vl s.1=vl p-n*pw at'*vl (q.take k)+(s.2.1+s.2.2)*pw (at'+k)
 fin:q.length<k->s.2.2=0
def aB4 {n x:Int}(hn:0<=n/\n<1000000000)(a:0<=x/\x<1000000000):0<=n*x/\n*x<=999999998000000001:=by
 have c :=Int.mul_nonneg hn.1 a.1;have b:n*x<=999999999*999999999:=Int.mul_le_mul Z Z a.1 R;omega
def tkI {q n at' p}(hp:Pc p)(hq:Pc q)(hn:0<=n/\n<1000000000)(hl:at'+q.length<p.length):∀ k,k<=q.length+1->TkI q n at' p k (tkS q n at' p k)
 | 0,_=>⟨hp,rfl,.inl rfl,⟨Int.le_refl _,by show (0:Int)<1000000000; decide⟩,λ_ _=>rfl,by simp[tkS,vl],λh=>absurd h (Nat.not_lt_zero _)⟩
 | k+1,hk=>by
  have ih:=tkI hp hq hn hl k Z;rw[tkS];generalize tkS q n at' p k=s at ih;have⟨l,bo,ca⟩:=s;have⟨h1,h2,h3,h4,h5,h6,h7⟩:=ih;dsimp only at h1 h2 h3 h4 h5 h6 h7 ⊢;have hlen:at'+k<l.length:=Z
  have hx:=h1.get (at'+k);have hqk:=hq.get k;have hm:=aB4 hn hqk;have hc:∃ c,(if k<q.length then ca+n*q.getD k 0 else ca)=c/\0<=c/\c<1000000000*1000000000/\n*pw at'*vl (q.take (k+1))=n*pw at'*vl (q.take k)+(c-ca)*pw (at'+k)/\(q.length<=k->c=ca):=by
   by_cases h:k<q.length
   ·refine⟨_,if_pos h,by omega,by omega,?_,λh'=>by omega⟩;rw[SA q k h,aV7];grind
   ·grind
  have⟨c,e,c0,c1,c2,c3⟩:=hc;rw[e];have hd0:0<=c/1000000000:=Z
  have hd1:c/1000000000<1000000000:=Z
  have hpw:pw (at'+(k+1))=1000000000*pw (at'+k):=WZ (at'+k);generalize hq':c/1000000000=cq at *;generalize hr':c%1000000000=cr at *;have hr0:0<=cr/\cr<1000000000:=Z
  have hd:∃ d b,(if l.getD (at'+k) 0-cr-bo<0 then l.getD (at'+k) 0-cr-bo+1000000000 else l.getD (at'+k) 0-cr-bo)=d/\(if l.getD (at'+k) 0-cr-bo<0 then (1:Int) else 0)=b/\(0<=d/\d<1000000000)/\(b=0\/b=1)/\d=l.getD (at'+k) 0-cr-bo+1000000000*b:=by
   by_cases h:l.getD (at'+k) 0-cr-bo<0
   ·exact⟨_,_,if_pos h,if_pos h,by omega,.inr rfl,by omega⟩
   ·exact⟨_,_,if_neg h,if_neg h,by omega,.inl rfl,by omega⟩
  have⟨d,b,e1,e2,d0,b0,e3⟩:=hd;rw[e1,e2];refine⟨h1.set d0 _,by rw[List.length_set]; exact h2,b0,⟨hd0,hd1⟩,λj hj=>?_,?_,λh=>?_⟩
  ·show (l.set (at'+k) d).getD j 0=_;rw[getD_set_ne _ _ Z];exact h5 j Z
  ·show vl (l.set (at'+k) d)=_+(b+cq)*_;rw[aXD l _ _ hlen,h6,c2,hpw,e3];generalize l.getD (at'+k) 0=x;grind
  ·show cq=0;have:=c3 Z;have hk':k=q.length\/q.length<k:=Z
   omega
def bkS(q:List Int) (at':Nat) (p:List Int):Nat->List Int×Int
 | 0=>(p,0)
 | k+1 =>
  let s:=bkS q at' p k
  let c:=if k<q.length then s.2+s.1.getD (at'+k) 0+q.getD k 0 else s.2+s.1.getD (at'+k) 0
  (s.1.set (at'+k) (c%1000000000),c/1000000000)
structure BkI (q:List Int) (at':Nat) (p:List Int) (k:Nat) (s:List Int×Int):Prop where
 pc:Pc s.1
 len:s.1.length=p.length
 ca:s.2=0\/s.2=1
 hi:∀ j,at'+k<=j->s.1.getD j 0=p.getD j 0
 val:vl s.1=vl p+pw at'*vl (q.take k)-s.2*pw (at'+k)
def bkI {q at' p}(hp:Pc p)(hq:Pc q)(hl:at'+q.length<p.length):∀ k,k<=q.length+1->BkI q at' p k (bkS q at' p k)
 | 0,_=>⟨hp,rfl,.inl rfl,λ_ _=>rfl,by simp[bkS,vl]⟩
 | k+1,hk=>by
  have ih:=bkI hp hq hl k Z;rw[bkS];generalize bkS q at' p k=s at ih;have⟨l,ca⟩:=s;have⟨h1,h2,h3,h5,h6⟩:=ih;dsimp only at h1 h2 h3 h5 h6 ⊢;have hlen:at'+k<l.length:=Z
  have hx:=h1.get (at'+k);have hqk:=hq.get k;have hc:∃ c,(if k<q.length then ca+l.getD (at'+k) 0+q.getD k 0 else ca+l.getD (at'+k) 0)=c/\0<=c/\c<2*1000000000/\pw at'*vl (q.take (k+1))=pw at'*vl (q.take k)+(c-ca-l.getD (at'+k) 0)*pw (at'+k):=by
   by_cases h:k<q.length
   ·refine⟨_,if_pos h,by omega,by omega,?_⟩;rw[SA q k h,aV7];grind
   ·grind
  have⟨c,e,c0,c1,c2⟩:=hc;rw[e];have hdm:=Int.emod_add_mul_ediv c 1000000000;have hpw:pw (at'+(k+1))=1000000000*pw (at'+k):=WZ (at'+k);have hd0:c/1000000000=0\/c/1000000000=1:=Z
  have hr0:0<=c%1000000000/\c%1000000000<1000000000:=Z
  generalize c/1000000000=cq at *;generalize c%1000000000=cr at *;refine⟨h1.set hr0 _,by rw[List.length_set]; exact h2,hd0,λj hj=>?_,?_⟩
  ·grind
  ·show vl (l.set (at'+k) cr)=_-cq*_;rw[aXD l _ _ hlen,h6,c2,hpw];generalize l.getD (at'+k) 0=x at *;grind
def tmI(q:List Int) (a:Int) (i:Nat) (o:List Int):Nat->List Int×Int
 | 0=>(o,0)
 | k+1 =>
  let s:=tmI q a i o k
  let c:=s.2+(s.1.getD (i+k) 0+a*q.getD k 0)
  (s.1.set (i+k) (c%1000000000),c/1000000000)
structure TmI (q:List Int) (a:Int) (i:Nat) (o:List Int) (k:Nat) (s:List Int×Int):Prop where
 pc:Pc s.1
 len:s.1.length=o.length
 ca:0<=s.2/\s.2<1000000000
 hi:∀ j,i+k<=j->s.1.getD j 0=o.getD j 0
 val:vl s.1+s.2*pw (i+k)=vl o+a*pw i*vl (q.take k)
def bGF {q o a i}(ho:Pc o)(hq:Pc q)(ha:0<=a/\a<1000000000)(hl:i+q.length<=o.length):∀ k,k<=q.length->TmI q a i o k (tmI q a i o k)
 | 0,_=>⟨ho,rfl,⟨Int.le_refl _,by show (0:Int)<1000000000; decide⟩,λ_ _=>rfl,by simp[tmI,vl]⟩
 | k+1,hk=>by
  have ih:=bGF ho hq ha hl k Z;rw[tmI];generalize tmI q a i o k=s at ih;have⟨l,ca⟩:=s;have⟨h1,h2,h3,h5,h6⟩:=ih;dsimp only at h1 h2 h3 h5 h6 ⊢;have hlen:i+k<l.length:=Z
  have hx:=h1.get (i+k);have hm:=aB4 ha (hq.get k);have e2:a*pw i*vl (q.take (k+1))=a*pw i*vl (q.take k)+(a*q.getD k 0)*pw (i+k):=by
   rw[SA q k Z,aV7];grind
  have hpw:pw (i+(k+1))=1000000000*pw (i+k):=WZ (i+k);generalize a*q.getD k 0=m at *;have hdm:=Int.emod_add_mul_ediv (ca+(l.getD (i+k) 0+m)) 1000000000;have hq0:0<=(ca+(l.getD (i+k) 0+m))/1000000000/\(ca+(l.getD (i+k) 0+m))/1000000000<1000000000:=Z
  have hr0:0<=(ca+(l.getD (i+k) 0+m))%1000000000/\(ca+(l.getD (i+k) 0+m))%1000000000<1000000000:=Z
  generalize (ca+(l.getD (i+k) 0+m))/1000000000=cq at *;generalize (ca+(l.getD (i+k) 0+m))%1000000000=cr at *;refine⟨h1.set hr0 _,by rw[List.length_set]; exact h2,hq0,λj hj=>?_,?_⟩
  ·grind
  ·show vl (l.set (i+k) cr)+cq*_=_;rw[aXD l _ _ hlen,e2,hpw];grind
def tmO(p q o:List Int):Nat->List Int
 | 0=>o
 | i+1 =>
  let s:=tmI q (p.getD i 0) i (tmO p q o i) q.length
  s.1.set (i+q.length) s.2
def bED {p q}(hp:Pc p)(hq:Pc q):∀ i,i<=p.length->Pc (tmO p q (List.replicate (p.length+q.length) 0) i)/\(tmO p q (List.replicate (p.length+q.length) 0) i).length=p.length+q.length/\vl (tmO p q (List.replicate (p.length+q.length) 0) i)=vl (p.take i)*vl q/\∀ j,i+q.length<=j->(tmO p q (List.replicate (p.length+q.length) 0) i).getD j 0=0
 | 0,_=>⟨Pc.rep _,by simp[tmO],by simp[tmO,aPT,vl],λj _=>by simp[tmO,List.getD_eq_getElem?_getD,List.getElem?_replicate]; split <;> rfl⟩
 | i+1,hi=>by
  have⟨h1,h2,h3,h4⟩:=bED hp hq i Z;rw[tmO];have k:=bGF h1 hq (hp.get i) (i:=i) Z q.length (Nat.le_refl _);have⟨g1,g2,g3,g4,g5⟩:=k;refine⟨g1.set g3 _,by rw[List.length_set,g2,h2],?_,λj hj=>?_⟩
  ·rw[aXD _ _ _ Z,g4 _ (Nat.le_refl _),h4 _ (Nat.le_refl _),SA p i Z];grind
  ·rw[getD_set_ne _ _ Z,g4 j Z];grind
def bQ4 a b:MH (tmO (pcs a) (pcs b) (List.replicate ((pcs a).length+(pcs b).length) 0) (pcs a).length)=pcs (a*b):=by
 have⟨d,a2,a3⟩:=kL a;have⟨e,i,f⟩:=kL b;have⟨c,g,h,j⟩:=bED d e _ (Nat.le_refl _);refine VX c ?_;grind
def smS(p:List Int) (n:Int):Nat->List Int×Int
 | 0=>(List.replicate p.length 0,0)
 | t+1 =>
  let s:=smS p n t
  let r:=s.2*1000000000+p.getD (p.length-1-t) 0
  (s.1.set (p.length-1-t) (r/n),r%n)
structure SmI (p:List Int) (n:Int) (t:Nat) (s:List Int×Int):Prop where
 pc:Pc s.1
 len:s.1.length=p.length
 re:0<=s.2/\s.2<n
 lo:∀ j,j<p.length-t->s.1.getD j 0=0
 val:vl (p.drop (p.length-t))*pw (p.length-t)=n*vl s.1+s.2*pw (p.length-t)
def smI {p n}(hp:Pc p)(hn:0<n/\n<1000000000):∀ t,t<=p.length->SmI p n t (smS p n t)
 | 0,_=>⟨Pc.rep _,by simp[smS],⟨Int.le_refl _,hn.1⟩,λj _=>by simp[smS,List.getD_eq_getElem?_getD,List.getElem?_replicate]; split <;> rfl,by simp[smS,vl,aPT]⟩
 | t+1,ht=>by
  have ih:=smI hp hn t Z;rw[smS];generalize smS p n t=s at ih;have⟨l,r⟩:=s;have⟨h1,h2,h3,h4,h5⟩:=ih;dsimp only at h1 h2 h3 h4 h5 ⊢;obtain⟨i,hi⟩:∃ i,p.length-1-t=i:=⟨_,rfl⟩;have ei:p.length-t=i+1:=Z
  have ei':p.length-(t+1)=i:=Z
  rw[hi];rw[ei]at h4 h5;have hx:=hp.get i;have hz:l.getD i 0=0:=h4 i Z;have hdr:p.drop i=p.getD i 0::p.drop (i+1):=by rw[List.drop_eq_getElem_cons Z,List.getD_eq_getElem?_getD,List.getElem?_eq_getElem Z]; rfl
  generalize p.getD i 0=x at *;have hdm:=Int.emod_add_mul_ediv (r*1000000000+x) n;have hr0:0<=(r*1000000000+x)%n/\(r*1000000000+x)%n<n:=⟨Int.emod_nonneg _ Z,Int.emod_lt_of_pos _ hn.1⟩;have hq0:0<=(r*1000000000+x)/n:=Int.ediv_nonneg Z Z;have hq1:(r*1000000000+x)/n<1000000000:=by
   refine Int.ediv_lt_of_lt_mul hn.1 ?_;omega
  generalize (r*1000000000+x)/n=cq at *;generalize (r*1000000000+x)%n=cr at *;refine⟨h1.set ⟨hq0,hq1⟩ _,by rw[List.length_set]; exact h2,hr0,λj hj=>?_,?_⟩
  ·show (l.set i cq).getD j 0=0;rw[getD_set_ne _ _ Z];grind
  ·show _=n*vl (l.set i cq)+cr*_;rw[ei',aXD l _ _ Z,hdr,vl,hz];grind
def bRJ a {n:Nat}(hn:0<n/\n<1000000000):MH (smS (pcs a) n (pcs a).length).1=pcs (a/n)/\(smS (pcs a) n (pcs a).length).2=((a%n:Nat)):=by
 have⟨f,a2,a3⟩:=kL a;have k:=smI f (n:=n) Z _ (Nat.le_refl _);generalize smS (pcs a) n (pcs a).length=s at k;have⟨b,l,m,o,j⟩:=k;have g:=zU b;obtain⟨v,d⟩:∃ v:Nat,vl s.1=v:=⟨(vl s.1).toNat,by omega⟩;obtain⟨r,h⟩:∃ r:Nat,s.2=r:=⟨s.2.toNat,by omega⟩;have e:a=n*v+r:=W
 have i:a/n=v:=by rw[e,Nat.mul_add_div hn.1,Nat.div_eq_of_lt Z,Nat.add_zero]
 have c:a%n=r:=by rw[e,Nat.mul_add_mod,Nat.mod_eq_of_lt Z]
 rw[i,c];exact⟨VX b d,h⟩
end Go.De
namespace Go.De
def bW1 {a:List Int} (h:Pc a) {k:Nat} (hz:∀ j,k<j->a.getD j 0=0) (b:k<a.length):a.getD k 0*pw k<=vl a/\vl a<(a.getD k 0+1)*pw k:=by
 have e:=aH9 a (k+1) Z;have f:=SA a k b;have n1:=zU (h.aVA k);have d:=aCL (h.aVA k);rw[List.length_take,Nat.min_eq_left Z]at d;have:vl (a.drop (k+1))=0:=(by have:a.drop (k+1)=List.replicate (a.drop (k+1)).length 0:=(by rw[List.eq_replicate_iff];refine⟨rfl,λx c=>?_⟩;obtain⟨i,hi,rfl⟩:=List.getElem_of_mem c;have:=hz (k+1+i) Z;grind);rw[this,aPT]);grind
def bOZ {a}(h:Pc a){k}(hz:∀ j,k+1<j->a.getD j 0=0)(f:k+1<a.length):(a.getD (k+1) 0*1000000000+a.getD k 0)*pw k<=vl a/\vl a<(a.getD (k+1) 0*1000000000+a.getD k 0+1)*pw k:=by
 have e:=aH9 a (k+2) Z;have d:=SA a (k+1) f;have b:=SA a k Z;have n1:=zU (h.aVA k);have g:=aCL (h.aVA k);have:vl (a.drop (k+2))=0:=(by have:a.drop (k+2)=List.replicate (a.drop (k+2)).length 0:=(by rw[List.eq_replicate_iff];refine⟨rfl,λx c=>?_⟩;obtain⟨i,hi,rfl⟩:=List.getElem_of_mem c;have:=hz (k+2+i) Z;grind);rw[this,aPT]);rw[this,Int.mul_zero,Int.add_zero,d,b,WZ]at e;grind
def bYB {a}(h:Pc a){k}(hz:∀ j,k+2<j->a.getD j 0=0)(l:k+2<a.length):((a.getD (k+2) 0*1000000000+a.getD (k+1) 0)*1000000000+a.getD k 0)*pw k<=vl a/\vl a<((a.getD (k+2) 0*1000000000+a.getD (k+1) 0)*1000000000+a.getD k 0+1)*pw k:=by
 have e:=aH9 a (k+3) Z;have m:=SA a (k+2) l;have g:=SA a (k+1) Z;have c:=SA a k Z;have n1:=zU (h.aVA k);have f:=aCL (h.aVA k);rw[List.length_take,Nat.min_eq_left Z]at f;have:vl (a.drop (k+3))=0:=(by have:a.drop (k+3)=List.replicate (a.drop (k+3)).length 0:=(by rw[List.eq_replicate_iff];refine⟨rfl,λx d=>?_⟩;obtain⟨i,hi,rfl⟩:=List.getElem_of_mem d;have:=hz (k+3+i) Z;grind);rw[this,aPT]);have b:pw (k+1)=1000000000*pw k:=WZ k;have p2:pw (k+2)=1000000000*(1000000000*pw k):=(by rw[WZ (k+1),b]);rw[this,Int.mul_zero,Int.add_zero,m,g,c,b,p2]at e;grind
def aH6(bt b2 a2 g r:Int):Prop:=1000000000<=g\/(r<1000000000/\r*1000000000+a2<g*b2)
instance (bt b2 a2 g r:Int):Decidable (aH6 bt b2 a2 g r):=by unfold aH6; infer_instance
structure Gs (A V P K a2 high bt b2:Int):Prop where
 P0:0<P
 K0:0<K
 A2:(high*1000000000+a2)*(K*P)<=A
 A3:A<(high*1000000000+a2+1)*(K*P)
 a20:0<=a2/\a2<1000000000
 V2:(bt*1000000000+b2)*K<=V
 V3:V<(bt*1000000000+b2+1)*K
 b20:0<=b2/\b2<1000000000
 bt0:0<bt
 h0:0<=high
def a9M {a b:Int}(d:0<a)(c:0<b):0<a*b:=Int.mul_pos d c
def aSW {a b c:Int}(h:a<=b)(d:0<=c):a*c<=b*c:=Int.mul_le_mul_of_nonneg_right h d
def Gs.start {A V P K a2 high c f a:Int} (h:Gs A V P K a2 high c f) (d:0<=a) (g:a*(V*P)<=A):a<=high/c:=by
 rw[Int.le_ediv_iff_mul_le h.bt0];have b:=a9M h.K0 h.P0;have i:a*((c*1000000000)*K*P)<=a*(V*P):=by
  refine Int.mul_le_mul_of_nonneg_left ?_ d;refine aSW ?_ (Int.le_of_lt h.P0);refine Int.le_trans ?_ h.V2;exact aSW (by have:=h.b20; omega) (Int.le_of_lt h.K0)
 have j:A<((high+1)*1000000000)*(K*P):=by
  refine Int.lt_of_lt_of_le h.A3 (aSW ?_ (Int.le_of_lt b));have:=h.a20; omega
 have e:(a*c*1000000000)*(K*P)<((high+1)*1000000000)*(K*P):=W
 have k:=Int.lt_of_mul_lt_mul_right e (Int.le_of_lt b);omega
def Gs.down {A V P K a2 high bt b2 qh g r}(h:Gs A V P K a2 high bt b2)(b:0<=qh)(i:qh*(V*P)<=A)(d:qh<1000000000)(n:qh<=g)(l:r=high-g*bt)(c:aH6 bt b2 a2 g r):qh<=g-1:=by
 rcases c with c|⟨_,c⟩;omega
 ·have:¬ g=qh:=λe=>by
   subst e;have a:=a9M h.K0 h.P0;have j :=Int.mul_le_mul_of_nonneg_left (aSW h.V2 (Int.le_of_lt h.P0)) b;have f:high*1000000000+a2+1<=g*(bt*1000000000+b2):=W
   have k:=aSW f (Int.le_of_lt a);have m:g*(bt*1000000000+b2)*(K*P)=g*((bt*1000000000+b2)*K*P):=W
   have:=h.A3;omega
  omega
def Gs.stop {A V P K a2 high bt b2 g r}(h:Gs A V P K a2 high bt b2)(hg:0<=g)(hr:r=high-g*bt)(hc:¬ aH6 bt b2 a2 g r):(g-1)*(V*P)<=A:=by
 unfold aH6 at hc;have hKP:=a9M h.K0 h.P0;have hVP:1000000000*(K*P)<=V*P:=by
  have h1:1000000000*K<=V:=Int.le_trans (aSW (by have:=h.b20; have:=h.bt0; omega) (Int.le_of_lt h.K0)) h.V2;have:=aSW h1 (Int.le_of_lt h.P0);grind
 have hV3:g*(V*P)<=g*((bt*1000000000+b2+1)*K*P):=Int.mul_le_mul_of_nonneg_left (aSW (Int.le_of_lt h.V3) (Int.le_of_lt h.P0)) hg;have e0:g*((bt*1000000000+b2+1)*K*P)=(g*bt*1000000000+g*b2+g)*(K*P):=W
 have e1:(g-1)*(V*P)=g*(V*P)-V*P:=W
 by_cases hrr:1000000000<=r
 ·-- g*(bt+1) <= high
  have h2:g*bt*1000000000+g*b2+g<=high*1000000000+a2+1000000000:=by
   have:=h.a20;have:=h.b20;have:g*b2<=g*999999999:=Int.mul_le_mul_of_nonneg_left Z hg;omega
  have h3:=aSW h2 (Int.le_of_lt hKP);have e3:(high*1000000000+a2+1000000000)*(K*P)=(high*1000000000+a2)*(K*P)+1000000000*(K*P):=W
  have:=h.A2;omega
 ·have h2:g*bt*1000000000+g*b2+g<=high*1000000000+a2+1000000000:=by
   grind
  have h3:=aSW h2 (Int.le_of_lt hKP);have e3:(high*1000000000+a2+1000000000)*(K*P)=(high*1000000000+a2)*(K*P)+1000000000*(K*P):=W
  have:=h.A2;omega
def bDV {C:Nat->Prop} [DecidablePred C]:∀ n,¬ C n->∃ m,m<=n/\¬ C m/\∀ t,t<m->C t
 | 0,h=>⟨0,Nat.le_refl _,h,λt ht=>absurd ht (Nat.not_lt_zero _)⟩
 | n+1,h=>by
  by_cases a:∃ t,t<=n/\¬ C t
  ·have⟨t,ht,b⟩:=a;have⟨m,c,d,e⟩:=bDV t b;grind
  ·grind
def Gs.bZ7 {A V P K a2 high b b2 qh}(h:Gs A V P K a2 high b b2)(c:0<=qh)(q:qh*(V*P)<=A)(u:A<(qh+1)*(V*P))(f:qh<1000000000) :
  ∃ m:Nat,m<=high/b/\(∀ t ,t<m->aH6 b b2 a2 (high/b-t) (high%b+t*b))/\¬ aH6 b b2 a2 (high/b-m) (high%b+m*b)/\qh<=high/b-m/\high/b-m<=qh+1:=by
 have y:=h.start c q;have r:∀ t:Nat,high%b+t*b=high-(high/b-t)*b:=λt=>by
  have:=Int.emod_add_mul_ediv high b;grind
 have i:∀ m:Nat,(∀ t:Nat,t<m->aH6 b b2 a2 (high/b-t) (high%b+t*b))->qh<=high/b-m:=by
  intro m;induction m with
  | zero=>intro _; simpa using y
  | succ m x =>
   intro e;have l:=x λt ht=>e t Z
   have o:=h.down c q f l (r m) (e m Z);omega
 obtain⟨n,hn⟩:∃ n:Nat,high/b=n:=⟨(high/b).toNat,by omega⟩;have d:¬ aH6 b b2 a2 (high/b-((n:Nat):Int)) (high%b+(n:Nat)*b):=λe=>by
  by_cases j:∀ t:Nat,t<n->aH6 b b2 a2 (high/b-t) (high%b+t*b)
  ·have l:=i n j;have o:=h.down c q f l (r n) e;omega
  ·-- a false test below would have k: monotone in t
   unfold aH6 at e;rw[hn,Int.sub_self,Int.zero_mul]at e;have B:=Int.emod_nonneg high (show b≠0 by have:=h.bt0; omega);have z:0<=(n:Int)*b:=Int.mul_nonneg Z (Int.le_of_lt h.bt0);have:=h.a20;omega
 have⟨m,l,o,s⟩:=bDV (C:=λt:Nat=>aH6 b b2 a2 (high/b-t) (high%b+t*b)) n d;have w:=i m s;refine⟨m,by omega,s,o,w,?_⟩;have D:=h.stop (g:=high/b-m) Z (r m) o;have:¬ qh+1<high/b-m:=λv=>by
  have p:0<V*P:=a9M (by
   have:=h.V2;have:0<(b*1000000000+b2)*K:=a9M (by have:=h.b20; have:=h.bt0; omega) h.K0;omega) h.P0
  have:=aSW (show qh+1<=high/b-m-1 by omega) (Int.le_of_lt p);omega
 omega
def bMP {a b:List Int} {i n:Nat} {g c:Int} (t:Pc a) (x:Pc b) (m:b.length=n) (z:i+n<a.length) (hz:vl a<pw (i+n+1)) (K:0<=g/\g<1000000000) (B:c*(vl b*pw i)<=vl a) (A:vl a<(c+1)*(vl b*pw i)) (g0:c<=g) (g1:g<=c+1) :
  ((tkS b g i a (n+1)).2.1=0/\g=c/\Pc (tkS b g i a (n+1)).1/\(tkS b g i a (n+1)).1.length=a.length/\vl (tkS b g i a (n+1)).1=vl a-c*(vl b*pw i)) \/
  ((tkS b g i a (n+1)).2.1=1/\g=c+1/\Pc (tkS b g i a (n+1)).1/\(tkS b g i a (n+1)).1.length=a.length/\Pc (bkS b i (tkS b g i a (n+1)).1 (n+1)).1/\(bkS b i (tkS b g i a (n+1)).1 (n+1)).1.length=a.length/\vl (bkS b i (tkS b g i a (n+1)).1 (n+1)).1=vl a-c*(vl b*pw i)):=by
 subst m;have k:=tkI t x K z (b.length+1) (Nat.le_refl _);generalize tkS b g i a (b.length+1)=s at k;have⟨d,o,F,N,w,h,H⟩:=k;have p:=H Z;have G:=bO9 d (k:=i+b.length+1) λj r=>by
  rw[w j Z];exact VH t hz r
 rw[List.take_of_length_le (show b.length<=b.length+1 by omega),p,Int.add_zero]at h;have hn:=zU d;have O:g*pw i*vl b=g*(vl b*pw i):=W;have J:pw (i+(b.length+1))=pw (i+b.length+1):=rfl;rcases F with hb0|hb1
 ·refine .inl ⟨hb0,?_,d,o,?_⟩
  ·have:¬ g=c+1:=λe=>by
    grind
   omega
  ·have:g=c:=by
    have:¬ g=c+1:=λe=>W
    omega
   grind
 ·have y:g=c+1:=by
   have:¬ g=c:=λe=>by
    subst e;rw[hb1,Int.one_mul]at h;omega
   omega
  refine .inr ⟨hb1,y,d,o,?_⟩;have l:=bkI d x (at':=i) Z (b.length+1) (Nat.le_refl _);have f:∀ j,i+b.length+1<=j->(bkS b i s.1 (b.length+1)).1.getD j 0=0:=λj r=>by
   rw[l.hi j Z,w j Z];exact VH t hz r
  generalize bkS b i s.1 (b.length+1)=u at l f;have⟨q,E,D,M,v⟩:=l;have C:=bO9 q f;have I:=zU q;rw[List.take_of_length_le (show b.length<=b.length+1 by omega),J]at v;rw[hb1,Int.one_mul]at h;have L:(c+1)*(vl b*pw i)=c*(vl b*pw i)+vl b*pw i:=W;have P:pw i*vl b=vl b*pw i:=Int.mul_comm _ _;subst y;refine⟨q,E.trans o,?_⟩;rcases D with hc|hc;rw[hc,Int.zero_mul]at v;omega;rw[hc,Int.one_mul]at v;omega
def b2Q {a b:List Int} {i n:Nat} (d:Pc a) (f:Pc b) (g:b.length=n+2) (c:0<b.getD (n+1) 0) (o:i+n+2<a.length) (hz:vl a<pw (i+n+3)) :
  Gs (vl a) (vl b) (pw i) (pw n) (a.getD (i+n) 0) (a.getD (i+n+2) 0*1000000000+a.getD (i+n+1) 0) (b.getD (n+1) 0) (b.getD n 0):=by
 have h:=bYB d (k:=i+n) (λj m=>VH d hz Z) Z;have l:=bOZ f (k:=n) (λj m=>VH f (k:=n+2) (by have:=aCL f; rw[g]at this; exact this) Z) Z;have e:pw n*pw i=pw (i+n):=by rw[aV7,Int.mul_comm]
 exact⟨aDO i,aDO n,by rw[e]; exact h.1,by rw[e]; exact h.2,d.get _,l.1,l.2,f.get _,c,by have:=d.get (i+n+2); have:=d.get (i+n+1); omega⟩
end Go.De
namespace Go.PM
open Go Go.RowKit Go.Proofs Go.De
def bWC {x}(b:0<=x)(a:x<256):aA .u8 x=x:=by
 show x%256=x;grind
def bM9 {x}(b:0<=x)(a:x<18446744073709551616):IntKind.wrap .u64 x=x:=AP b a
def bPL {x}(b:0<=x)(a:x<256):IntKind.wrap .u8 x=x:=bWC b a
def a8M(a:Nat):Nat.beq a a=true:=R
def aIJ(l:List Int) i:dZ [l] 0 i 0=l.getD i 0:=rfl
def aGP l i (x:Int):DQ [l] 0 i x=[l.set i x]:=rfl
def aH7(l:List Int):dG [l] 0=l.length:=rfl
def b2M {σ τ:Type} {step:σ->Option (σ⊕τ)} {N:Nat} {Z:τ->Prop} (I:Nat->σ->Prop) (m:Nat) (x:σ) (f:m<N) (d:I 0 x)
  (h:∀ i y,i<m->I i y->∃ a,step y=some (.inl a)/\I (i+1) a) (he:∀ y,I m y->∃ z,step y=some (.inr z)/\Z z):∃ z,aV step N x=some z/\Z z:=by
 suffices H:∀ k i y,i+k=m->I i y->∃ z,aV step (k+1+(N-m-1)) y=some z/\Z z by
  have:=H m 0 x (Nat.zero_add m) d;grind
 intro k;induction k with
 | zero =>
  intro i y hi b;have hi:i=m:=zN
  subst hi;have⟨z,c,e⟩:=he y b;rw[show 0+1+(N-i-1)=(N-i-1)+1 by omega,eF,c];grind
 | succ k g =>
  intro i y hi b;have⟨a,c,e⟩:=h i y zN b;rw[show k+1+1+(N-m-1)=(k+1+(N-m-1))+1 by omega,eF,c];grind
def bRK {l:List Int} (i:l.length<9223372036854775807) (A:List (List Int)):∀ n,l.length<=n->∀ k,aV lO (n+1+k) (l,A,())=some (MH l,A,()):=by
 intro n;induction n generalizing l with
 | zero =>
  intro h k;have:l=[]:=List.eq_nil_of_length_eq_zero Z;subst this;rw[show 0+1+k=k+1 by omega,eF];rfl
 | succ n r =>
  intro h k;rw[show n+1+1+k=(n+1+k)+1 by omega,eF];rcases List.eq_nil_or_concat l with rfl|⟨a,x,rfl⟩
  ·rfl
  ·rw[List.concat_eq_append]at i h ⊢;have hlen:(a++[x]).length=a.length+1:=R
   have q:ltI 0 ((a.length+1:Nat):Int)=true:=ze
   have e:aA .i64 (((a.length+1:Nat):Int)-1)=(a.length:Int):=by rw[wrap64 Z Z]; omega
   have d:aE (a.length:Int) (a.length+1)=true:=zi
   have o:Nat.blt a.length (a.length+1)=true:=zk
   have j:(a++[x]).getD a.length 0=x:=by simp[oQ]
   have m:ltI (a.length:Int) 0=false:=zf
   have p:Nat.ble 0 a.length=true:=rfl;have f:Nat.ble a.length (a.length+1)=true:=zm
   have g:Nat.blt 0 (a.length+1)=true:=zk
   have c:(a++[x]).take a.length=a:=R
   simp only[lO,hlen,q,e,oN,d,o,j,m,p,f,g,Nat.sub_zero,c,bN,zz]
   by_cases b:x=0
   ·subst b;rw[aP0];grind
   ·simp only[b,decide_false,oD];rw[aW1 a b]
def aOL {l}(a:l.length<=4000000) A:bU l () A=some (MH l,A):=by
 have h:=bRK Z A l.length (oM _) (2^64-l.length-1);rw[show l.length+1+(2^64-l.length-1)=2^64 by omega]at h;show (aB (aV lO (2^64) (l,A,())) _)=_;rw[h,aC]
def bSP {n:Int}:GH ([n],())=some (MH [n],()):=by
 have a:FH ([n],())=if n=0 then some (.inl ([],())) else some (.inr ([n],())):=(by show (bif eqI n 0 then _ else _)=_;rw[bN,yJ];rfl);show (aB (aV FH (2^64) ([n],())) _)=_;rw[show 2^64=18446744073709551614+1+1 by rfl,eF,a];by_cases h:n=0;subst h;rfl;rw[if_neg h];have:=aW1 [] h;show some ([n],())=some (MH [n],());grind
def bP7 {x:Int} (h:0<=x):x.tmod 1000000000=x%1000000000:=Int.tmod_eq_emod_of_nonneg h
def bQC {x:Int}(h:0<=x):x.tdiv 1000000000=x/1000000000:=Int.tdiv_eq_ediv_of_nonneg h
def bQI {p q}{n:Int}{at'}(hp:Pc p)(hq:Pc q)(hn:0<=n/\n<1000000000)(hl:at'+q.length<p.length)(hpl:p.length<=4000000) :
  aU7 (t:=.int .u64) fK p (q,n,(at':Int),())=some ((decide (0<(tkS q n at' p (q.length+1)).2.1),()),(tkS q n at' p (q.length+1)).1):=by
 have key:=aK (step:=fM) (N:=2^64) (λt=>((0,0,p.length),q,n,(at':Int),(tkS q n at' p t).2.1,(tkS q n at' p t).2.2,(t:Int),[(tkS q n at' p t).1],())) (q.length+1)
  ((tkS q n at' p (q.length+1)).2.1,[(tkS q n at' p (q.length+1)).1],()) Z (λt ht=>?_) ?_
 have key:aV fM (2^64) ((0,0,p.length),q,n,(at':Int),0,0,0,[p],())=_:=key;have hlen:=(tkI hp hq hn hl (q.length+1) (oM _)).len;unfold aU7 fK;simp only[wP,key,hlen,a8M,aF,zz]
 ·have hI:=tkI hp hq hn hl t Z;rw[tkS];generalize tkS q n at' p t=s at hI;have⟨l,bo,ca⟩:=s;have⟨h1,h2,h3,h4,h5,h6,h7⟩:=hI;dsimp only at h1 h2 h3 h4 h5 h6 h7 ⊢;have hx:=h1.get (at'+t);have hqt:=hq.get t;have hm:=aB4 hn hqt;have e1:ltI (q.length:Int) (t:Int)=false:=zf
  have e2:aA .i64 ((at':Int)+(t:Int))=((at'+t:Nat):Int):=by rw[wrap64 Z Z]; omega
  have e3:aE ((at'+t:Nat):Int) p.length=true:=zi
  have e4:Nat.blt (at'+t) l.length=true:=zk
  have e5:(0+(at'+t))*1=at'+t:=Z
  have e6:=bP t Z;have main:∀ c:Int,0<=c->c<1000000000000000000 ->
    (bif ltI (aA .i64 (aA .i64 (IntKind.wrap .i64 (l.getD (at'+t) 0)-IntKind.wrap .i64 (c.tmod 1000000000))-bo)) 0 then
     (some (Sum.inl ((0,0,p.length),q,n,(at':Int),1,aA .u64 (c.tdiv 1000000000),((t+1:Nat):Int),[l.set (at'+t) (IntKind.wrap .u64 (aA .i64 (aA .i64 (aA .i64 (IntKind.wrap .i64 (l.getD (at'+t) 0)-IntKind.wrap .i64 (c.tmod 1000000000))-bo)+1000000000)))],())):Option (Shape.den iA⊕AQ lZ))
    else some (Sum.inl ((0,0,p.length),q,n,(at':Int),0,aA .u64 (c.tdiv 1000000000),((t+1:Nat):Int),[l.set (at'+t) (IntKind.wrap .u64 (aA .i64 (aA .i64 (IntKind.wrap .i64 (l.getD (at'+t) 0)-IntKind.wrap .i64 (c.tmod 1000000000))-bo)))],()))) =
    some (Sum.inl ((0,0,p.length),q,n,(at':Int),(if l.getD (at'+t) 0-c%1000000000-bo<0 then 1 else 0),c/1000000000,((t+1:Nat):Int),[l.set (at'+t) (if l.getD (at'+t) 0-c%1000000000-bo<0 then l.getD (at'+t) 0-c%1000000000-bo+1000000000 else l.getD (at'+t) 0-c%1000000000-bo)],())):=by
   intro c c0 c1;have hd1:0<=c%1000000000/\c%1000000000<1000000000:=Z
   have hd2:0<=c/1000000000/\c/1000000000<1000000000:=Z
   rw[bP7 c0,bQC c0];generalize c%1000000000=cr at *;generalize c/1000000000=cq at *;rw[aAM (x:=l.getD (at'+t) 0) Z Z,aAM (x:=cr) Z Z,wrap64 (x:=l.getD (at'+t) 0-cr) Z Z,wrap64 (x:=l.getD (at'+t) 0-cr-bo) Z Z,AP (x:=cq) Z Z,aF,yJ]
   by_cases h:l.getD (at'+t) 0-cr-bo<0
   ·rw[if_pos h,if_pos h,if_pos h,wrap64 Z Z,bM9 Z Z]
   ·rw[if_neg h,if_neg h,if_neg h,bM9 Z Z]
  by_cases hqt':t<q.length
  ·have e7:ltI (t:Int) (q.length:Int)=true:=ze
   have e8:aE (t:Int) q.length=true:=zi
   have e9:aA .u64 (ca+aA .u64 (n*q.getD t 0))=ca+n*q.getD t 0:=(by rw[AP (x:=n*q.getD t 0) Z Z,AP Z Z]);rw[if_pos hqt',<- main (ca+n*q.getD t 0) Z Z];simp only[fM,e1,e2,e3,e4,e5,e6,e7,e8,e9,oN,aIJ,aGP,aH7,zz]
  ·have e7:ltI (t:Int) (q.length:Int)=false:=zf
   rw[if_neg hqt',<- main ca Z Z];simp only[fM,e1,e2,e3,e4,e5,e6,e7,oN,aIJ,aGP,aH7,zz]
 ·have e1:ltI (q.length:Int) ((q.length+1:Nat):Int)=true:=ze
  simp only[fM,e1,zz]
def back_eq {p q at'} (hp:Pc p) (hq:Pc q) (hl:at'+q.length<p.length) (hpl:p.length<=4000000) :
  aBW (t:=.int .u64) dT p (q,(at':Int),())=some (bkS q at' p (q.length+1)).1:=by
 have key:=aK (step:=fI) (N:=2^64) (λt=>((0,0,p.length),q,(at':Int),(bkS q at' p t).2,(t:Int),[(bkS q at' p t).1],())) (q.length+1)
  ([(bkS q at' p (q.length+1)).1],()) Z (λt ht=>?_) ?_
 have key:aV fI (2^64) ((0,0,p.length),q,(at':Int),0,0,[p],())=_:=key;have hlen:=(bkI hp hq hl (q.length+1) (oM _)).len;unfold aBW dT;simp only[wO,key,hlen,a8M,zz]
 ·have hI:=bkI hp hq hl t Z;rw[bkS];generalize bkS q at' p t=s at hI;have⟨l,ca⟩:=s;have⟨h1,h2,h3,h5,h6⟩:=hI;dsimp only at h1 h2 h3 h5 h6 ⊢;have hx:=h1.get (at'+t);have hqt:=hq.get t;have e1:ltI (q.length:Int) (t:Int)=false:=zf
  have e2:aA .i64 ((at':Int)+(t:Int))=((at'+t:Nat):Int):=by rw[wrap64 Z Z]; omega
  have e3:aE ((at'+t:Nat):Int) p.length=true:=zi
  have e4:Nat.blt (at'+t) l.length=true:=zk
  have e5:(0+(at'+t))*1=at'+t:=Z;have e6:=bP t Z;have e10:aA .u64 (ca+l.getD (at'+t) 0)=ca+l.getD (at'+t) 0:=AP Z Z;by_cases hqt':t<q.length
  ·have e7:ltI (t:Int) (q.length:Int)=true:=ze
   have e8:aE (t:Int) q.length=true:=zi
   have e9:aA .u64 (ca+l.getD (at'+t) 0+q.getD t 0)=ca+l.getD (at'+t) 0+q.getD t 0:=AP Z Z;have e11:aA .u64 ((ca+l.getD (at'+t) 0+q.getD t 0)/1000000000)=(ca+l.getD (at'+t) 0+q.getD t 0)/1000000000:=AP Z Z;rw[if_pos hqt'];simp only[fI,e1,e2,e3,e4,e5,e6,e7,e8,e9,e10,oN,aIJ,aGP,aH7,bQC (show 0<=ca+l.getD (at'+t) 0+q.getD t 0 by omega),bP7 (show 0<=ca+l.getD (at'+t) 0+q.getD t 0 by omega),e11,zz]
  ·have e7:ltI (t:Int) (q.length:Int)=false:=zf
   have e11:aA .u64 ((ca+l.getD (at'+t) 0)/1000000000)=(ca+l.getD (at'+t) 0)/1000000000:=AP Z Z;rw[if_neg hqt'];simp only[fI,e1,e2,e3,e4,e5,e6,e7,e10,oN,aIJ,aGP,aH7,bQC (show 0<=ca+l.getD (at'+t) 0 by omega),bP7 (show 0<=ca+l.getD (at'+t) 0 by omega),e11,zz]
 ·have e1:ltI (q.length:Int) ((q.length+1:Nat):Int)=true:=ze
  simp only[fI,e1,zz]
def bU8 {q o}{a:Int}{i}(ho:Pc o)(hq:Pc q)(ha:0<=a/\a<1000000000)(hl:i+q.length<=o.length)(hol:o.length<=4000000)(v17:List Int)(v18 v19:Int)(A:List (List Int)) :
  tG (q,o,(i:Int),a,0,v17,v18,v19,q,(q.length:Int),0,A,())=some (q,(tmI q a i o q.length).1,(i:Int),(tmI q a i o q.length).2,v17,v18,v19,A,()):=by
 refine aK (step:=lG) (N:=2^64) (λt=>(q,(tmI q a i o t).1,(i:Int),a,(tmI q a i o t).2,v17,v18,v19,q,(q.length:Int),(t:Int),A,())) q.length _ Z (λt ht=>?_) ?_
 ·have hI:=bGF ho hq ha hl t Z;rw[tmI];generalize tmI q a i o t=s at hI;have⟨l,ca⟩:=s;have⟨h1,h2,h3,h5,h6⟩:=hI;dsimp only at h1 h2 h3 h5 h6 ⊢;have hx:=h1.get (i+t);have hm:=aB4 ha (hq.get t);have e1:ltI (t:Int) (q.length:Int)=true:=ze
  have e2:aA .i64 ((i:Int)+(t:Int))=((i+t:Nat):Int):=by rw[wrap64 Z Z]; omega
  have e3:aE ((i+t:Nat):Int) l.length=true:=zi
  have e4:Nat.blt (i+t) l.length=true:=zk
  have e5:aE (t:Int) q.length=true:=zi
  have e6:=bP t Z;have e7:aA .u64 (a*q.getD t 0)=a*q.getD t 0:=AP Z Z;have e8:aA .u64 (l.getD (i+t) 0+a*q.getD t 0)=l.getD (i+t) 0+a*q.getD t 0:=AP Z Z;have e9:aA .u64 (ca+(l.getD (i+t) 0+a*q.getD t 0))=ca+(l.getD (i+t) 0+a*q.getD t 0):=AP Z Z;have e10:aA .u64 ((ca+(l.getD (i+t) 0+a*q.getD t 0))/1000000000)=(ca+(l.getD (i+t) 0+a*q.getD t 0))/1000000000:=AP Z Z;simp only[lG,e1,e2,e3,e4,e5,e6,e7,e8,e9,oC,oN,bQC (show 0<=ca+(l.getD (i+t) 0+a*q.getD t 0)by omega),bP7 (show 0<=ca+(l.getD (i+t) 0+a*q.getD t 0)by omega),e10]
 ·have e1:ltI (q.length:Int) (q.length:Int)=false:=zf
  simp only[lG,e1,oD]
def bIL a b (hl:(pcs a).length+(pcs b).length<=1048576) A:fS () (pcs a,pcs b,()) A=some (pcs (a*b),A):=by
 have⟨a1,a2,a3⟩:=kL a;have⟨b1,b2,b3⟩:=kL b;have htm:=bQ4 a b;generalize pcs a=p at *;generalize pcs b=q at *;have key:=aK (step:=lQ) (N:=2^64) (λt=>(q,tmO p q (List.replicate (p.length+q.length) 0) t,p,(p.length:Int),(t:Int),A,())) p.length
  (tmO p q (List.replicate (p.length+q.length) 0) p.length,A,()) Z (λt ht=>?_) ?_
 ·have key:tE (q,List.replicate (p.length+q.length) 0,p,(p.length:Int),0,A,())=_:=key;have e2:aA .i64 ((p.length:Int)+(q.length:Int))=((p.length+q.length:Nat):Int):=by rw[wrap64 Z Z]; omega
  have e3:ltI ((p.length+q.length:Nat):Int) 0=false:=zf
  have e4:ltI ((p.length+q.length:Nat):Int) ((p.length+q.length:Nat):Int)=false:=zf
  have e5:ltI 1048576 ((p.length+q.length:Nat):Int)=false:=zf
  have hlen:=(bED a1 b1 p.length (oM _)).2.1;unfold fS;simp only[e2,e3,e4,e5,oN,key,aOL (show (tmO p q (List.replicate (p.length+q.length) 0) p.length).length<=4000000 by omega),htm,zz]
 ·have⟨h1,h2,h3,h4⟩:=bED a1 b1 t Z;have hi:=bU8 (q:=q) (o:=tmO p q (List.replicate (p.length+q.length) 0) t) (a:=p.getD t 0) (i:=t) h1 b1 (a1.get t) Z Z p (p.length:Int) (t:Int) A;have hI:=(bGF h1 b1 (a1.get t) (i:=t) Z q.length (oM _)).len;rw[tmO];generalize tmO p q (List.replicate (p.length+q.length) 0) t=o at *;have e1:ltI (t:Int) (p.length:Int)=true:=ze
  have e2:aE (t:Int) p.length=true:=zi
  have e3:aA .i64 ((t:Int)+(q.length:Int))=((t+q.length:Nat):Int):=by rw[wrap64 Z Z]; omega
  have e4:aE ((t+q.length:Nat):Int) (tmI q (p.getD t 0) t o q.length).1.length=true:=zi
  have e5:Nat.blt (t+q.length) (tmI q (p.getD t 0) t o q.length).1.length=true:=zk
  have e6:=bP t Z;simp only[lQ,e1,e2,oN,hi,e3,e4,e5,e6,zz]
 ·have e1:ltI (p.length:Int) (p.length:Int)=false:=zf
  simp only[lQ,e1,oD]
def bIQ {n:Nat}(h:n<1000000000):MH [n]=pcs n:=VX (λx a=>by grind) (by rfl)
def bQ7 {n}(h:n<1000000000):(pcs n).length<=1:=aN1 Z
def bB5 a {n:Nat}(hn:n<1000000000)(b:(pcs a).length+1<=1048576) A:hZ () (pcs a,(n:Int),()) A=some (pcs (a*n),A):=by
 have:=bQ7 hn;show (aB (GH ([n],())) _)=_;rw[bSP,aC,bIQ hn];rw[bIL a n Z,aC]
def bJR a {n:Nat}(hn:0<n/\n<1000000000)(hl:(pcs a).length<=1048576) A:gR () (pcs a,(n:Int),()) A=some ((pcs (a/n),((a%n:Nat):Int),()),A):=by
 have⟨a1,a2,a3⟩:=kL a;have⟨s1,s2⟩:=bRJ a hn;generalize pcs a=p at *;have hn':0<(n:Int)/\(n:Int)<1000000000:=Z
 have key:=aK (step:=mW) (N:=2^64) (λt=>(p,(n:Int),(smS p n t).1,(smS p n t).2,(p.length:Int)-1-(t:Int),A,())) p.length
  ((smS p n p.length).1,(smS p n p.length).2,A,()) Z (λt ht=>?_) ?_
 ·rw[show (p.length:Int)-1-((0:Nat):Int)=(p.length:Int)-1 by omega]at key;have key:u9 (p,(n:Int),List.replicate p.length 0,0,(p.length:Int)-1,A,())=_:=key;have e2:aA .i64 ((p.length:Int)-1)=(p.length:Int)-1:=wrap64 Z Z;have e3:ltI (p.length:Int) 0=false:=zf
  have e4:ltI (p.length:Int) (p.length:Int)=false:=zf
  have e5:ltI 1048576 (p.length:Int)=false:=zf
  have hlen:=(smI a1 hn' p.length (oM _)).len;unfold gR;simp only[e2,e3,e4,e5,oN,key,aOL (show (smS p n p.length).1.length<=4000000 by omega),s1,s2,zz]
 ·have hI:=smI a1 hn' t Z;rw[smS];generalize smS p n t=s at hI;have⟨l,r⟩:=s;have⟨h1,h2,h3,h4,h5⟩:=hI;dsimp only at h1 h2 h3 h4 h5 ⊢;obtain⟨i,hi⟩:∃ i,p.length-1-t=i:=⟨_,rfl⟩;have ei:(p.length:Int)-1-(t:Int)=(i:Int):=Z
  have ei':(p.length:Int)-1-((t+1:Nat):Int)=(i:Int)-1:=Z
  rw[hi,ei,ei'];have hx:=a1.get i;have e1:ltI (i:Int) 0=false:=zf
  have e2:aE (i:Int) p.length=true:=zi
  have e3:eqI (n:Int) 0=false:=zh
  have e4:aE (i:Int) l.length=true:=zi
  have e5:Nat.blt i l.length=true:=zk
  have e6:aA .i64 ((i:Int)-1)=(i:Int)-1:=wrap64 Z Z;have e7:aA .u64 (r*1000000000)=r*1000000000:=AP Z Z;have e8:aA .u64 (r*1000000000+p.getD i 0)=r*1000000000+p.getD i 0:=AP Z Z;have e9:(r*1000000000+p.getD i 0).tdiv n=(r*1000000000+p.getD i 0)/n:=Int.tdiv_eq_ediv_of_nonneg Z;have e10:(r*1000000000+p.getD i 0).tmod n=(r*1000000000+p.getD i 0)%n:=Int.tmod_eq_emod_of_nonneg Z
  have q0:0<=(r*1000000000+p.getD i 0)/n:=Int.ediv_nonneg Z Z;have q1:(r*1000000000+p.getD i 0)/n<=r*1000000000+p.getD i 0:=Int.ediv_le_self _ Z;have e11:aA .u64 ((r*1000000000+p.getD i 0)/n)=(r*1000000000+p.getD i 0)/n:=AP q0 Z;simp only[mW,e1,e2,e3,e4,e5,e6,e7,e8,e9,e10,e11,oN,zz]
 ·have e1:ltI ((p.length:Int)-1-(p.length:Int)) 0=true:=ze
  simp only[mW,e1,zz]
def bLA {p q} (hp:Pc p) (a:Pc q) {i} (f:p.length=q.length) (hi:i<p.length) (he:p.drop (i+1)=q.drop (i+1)) (b:p.getD i 0<q.getD i 0):vl p<vl q:=by
 have h:=aH9 p (i+1) Z;have e:=aH9 q (i+1) Z;have c:=SA p i hi;have g:=SA q i Z;have n1:=aCL (hp.aVA i);have d:=zU (a.aVA i);rw[List.length_take,Nat.min_eq_left Z]at n1;have hm:(p.getD i 0+1)*pw i<=q.getD i 0*pw i:=Int.mul_le_mul_of_nonneg_right Z (Int.le_of_lt (aDO i));grind
def bUC {p q}(hp:Pc p)(e:Pc q)(f:p.length=q.length)(l:p.length<=4000000):∀ n,n<=p.length->p.drop n=q.drop n->∀ k,
  aV uY (n+1+k) (p,q,(n:Int)-1,())=some (if vl p<vl q then .inl (-1,()) else if vl q<vl p then .inl (1,()) else .inr ()):=by
 intro n;induction n with
 | zero =>
  intro _ he k;have d:p=q:=he;subst d;rw[show 0+1+k=k+1 by omega,eF,if_neg (Int.lt_irrefl _),if_neg (Int.lt_irrefl _)];rfl
 | succ n j =>
  intro h he k;rw[show n+1+1+k=(n+1+k)+1 by omega,eF];have r:((n+1:Nat):Int)-1=(n:Int):=Z
  rw[r];have o:ltI (n:Int) 0=false:=zf
  have i:aE (n:Int) p.length=true:=zi
  have g:aE (n:Int) q.length=true:=zi
  have m:aA .i64 ((n:Int)-1)=(n:Int)-1:=wrap64 Z Z;simp only[uY,o,i,g,m,oN,aF,yJ,zz]
  by_cases b:p.getD n 0<q.getD n 0
  ·have:=bLA hp e f Z he b;rw[if_pos b,if_pos this]
  ·rw[if_neg b]
   by_cases c:q.getD n 0<p.getD n 0
   ·have:=bLA e hp f.symm Z he.symm c;rw[if_pos c,if_neg Z,if_pos this]
   ·rw[if_neg c];refine j Z ?_ k;have a:p.getD n 0=q.getD n 0:=Z
    rw[oQ,List.getElem?_eq_getElem (show n<p.length by omega),oQ,List.getElem?_eq_getElem (show n<q.length by omega)]at a;rw[List.drop_eq_getElem_cons (show n<p.length by omega),List.drop_eq_getElem_cons (show n<q.length by omega),he];have a:p[n]=q[n]:=a;rw[a]
def bNS a b (s:(pcs a).length<=1048576)(r:(pcs b).length<=1048576):B8 (pcs a,pcs b,())=some (if a<b then -1 else if b<a then 1 else 0,()):=by
 have⟨o,a2,a3⟩:=kL a;have⟨p,t,m⟩:=kL b;have len:∀ {x y:Nat},(pcs x).length<(pcs y).length->x<y:=λ{x y} h=>by
  rcases oG x y with c|c
  ·exact c
  ·have f:(pcs y).length<=(pcs x).length:=by
    have⟨n,q,l⟩:=kL x;have:=aCL n;rw[l]at this;refine aN1 (k:=(pcs x).length) ?_;have e:((1000000000^(pcs x).length:Nat):Int)=pw (pcs x).length:=by unfold pw; rw[Int.natCast_pow]; rfl
    omega
   omega
 unfold B8;dsimp only;rw[bN];by_cases i:((pcs a).length:Int)=(pcs b).length;have g:(pcs a).length=(pcs b).length:=Z;have h:=bUC o p g Z (pcs a).length (oM _) (by rw[List.drop_of_length_le (oM _),List.drop_of_length_le Z]) (2^64-(pcs a).length-1);rw[show (pcs a).length+1+(2^64-(pcs a).length-1)=2^64 by omega,a3,m]at h;have d:aA .i64 (((pcs a).length:Int)-1)=((pcs a).length:Int)-1:=wrap64 Z Z;rw[oT i,d];show (aB (aV uY (2^64) (pcs a,pcs b,((pcs a).length:Int)-1,())) _)=_;rw[h,aC];by_cases c:a<b;rw[if_pos (show ((a:Nat):Int)<b by omega),if_pos c]; rfl;rw[if_neg (show ¬ ((a:Nat):Int)<b by omega),if_neg c];by_cases f:b<a;rw[if_pos (show ((b:Nat):Int)<a by omega),if_pos f]; rfl;rw[if_neg (show ¬ ((b:Nat):Int)<a by omega),if_neg f]; rfl;have d:aA .i64 (((pcs a).length:Int)-((pcs b).length:Int))=((pcs a).length:Int)-((pcs b).length:Int):=wrap64 Z Z;rw[oF i,d];rcases Nat.lt_or_gt_of_ne (show (pcs a).length≠(pcs b).length by omega)with h|h;have:=len h;rw[if_pos this];show some ((if (if (-1:Int)<((pcs a).length:Int)-((pcs b).length:Int) then ((pcs a).length:Int)-((pcs b).length:Int) else -1)<1 then (if (-1:Int)<((pcs a).length:Int)-((pcs b).length:Int) then ((pcs a).length:Int)-((pcs b).length:Int) else -1) else 1),())=_;rw[if_neg (show ¬ (-1:Int)<((pcs a).length:Int)-((pcs b).length:Int)by omega),if_pos O];have:=len h;have j:(if a<b then (-1:Int) else if b<a then 1 else 0)=1:=(by rw[if_neg Z,if_pos this]);rw[j];show some ((if (if (-1:Int)<((pcs a).length:Int)-((pcs b).length:Int) then ((pcs a).length:Int)-((pcs b).length:Int) else -1)<1 then (if (-1:Int)<((pcs a).length:Int)-((pcs b).length:Int) then ((pcs a).length:Int)-((pcs b).length:Int) else -1) else 1),())=_;rw[if_pos (show (-1:Int)<((pcs a).length:Int)-((pcs b).length:Int)by omega),if_neg Z]
def bWH u m j:10*(u/10^(m+1)%10^j)+u/10^m%10=u/10^m%10^(j+1):=by
 have e:u/10^(m+1)=u/10^m/10:=by rw[Nat.pow_succ,Nat.div_div_eq_div_mul]
 rw[e,Nat.pow_succ,Nat.mul_comm (10^j) 10,Nat.mod_mul];omega
def b00 u t:((Lib.dg u t).toNat)=48+((u/10^t%10:Nat):Int):=by
 unfold Lib.dg;rw[UInt8.toNat_ofNat'];omega
def bR2 u lo hi (c:lo<=hi)(b:hi<=Lib.nDigits u):aLK ((Dn u).extract lo hi)=(List.range (hi-lo)).map λj=>48+((u/10^(Lib.nDigits u-1-(lo+j))%10:Nat):Int):=by
 have e:((Dn u).extract lo hi).data.toList=((Lib.decDigits u).drop lo).take (hi-lo):=by rw[ByteArray.data_extract,Array.toList_extract,List.extract_eq_take_drop,NP]
 unfold aLK;rw[e,Lib.decDigits_eq];refine List.ext_getElem W λi d a=>?_
 simp only[List.getElem_map,List.getElem_take,List.getElem_drop,List.getElem_range];exact b00 u _
def bRU u {lo hi}(k:lo<=hi)(l:hi<=Lib.nDigits u)(s:hi-lo<=9)(v0:ByteArray)(v3:List Int)(v4:Int)(A:List (List Int)) :
  H6 (v0,v3,v4,0,aLK ((Dn u).extract lo hi),((aLK ((Dn u).extract lo hi)).length:Int),0,A,())=some (v0,v3,v4,((u/10^(Lib.nDigits u-hi)%10^(hi-lo):Nat):Int),A,()):=by
 rw[bR2 u lo hi k l];have hlen:((List.range (hi-lo)).map λj=>48+((u/10^(Lib.nDigits u-1-(lo+j))%10:Nat):Int)).length=hi-lo:=R
 rw[hlen];have key:=aK (step:=BG) (N:=2^64) (λt=>(v0,v3,v4,((u/10^(Lib.nDigits u-lo-t)%10^t:Nat):Int),((List.range (hi-lo)).map λj=>48+((u/10^(Lib.nDigits u-1-(lo+j))%10:Nat):Int)),((hi-lo:Nat):Int),(t:Int),A,())) (hi-lo)
  (v0,v3,v4,((u/10^(Lib.nDigits u-hi)%10^(hi-lo):Nat):Int),A,()) Z (λt ht=>?_) ?_
 ·have r:((u/10^(Lib.nDigits u-lo-0)%10^0:Nat):Int)=0:=by simp[Nat.mod_one]
  rw[r]at key;exact key
 ·have f:ltI (t:Int) ((hi-lo:Nat):Int)=true:=ze
  have c:aE (t:Int) (hi-lo)=true:=zi
  have g:((List.range (hi-lo)).map λj=>48+((u/10^(Lib.nDigits u-1-(lo+j))%10:Nat):Int)).getD t 0=48+((u/10^(Lib.nDigits u-1-(lo+t))%10:Nat):Int):=W
  obtain⟨m,hm⟩:∃ m,Lib.nDigits u-1-(lo+t)=m:=⟨_,rfl⟩;have e:Lib.nDigits u-lo-t=m+1:=Z
  have b:Lib.nDigits u-lo-(t+1)=m:=Z
  rw[hm]at g;rw[e,b,<- bWH u m t];have hd:u/10^m%10<10:=Nat.mod_lt _ O;have v:u/10^(m+1)%10^t<10^9:=by
   have w:10^t<=10^9:=Nat.pow_le_pow_right O Z;omega
  have h:(10:Nat)^9=1000000000:=O
  generalize u/10^m%10=d at *;generalize u/10^(m+1)%10^t=a at *;have p:aA .u8 (48+(d:Int)-48)=(d:Int):=by rw[bWC Z Z]; omega
  have n:IntKind.wrap .u64 (d:Int)=(d:Int):=bM9 Z Z;have o:aA .u64 (10*(a:Int))=10*(a:Int):=AP Z Z;have q:aA .u64 (10*(a:Int)+(d:Int))=((10*a+d:Nat):Int):=by rw[AP Z Z]; omega
  have i:=bP t Z;simp only[BG,f,c,g,p,n,o,q,i,hlen,oC,oN]
 ·have f:ltI ((hi-lo:Nat):Int) ((hi-lo:Nat):Int)=false:=zf
  have c:Lib.nDigits u-lo-(hi-lo)=Lib.nDigits u-hi:=Z
  simp only[BG,f,c,oD]
def bYD t:10^(9*t)=1000000000^t:=by rw[Nat.pow_mul]
def bD2 u:∀ t,vl ((List.range t).map λj=>((u/1000000000^j%1000000000:Nat)))=((u%1000000000^t:Nat))
 | 0=>by simp[vl,Nat.mod_one]
 | t+1=>by
  rw[List.range_succ,List.map_append,VQ,bD2 u t,List.length_map,List.length_range,Nat.pow_succ,Nat.mod_mul];have e:pw t=((1000000000^t:Nat):Int):=by unfold pw; rw[Int.natCast_pow]; rfl
  rw[e];simp only[List.map_cons,List.map_nil,vl,Int.mul_zero,Int.add_zero];rw[Int.natCast_add,Int.natCast_mul]
def aTB u (hu:Lib.nDigits u<=1000000) A:eS () (Dn u,()) A=some (pcs u,A):=by
 have e:=R2 u;generalize c:Lib.nDigits u=a at *;obtain⟨T,D⟩:∃ T,T=(a+8)/9:=⟨_,rfl⟩;have key:=aK (step:=BZ) (N:=2^64) (λt=>(Dn u,((List.range t).map λj=>((u/1000000000^j%1000000000:Nat):Int)),(a:Int)-9*(t:Int),A,())) T
  ((List.range T).map λj=>((u/1000000000^j%1000000000:Nat):Int),A,()) Z (λt ht=>?_) ?_
 ·have key:IK (Dn u,List.replicate 0 0,(a:Int),A,())=some ((List.range T).map (λj=>((u/1000000000^j%1000000000:Nat):Int)),A,()):=(by exact key)
  have f:((a:Nat):Int).tdiv 9=((a/9:Nat):Int):=rfl;have i:aA .i64 ((a/9:Nat):Int)=((a/9:Nat):Int):=wrap64 Z Z;have p:=bP (a/9) Z;have m:ltI ((a/9+1:Nat):Int) 0=false:=zf
  have l:ltI 1048576 ((a/9+1:Nat):Int)=false:=zf
  have ht:MH ((List.range T).map λj=>((u/1000000000^j%1000000000:Nat):Int))=pcs u:=(by refine VX (λx C=>?_) ?_;grind;rw[bD2,Nat.mod_eq_of_lt];have k:=Lib.lt_pow_nDigits u;have n:(10:Nat)^a<=10^(9*T):=Nat.pow_le_pow_right O Z;rw[bYD]at n;grind);unfold eS;simp only[e,f,i,p,m,l,key,aOL (show ((List.range T).map λj=>((u/1000000000^j%1000000000:Nat):Int)).length<=4000000 by simp; omega),ht,zz]
 ·obtain⟨hi,y⟩:∃ hi:Nat,hi=a-9*t:=⟨_,rfl⟩;obtain⟨lo,w⟩:∃ lo:Nat,lo=hi-9:=⟨_,rfl⟩;have o:(a:Int)-9*(t:Int)=(hi:Int):=Z;have b:(a:Int)-9*((t+1:Nat):Int)=(hi:Int)-9:=Z
  rw[o,b];have f:ltI 0 (hi:Int)=true:=ze
  have i:aA .i64 ((hi:Int)-9)=(hi:Int)-9:=wrap64 Z Z;have p:(if 0<(hi:Int)-9 then (hi:Int)-9 else 0)=(lo:Int):=(by by_cases h:0<(hi:Int)-9;rw[if_pos h]; omega;rw[if_neg h]; omega)
  have m:ltI (lo:Int) 0=false:=zf
  have l:ltI (hi:Int) 0=false:=zf
  have r:Nat.ble lo hi=true:=zm
  have s:Nat.ble hi a=true:=zm
  have g:=bRU u (lo:=lo) (hi:=hi) Z Z Z (Dn u) ((List.range t).map λj=>((u/1000000000^j%1000000000:Nat):Int)) (hi:Int) A;have d:u/10^(Lib.nDigits u-hi)%10^(hi-lo)=u/1000000000^t%1000000000:=(by rw[c,show a-hi=9*t by omega,bYD];by_cases h:9<=hi;rw[show hi-lo=9 by omega];have k:=Lib.lt_pow_nDigits u;rw[c]at k;have n:u/1000000000^t<10^hi:=(by rw[Nat.div_lt_iff_lt_mul (Nat.pow_pos O),<- bYD,<- Nat.pow_add,show hi+9*t=a by omega];exact k);have z:(10:Nat)^hi<=10^9:=Nat.pow_le_pow_right O Z;have B:(10:Nat)^9=1000000000:=O;rw[show hi-lo=hi by omega,Nat.mod_eq_of_lt n,Nat.mod_eq_of_lt Z])
  rw[d]at g;have q:Nat.ble [((u/1000000000^t%1000000000:Nat):Int)].length 1048576=true:=rfl;have v:Nat.ble ((List.range t).map λj=>((u/1000000000^j%1000000000:Nat):Int)).length 1048576=true:=by rw[eL]; simp; omega
  simp only[BZ,e,f,i,p,m,l,r,s,q,v,oN,g,zz];rw[List.range_succ,List.map_append];rfl
 ·have f:ltI 0 ((a:Int)-9*(T:Int))=false:=zf
  simp only[BZ,f,oD]
def aUN(u:Nat):List Int:=(Lib.decDigits u).reverse.map λb=>(b.toNat:Int)
def bMY {u}(h:u<10):aUN u=[48+(u:Int)]:=by
 unfold aUN;rw[Lib.decDigits,dif_pos h];simp;omega
def bJD {u}(h:¬ u<10):aUN u=(48+((u%10:Nat):Int))::aUN (u/10):=by
 unfold aUN;rw[Lib.decDigits,dif_neg h];simp only[List.reverse_append,List.reverse_cons,List.reverse_nil,List.nil_append,List.cons_append,List.map_cons,List.cons.injEq,and_true];rw[UInt8.toNat_ofNat'];omega
def aRF u:(aUN u).length=Lib.nDigits u:=by simp[aUN,Lib.decDigits_length]
def aKW(x:Nat):Nat->List Int| 0=>[]| k+1=>aKW x k++[48+((x/10^k%10:Nat):Int)]
def a30 x:∀ k,(aKW x k).length=k| 0=>rfl| k+1=>by rw[aKW,oH,a30 x k]; rfl
def bC7 x:∀ k,aKW x (k+1)=(48+((x%10:Nat):Int))::aKW (x/10) k
 | 0=>by simp[aKW]
 | k+1=>by rw[aKW,bC7 x k,aKW,List.cons_append,Nat.pow_succ,Nat.mul_comm,<- Nat.div_div_eq_div_mul]
def bLE:∀ k u,10^k<=u->aUN u=aKW u k++aUN (u/10^k)
 | 0,u,_=>by simp[aKW]
 | k+1,u,h=>by
  have a:10^k<=u/10:=W
  have hp:1<=10^k:=Nat.one_le_pow _ _ R;rw[bJD Z,bC7,bLE k (u/10) a,List.cons_append,Nat.pow_succ,Nat.mul_comm,<- Nat.div_div_eq_div_mul]
def bIC x y:∀ k,k<=9->x%1000000000=y%1000000000->aKW x k=aKW y k
 | 0,_,_=>rfl
 | k+1,hk,h=>by
  rw[aKW,aKW,bIC x y k Z h];have key:∀ z ,z/10^k%10=z%1000000000/10^k%10:=λz=>by
   have e:1000000000=10^k*(10*10^(8-k)):=by rw[<- Nat.mul_assoc,<- Nat.pow_succ,<- Nat.pow_add,show k.succ+(8-k)=9 by omega]
   rw[e,Nat.mod_mul_right_div_self,Nat.mod_mul_right_mod]
  simp_all
def bRS(p:List Int) (v3:List Int) {i x:Nat} (hi:i+1<p.length) (hp:p.length<=4000000) (r:x<1000000000) (s:v3.length<=1000100) (c:List Int) (a b:Int) :
  sN (p,v3,(i:Int),(x:Int),0,c,a,b,())=some (p,v3++aKW x 9,c,a,b,()):=by
 have key:=aK (step:=eX) (N:=2^64) (λt=>(p,v3++aKW x t,(i:Int),((x/10^t:Nat):Int),(t:Int),c,a,b,())) 9
  (p,v3++aKW x 9,c,a,b,()) Z (λt ht=>?_) ?_
 have f:aKW x 0=[]:=rfl;rw[f,List.append_nil,Nat.pow_zero,Nat.div_one]at key;exact key
 ·have q:ltI (t:Int) 9=true:=ze
  have j:=bP i Z;have g:ltI ((i+1:Nat):Int) (p.length:Int)=true:=ze
  have u:x/10^t<=x:=Nat.div_le_self _ _;have k:x/10^(t+1)=x/10^t/10:=(by rw[Nat.pow_succ,Nat.div_div_eq_div_mul]);rw[k,aKW,<- List.append_assoc];generalize x/10^t=y at *;have l:((y:Nat):Int).tmod 10=((y%10:Nat):Int):=rfl;have m:((y:Nat):Int).tdiv 10=((y/10:Nat):Int):=rfl;have n:IntKind.wrap .u8 (aA .u64 (48+((y%10:Nat):Int)))=48+((y%10:Nat):Int):=(by rw[AP Z Z,bPL Z Z])
  have o:aA .u64 ((y/10:Nat):Int)=((y/10:Nat):Int):=AP Z Z;have h:=bP t Z;have d:Nat.ble [48+((y%10:Nat):Int)].length 1048576=true:=rfl;have e:Nat.ble (v3++aKW x t).length 1048576=true:=by rw[eL,oH,a30]; exact oT Z
  simp only[eX,q,j,g,l,m,n,o,h,d,e,oC]
 rfl
def bCP(p:List Int){i}(hi:p.length=i+1)(hp:p.length<=4000000)(c:List Int)(a b:Int):∀ (k x:Nat) (v3:List Int),0<x->x<10^k->k<=9->v3.length+k<=1000100->∀ N,
  aV eX (k+1+N) (p,v3,(i:Int),(x:Int),((9-k:Nat):Int),c,a,b,())=some (p,v3++aUN x,c,a,b,())
 | 0,x,v3,h0,h1,_,_,N=>W
 | k+1,x,v3,h0,h1,h9,hv,N=>by
  rw[show k+1+1+N=(k+1+N)+1 by omega,eF];have t:ltI ((9-(k+1):Nat):Int) 9=true:=ze
  have j:=bP i Z;have h:ltI ((i+1:Nat):Int) (p.length:Int)=false:=zf
  have u:ltI 0 (x:Int)=true:=ze
  have n:x<10^9:=Nat.lt_of_lt_of_le h1 (Nat.pow_le_pow_right O h9);have r:((x:Nat):Int).tmod 10=((x%10:Nat):Int):=rfl;have o:((x:Nat):Int).tdiv 10=((x/10:Nat):Int):=rfl;have q:IntKind.wrap .u8 (aA .u64 (48+((x%10:Nat):Int)))=48+((x%10:Nat):Int):=by rw[AP Z Z,bPL Z Z]
  have s:aA .u64 ((x/10:Nat):Int)=((x/10:Nat):Int):=AP Z Z;have m:aA .i64 (((9-(k+1):Nat):Int)+1)=((9-k:Nat):Int):=by rw[wrap64 Z Z]; omega
  have e:Nat.ble [48+((x%10:Nat):Int)].length 1048576=true:=rfl;have f:Nat.ble v3.length 1048576=true:=zm
  simp only[eX,t,j,h,u,r,o,q,s,m,e,f,zz]
  by_cases d:x<10
  ·have hz:x/10=0:=Z
   have hm:x%10=x:=Nat.mod_eq_of_lt d;rw[hz,hm,bMY d,show k+1+N=(k+N)+1 by omega,eF];have g:ltI 0 ((0:Nat):Int)=false:=rfl;cases l:ltI ((9-k:Nat):Int) 9 with
   | true=>simp only[eX,l,j,h,g,zz]
   | false=>simp only[eX,l,oD]
  ·rw[bJD d,bCP p hi hp c a b k (x/10) (v3++[48+((x%10:Nat):Int)]) Z (by rw[Nat.pow_succ]at h1; omega) Z (by rw[oH,List.length_singleton]; omega) N,List.append_assoc];rfl
def bAV u i:(pcs u).getD i 0=((u/1000000000^i%1000000000:Nat)):=by
 induction i generalizing u with
 | zero =>
  by_cases h:u=0
  ·subst h; rw[aQ5]; rfl
  ·rw[aYW h]; simp
 | succ i a =>
  by_cases h:u=0
  ·subst h; rw[aQ5]; simp
  ·rw[aYW h,List.getD_cons_succ,a,Nat.pow_succ,Nat.mul_comm,<- Nat.div_div_eq_div_mul]
def a4Q {u i}(h:i<(pcs u).length):0<u/1000000000^i:=by
 have:=b0U h;exact Nat.div_pos this (Nat.pow_pos R)
def bFZ {u i}(h:(pcs u).length<=i):u/1000000000^i=0:=by
 refine Nat.div_eq_of_lt ?_;have⟨a,b,c⟩:=kL u;have e:=aCL a;have d:=bGN h;grind
def aZL(u:Nat):Nat->List Int| 0=>[]| i+1=>if i+1<(pcs u).length then aZL u i++aKW (u/1000000000^i%1000000000) 9 else aZL u i++aUN (u/1000000000^i)
def a7T u:∀ i,i<(pcs u).length->aZL u i++aUN (u/1000000000^i)=aUN u
 | 0,_=>by simp[aZL]
 | i+1,h=>by
  have c:=a7T u i Z;have hp:=a4Q h;have e:u/1000000000^(i+1)=u/1000000000^i/1000000000:=by rw[Nat.pow_succ,Nat.div_div_eq_div_mul]
  have a:(10:Nat)^9=1000000000:=O
  have b:=bLE 9 (u/1000000000^i) Z;rw[a,<- e,<- bIC (u/1000000000^i%1000000000) (u/1000000000^i) 9 O (by rw[Nat.mod_mod])]at b;rw[aZL,if_pos h,List.append_assoc,<- b];exact c
def bVA {u}(h:0<(pcs u).length):aZL u (pcs u).length=aUN u:=by
 obtain⟨k,a⟩:∃ k,(pcs u).length=k+1:=⟨(pcs u).length-1,by omega⟩;rw[a,aZL,if_neg Z];exact a7T u k Z
def bVE u {i}(h:i<(pcs u).length):(aZL u i).length<=Lib.nDigits u:=by
 have:=oZ List.length (a7T u i h);rw[oH,aRF,aRF]at this;omega
def aWY {u}(hu:Lib.nDigits u<=1000000):(pcs u).length*9<=1000008:=by
 have b:=Lib.lt_pow_nDigits u;have a:10^Lib.nDigits u<=10^(9*((Lib.nDigits u+8)/9)):=Nat.pow_le_pow_right R Z;rw[bYD]at a;have:=aN1 (n:=u) (k:=(Lib.nDigits u+8)/9) Z;omega
def bQW u (hu:Lib.nDigits u<=1000000)(f:0<(pcs u).length):yY (pcs u,List.replicate 0 0,pcs u,((pcs u).length:Int),0,())=some (aUN u,()):=by
 have hlen:=aWY hu;have key:=aK (step:=mC) (N:=2^64) (λt=>(pcs u,aZL u t,pcs u,((pcs u).length:Int),(t:Int),())) (pcs u).length (aZL u (pcs u).length,()) Z (λt ht=>?_) ?_;rw[bVA f]at key;exact key
 ·have b:ltI (t:Int) ((pcs u).length:Int)=true:=ze
  have e:aE (t:Int) (pcs u).length=true:=zi
  have d:=bP t Z;have g:=bVE u ht;have c:u/1000000000^t%1000000000<1000000000:=Nat.mod_lt _ O;rw[aZL];by_cases h:t+1<(pcs u).length;have hi:=bRS (pcs u) (aZL u t) (i:=t) (x:=u/1000000000^t%1000000000) h Z c Z (pcs u) ((pcs u).length:Int) (t:Int);rw[if_pos h];simp only[mC,b,e,d,oN,bAV,hi,zz];have hz:u/1000000000^(t+1)=0:=bFZ Z;have hp:=a4Q ht;have hm:u/1000000000^t%1000000000=u/1000000000^t:=(by rw[Nat.pow_succ,<- Nat.div_div_eq_div_mul]at hz;grind);rw[hm]at c;have a:(10:Nat)^9=1000000000:=O;have hi:=bCP (pcs u) (i:=t) Z Z (pcs u) ((pcs u).length:Int) (t:Int) 9 (u/1000000000^t) (aZL u t) hp (by rw[a]; exact c) (oM _) Z (2^64-10);have hi:sN (pcs u,aZL u t,(t:Int),((u/1000000000^t:Nat):Int),0,pcs u,((pcs u).length:Int),(t:Int),())=_:=hi;rw[if_neg h];simp only[mC,b,e,d,oN,bAV,hm,hi,zz]
 ·have b:ltI ((pcs u).length:Int) ((pcs u).length:Int)=false:=zf
  simp only[mC,b,oD]
def bGD(l:List Int):Nat->List Int| 0=>l| t+1=>((bGD l t).set t (l.getD (l.length-1-t) 0)).set (l.length-1-t) (l.getD t 0)
def a1J l:∀ t,2*t<=l.length->(bGD l t).length=l.length/\∀ x,x<l.length->(bGD l t).getD x 0=if x<t\/l.length-1-t<x then l.getD (l.length-1-x) 0 else l.getD x 0
 | 0,_=>⟨rfl,λx a=>by rw[if_neg Z]; rfl⟩
 | t+1,h=>by
  have⟨b,c⟩:=a1J l t Z;refine⟨by rw[bGD,List.length_set,List.length_set,b],λx a=>?_⟩;rw[bGD];grind
def bUV l:bGD l (l.length/2)=l.reverse:=by
 have⟨d,c⟩:=a1J l (l.length/2) Z;refine List.ext_getElem W λx a b=>?_;grind
def bMM {l:List Int}(q:l.length<=4000000):aBW (t:=.int .u8) fN l ()=some l.reverse:=by
 have key:=aK (step:=iS) (N:=2^64) (λt=>((0,0,l.length),(t:Int),(l.length:Int)-1-(t:Int),[bGD l t],())) (l.length/2) ([l.reverse],()) Z (λt ht=>?_) ?_;have key:pU ((0,0,l.length),0,(l.length:Int)-1,[l],())=some ([l.reverse],()):=(by rw[show (l.length:Int)-1-((0:Nat):Int)=(l.length:Int)-1 by omega]at key;exact key);have a:aA .i64 (((l.length:Nat):Int)-1)=(l.length:Int)-1:=wrap64 Z Z;unfold aBW fN;simp only[a,key,List.length_reverse,a8M,zz]
 ·have⟨p,d⟩:=a1J l t Z;obtain⟨j,o⟩:∃ j:Nat,l.length-1-t=j:=⟨_,rfl⟩;have f:(l.length:Int)-1-(t:Int)=(j:Int):=Z;have b:(l.length:Int)-1-((t+1:Nat):Int)=(j:Int)-1:=Z
  have g1:=d t Z;have g2:=d j Z;rw[if_neg Z]at g1 g2;rw[bGD,f,b,o];generalize bGD l t=r at *;have c:ltI (t:Int) (j:Int)=true:=ze
  have a:aE (t:Int) l.length=true:=zi
  have e:aE (j:Int) l.length=true:=zi
  have m:Nat.blt t r.length=true:=zk
  have i:Nat.blt j r.length=true:=zk
  have k:(0+t)*1=t:=Z;have n:(0+j)*1=j:=Z;have g:=bP t Z;have h:aA .i64 ((j:Int)-1)=(j:Int)-1:=wrap64 Z Z;simp only[iS,c,a,e,m,i,k,n,g,h,oC,oN,aIJ,aGP,aH7,List.length_set,g1,g2]
 ·have c:ltI ((l.length/2:Nat):Int) ((l.length:Int)-1-((l.length/2:Nat):Int))=false:=zf
  simp only[iS,c,oD,bUV]
def bLV(L:List UInt8):a7M (L.map λb=>b.toNat)=⟨L.toArray⟩:=by
 have key:∀ (L:List UInt8) (r:ByteArray),(L.map λb=>(b.toNat:Int)).foldl (λr n=>r.push (UInt8.ofNat n.toNat)) r=⟨r.data++L.toArray⟩:=by
  intro L;induction L with
  | nil=>simp
  | cons b L a =>
   simp_all
 unfold a7M;simp_all
def aZP u (hu:Lib.nDigits u<=1000000):dK (pcs u,())=some (Dn u,()):=by
 have hlen:=aWY hu;unfold dK;dsimp only;rw[bN];by_cases a:u=0;subst a;rw[aQ5,oT (by rfl),oC,b03]
 ·have hp:0<(pcs u).length:=by rw[aYW a]; simp
  have c:aA .i64 (9*((pcs u).length:Int))=((9*(pcs u).length:Nat):Int):=by rw[wrap64 Z Z]; omega
  have d:ltI ((9*(pcs u).length:Nat):Int) 0=false:=(by rfl)
  have b:ltI 1048576 ((9*(pcs u).length:Nat):Int)=false:=by rw[aF]; grind
  rw[oF Z,oD,c,d,b];rw[bQW u hu hp,aC];rw[bMM (by rw[aRF]; omega),aC];unfold aUN;rw[<- List.map_reverse,List.reverse_reverse,bLV];rfl
def bTK k:pw k=((1000000000^k:Nat)):=by rfl
def a9S u:u<1000000000^(pcs u).length:=by
 have⟨a,b,c⟩:=kL u;have:=aCL a;grind
def aM5 {x y}(h:x<=y):(pcs x).length<=(pcs y).length:=aN1 (Nat.lt_of_le_of_lt h (a9S y))
def bPF {u k}(h:(pcs u).length=k+1):0<(pcs u).getD k 0:=by
 have⟨a,b,c⟩:=kL u;have d:pcs u≠[]:=λe=>W
 have g:=b _ (List.getLast?_eq_some_getLast d);have f:=a.get k;grind
def bLK {a c out:List Int} {f n i2:Int} {i m:Nat} (A:List (List Int)) (X:Pc a) (R:Pc c) (M:c.length=m+2) (hn:n=((m+2:Nat):Int)) (q:i2=(i:Int)) (hl:i+m+2<a.length) (S:a.length<=4000000)
  {g0 d b:Int} (u:b=c.getD (m+1) 0) (B:0<b) {high:Int} (z:0<=high/\high<1000000000000000000) (l:g0=high/b) (o:d=high%b) {j:Nat} (T:(j:Int)<=g0)
  (Y:∀ t:Nat,t<j->aH6 b (c.getD m 0) (a.getD (i+m) 0) (g0-t) (d+t*b)) (H:¬ aH6 b (c.getD m 0) (a.getD (i+m) 0) (g0-j) (d+j*b)) :
  tA (f,a,c,n,out,i2,g0,d,A,())=some (f,a,c,n,out,i2,g0-j,A,()):=by
 subst hn; subst q;have F:g0<1000000000000000000:=by rw[l]; exact Int.lt_of_le_of_lt (Int.ediv_le_self _ z.1) z.2
 have U:0<=d:=by rw[o]; exact Int.emod_nonneg _ zN
 have W:d+b*g0=high:=by rw[l,o]; exact Int.emod_add_mul_ediv high b
 have k:∀ t:Nat,(t:Int)<=g0->0<=d+t*b/\d+t*b<=high:=λt ht=>by
  have Z:0<=(t:Int)*b:=Int.mul_nonneg zN zN;have h2:(t:Int)*b<=g0*b:=Int.mul_le_mul_of_nonneg_right ht zN;grind
 have P:aA .i64 (((m+2:Nat):Int)-1)=((m+1:Nat):Int):=by rw[wrap64 zN zN]; omega
 have C:aA .i64 (((m+2:Nat):Int)-2)=((m:Nat):Int):=by rw[wrap64 zN zN]; omega
 have V:aE ((m+1:Nat):Int) c.length=true:=zi
 have G:aE ((m:Nat):Int) c.length=true:=zi
 have E:aA .i64 (aA .i64 ((i:Int)+((m+2:Nat):Int))-2)=((i+m:Nat):Int):=by rw[wrap64 (x:=(i:Int)+((m+2:Nat):Int)) zN zN,wrap64 zN zN]; omega
 have I:aE ((i+m:Nat):Int) a.length=true:=zi
 have K:Nat.blt (i+m) a.length=true:=zk
 have D:=X.get (i+m);have v:=R.get m;have e:∀ g r:Int,0<=g->g<=g0->0<=r->r<=high->lW (f,a,c,((m+2:Nat):Int),out,(i:Int),g,r,A,()) =
   if aH6 b (c.getD m 0) (a.getD (i+m) 0) g r then some (.inl (f,a,c,((m+2:Nat):Int),out,(i:Int),aA .u64 (g-1),aA .u64 (r+b),A,())) else some (.inr (f,a,c,((m+2:Nat):Int),out,(i:Int),g,A,())):=by
  intro g r g1 g2 r1 r2;simp only[lW,P,C,V,G,E,I,K,oC,oN,aF,<- u,aYS,yJ]
  by_cases c1:1000000000<=g
  ·rw[if_pos (show ¬ g<1000000000 by omega),if_pos (.inl c1)]
  ·rw[if_neg (show ¬ ¬ g<1000000000 by omega)]
   by_cases c2:r<1000000000
   ·have hm:=aB4 (n:=g) (x:=c.getD m 0) zN v;have O:aA .u64 (r*1000000000)=r*1000000000:=AP zN zN;have L:aA .u64 (r*1000000000+a.getD (i+m) 0)=r*1000000000+a.getD (i+m) 0:=AP zN zN;have Q:aA .u64 (g*c.getD m 0)=g*c.getD m 0:=AP zN zN;rw[if_pos c2,O,L,Q]
    by_cases c3:r*1000000000+a.getD (i+m) 0<g*c.getD m 0
    ·rw[if_pos c3,if_pos (.inr ⟨c2,c3⟩)]
    ·rw[if_neg c3,if_neg (λh=>by rcases h with h|h; exact c1 h; exact c3 h.2)]
   ·rw[if_neg c2,if_neg (λh=>by rcases h with h|h; exact c1 h; exact c2 h.1)]
 have key:=aK (step:=lW) (N:=2^64) (λt=>(f,a,c,((m+2:Nat):Int),out,(i:Int),g0-(t:Int),d+(t:Int)*b,A,())) j (f,a,c,((m+2:Nat):Int),out,(i:Int),g0-j,A,()) zN (λt ht=>?_) ?_;rw[show g0-((0:Nat):Int)=g0 by omega,show d+((0:Nat):Int)*b=d by simp]at key;exact key
 ·have⟨s,p⟩:=k t zN;have⟨y,J⟩:=k (t+1) zN;have w:d+((t+1:Nat):Int)*b=d+(t:Int)*b+b:=by rw[Int.natCast_add,Int.add_mul]; simp[Int.add_assoc]
  rw[e _ _ zN zN s p,if_pos (Y t ht),w];rw[w]at y J;rw[AP (x:=g0-(t:Int)-1) zN zN,AP (x:=d+(t:Int)*b+b) y zN,show g0-(t:Int)-1=g0-((t+1:Nat):Int)by omega]
 have⟨s,p⟩:=k j zN;rw[e _ _ zN zN s p,if_neg H]
def bFN {a b out:List Int} {f:Int} {i m L:Nat} (A:List (List Int)) (w:Pc a) (q:Pc b) (l:b.length=m+2) (s:0<b.getD (m+1) 0) (P:a.length=L) (hl:i+m+2<L) (hL:L<=4000000)
  (hol:out.length=L-(m+2)) (S:out.getD i 0=0) (ho:Pc out) (hz:vl a<pw (i+1)*vl b) :
  ∃ c e,eP (f,a,b,((m+2:Nat):Int),out,(i:Int),A,())=some (.inl (f,c,b,((m+2:Nat):Int),e,(i:Int)-1,A,())) /\
   Pc c/\c.length=L/\Pc e/\e.length=out.length/\vl c<pw i*vl b/\vl e*vl b+vl c=vl out*vl b+vl a/\∀ j,j<i->e.getD j 0=out.getD j 0:=by
 have x:=aCL q;rw[l]at x;have pP:=aDO i;have Q:0<vl b:=(by have:=(bOZ q (k:=m) (λj hj=>VH q x zN) zN).1;have V:0<(b.getD (m+1) 0*1000000000+b.getD m 0)*pw m:=Int.mul_pos (by have:=q.get m; omega) (aDO m);omega);have F:vl a<pw (i+m+3):=(by have V:pw (i+1)*vl b<=pw (i+1)*pw (m+2):=Int.mul_le_mul_of_nonneg_left (Int.le_of_lt x) (Int.le_of_lt (aDO _));rw[<- aV7,show i+1+(m+2)=i+m+3 by omega]at V;omega)
 have gs:=b2Q w q l s (i:=i) zN F;have hn:=zU w;have u:0<vl b*pw i:=Int.mul_pos Q pP;obtain⟨d,r⟩:∃ d,d=vl a/(vl b*pw i):=⟨_,rfl⟩;have q0:0<=d:=by rw[r]; exact Int.ediv_nonneg hn (Int.le_of_lt u)
 have q1:d*(vl b*pw i)<=vl a:=by rw[r]; exact Int.ediv_mul_le _ zN
 have Y:vl a<(d+1)*(vl b*pw i):=by rw[r]; exact Int.lt_ediv_add_one_mul_self _ u
 have U:d<1000000000:=(by rw[r];refine Int.ediv_lt_of_lt_mul u ?_;rw[WZ]at hz;have:1000000000*pw i*vl b=1000000000*(vl b*pw i):=zt;omega);have hx1:=w.get (i+m+2);have hx2:=w.get (i+m+1);obtain⟨high,o⟩:∃ high,high=a.getD (i+m+2) 0*1000000000+a.getD (i+m+1) 0:=⟨_,rfl⟩;rw[<- o]at gs;have p:0<=high/\high<1000000000000000000:=zN
 have⟨K,m1,m2,m3,m4,m5⟩:=gs.bZ7 q0 q1 Y U;have M:=bLK (f:=f) (n:=((m+2:Nat):Int)) (i2:=(i:Int)) (out:=out) A w q l rfl rfl zN zN rfl s p rfl rfl m1 m2 m3;have R:0<=high/b.getD (m+1) 0-(K:Int)/\high/b.getD (m+1) 0-(K:Int)<1000000000:=⟨by omega,by
  rcases Int.lt_or_le (high/b.getD (m+1) 0-(K:Int)) 1000000000 with h|h
  ·exact h
  ·exact absurd (.inl h) m3⟩
 obtain⟨g,T⟩:∃ g,g=high/b.getD (m+1) 0-(K:Int):=⟨_,rfl⟩;rw[<- T]at M m4 m5 R;have tr:=bMP (i:=i) (n:=m+2) w q l zN (by rw[show i+(m+2)+1=i+m+3 by omega]; exact F) R q1 Y m4 m5;have v:=bQI (n:=g) (at':=i) w q R zN zN;rw[l]at v;-- the operations
 have e1:ltI (i:Int) 0=false:=zf
 have Z:aA .i64 ((i:Int)+((m+2:Nat):Int))=((i+m+2:Nat):Int):=by rw[wrap64 zN zN]; omega
 have e3:aE ((i+m+2:Nat):Int) a.length=true:=zi
 have e4:Nat.blt (i+m+2) a.length=true:=zk
 have e5:aA .i64 (((i+m+2:Nat):Int)-1)=((i+m+1:Nat):Int):=by rw[wrap64 zN zN]; omega
 have e6:aE ((i+m+1:Nat):Int) a.length=true:=zi
 have e7:Nat.blt (i+m+1) a.length=true:=zk
 have W:aA .i64 (((m+2:Nat):Int)-1)=((m+1:Nat):Int):=by rw[wrap64 zN zN]; omega
 have e9:aE ((m+1:Nat):Int) b.length=true:=zi
 have J:eqI (b.getD (m+1) 0) 0=false:=zh
 have z:aA .u64 (a.getD (i+m+2) 0*1000000000)=a.getD (i+m+2) 0*1000000000:=AP zN zN;have I:aA .u64 (a.getD (i+m+2) 0*1000000000+a.getD (i+m+1) 0)=high:=(by rw[AP zN zN,o])
 have H:high.tdiv (b.getD (m+1) 0)=high/b.getD (m+1) 0:=Int.tdiv_eq_ediv_of_nonneg p.1;have E:high.tmod (b.getD (m+1) 0)=high%b.getD (m+1) 0:=Int.tmod_eq_emod_of_nonneg p.1;have O:0<=high/b.getD (m+1) 0:=Int.ediv_nonneg p.1 zN;have hq1:high/b.getD (m+1) 0<=high:=Int.ediv_le_self _ p.1;have G:aA .u64 (high/b.getD (m+1) 0)=high/b.getD (m+1) 0:=AP O zN;have y:aE (i:Int) out.length=true:=zi
 have B:Nat.blt i out.length=true:=zk
 have C:aA .i64 ((i:Int)-1)=(i:Int)-1:=wrap64 zN zN;have D:pw i*vl b=vl b*pw i:=Int.mul_comm _ _;have fin:∀ t:List Int,Pc t->t.length=a.length->vl t=vl a-d*(vl b*pw i) ->
   Pc t/\t.length=L/\Pc (out.set i d)/\(out.set i d).length=out.length/\vl t<pw i*vl b/\vl (out.set i d)*vl b+vl t=vl out*vl b+vl a/\∀ j,j<i->(out.set i d).getD j 0=out.getD j 0:=by
  intro t p1 p2 X;refine⟨p1,p2.trans P,ho.set ⟨q0,U⟩ _,List.length_set,?_,?_,λj hj=>Go.De.getD_set_ne _ _ zN⟩
  ·rw[X,D];have:(d+1)*(vl b*pw i)=d*(vl b*pw i)+vl b*pw i:=zt
   omega
  ·rw[aXD out i d zN,S,X];grind
 rcases tr with ⟨t1,t2,t3,t4,t5⟩|⟨t1,t2,t3,t4,t5,t6,t7⟩;refine⟨(tkS b g i a (m+2+1)).1,out.set i d,?_,fin _ t3 t4 t5⟩;rw[t1]at v;have d0:decide ((0:Int)<0)=false:=rfl;rw[d0,t2]at v;rw[t2]at M ⊢;simp only[eP,e1,Z,e3,e4,e5,e6,e7,W,e9,J,z,I,H,E,G,oN,M,v,y,B,C,zz]
 ·refine⟨(bkS b i (tkS b g i a (m+2+1)).1 (m+2+1)).1,out.set i d,?_,fin _ t5 t6 t7⟩;have be:=back_eq (at':=i) t3 q zN zN;rw[l]at be;rw[t1]at v;have d0:decide ((0:Int)<1)=true:=rfl;rw[d0]at v;have N:aA .u64 (g-1)=d:=by rw[AP zN zN]; omega
  simp only[eP,e1,Z,e3,e4,e5,e6,e7,W,e9,J,z,I,H,E,G,oN,M,v,be,y,B,C,N,zz]
def bQQ(a b:Nat)(hb2:2<=(pcs b).length)(H:b<=a)(hl:(pcs a).length<=500000)(A:List (List Int)):iX () (pcs a,pcs b,()) A=some ((pcs (a/b),pcs (a%b),()),A):=by
 obtain⟨m,hm⟩:∃ m,(pcs b).length=m+2:=⟨(pcs b).length-2,by omega⟩;have hba:=aM5 H;have E:=bPF (u:=b) (k:=m+1) hm;have G:0<b:=(by rcases Nat.eq_zero_or_pos b with h|h;subst h; rw[aQ5]at hm; cases hm;exact h)
 have U:=((kL b).1.get (m+1)).2;obtain⟨top,g⟩:∃ top:Nat,(pcs b).getD (m+1) 0=top:=⟨((pcs b).getD (m+1) 0).toNat,by omega⟩;rw[g]at E U;obtain⟨f,hf⟩:∃ f:Nat,f=1000000000/(top+1):=⟨_,rfl⟩;have d:1<=f:=by rw[hf]; exact Nat.div_pos zN zN
 have V:(top+1)*f<=1000000000:=by rw[hf]; exact Nat.mul_div_le _ _
 have l:f<1000000000:=(by have:2*f<=(top+1)*f:=Nat.mul_le_mul_right _ zN;omega);-- the divisor keeps its length
 have o:(pcs (b*f)).length=m+2:=by
  have h1:b<(top+1)*1000000000^(m+1):=by
   have:=(bW1 (kL b).1 (k:=m+1) (λj hj=>VH (kL b).1 (k:=m+2) (by have:=aCL (kL b).1; rw[hm]at this; exact this) zN) zN).2;rw[(kL b).2.2,g,bTK]at this;have e:((top:Int)+1)*((1000000000^(m+1):Nat):Int)=(((top+1)*1000000000^(m+1):Nat):Int):=by rw[Int.natCast_mul]; rfl
   omega
  have h2:b*f<1000000000^(m+2):=(by have W:b*f<(top+1)*1000000000^(m+1)*f:=Nat.mul_lt_mul_of_pos_right h1 d;have X:(top+1)*1000000000^(m+1)*f=(top+1)*f*1000000000^(m+1):=(by rw[Nat.mul_right_comm]);have h5:(top+1)*f*1000000000^(m+1)<=1000000000*1000000000^(m+1):=Nat.mul_le_mul_right _ V;have h6:1000000000^(m+2)=1000000000*1000000000^(m+1):=(by rw[Nat.pow_succ,Nat.mul_comm]);omega);have W:=aN1 h2;have X:=aM5 (show b<=b*f from Nat.le_mul_of_pos_right b d);omega
 have haf:=aM5 (show a<=a*f from Nat.le_mul_of_pos_right a d);have habf:=aM5 (show b*f<=a*f from Nat.mul_le_mul_right f H);have hafl:(pcs (a*f)).length<=(pcs a).length+1:=(by refine aN1 ?_;rw[Nat.pow_succ];exact Nat.mul_lt_mul'' (a9S a) l);have⟨x1,x2,x3⟩:=kL (a*f);have⟨M,y2,y3⟩:=kL (b*f);obtain⟨L,hL⟩:∃ L,L=(pcs (a*f)).length+1:=⟨_,rfl⟩;have ha1:Pc (pcs (a*f)++[0]):=x1.append (λx hx=>by rw[List.mem_singleton.1 hx]; decide);have v:(pcs (a*f)++[0]).length=L:=(by simp[hL])
 have F:vl (pcs (a*f)++[0])=((a*f:Nat):Int):=by rw[VQ,x3]; simp[vl]
 have B:=bPF (u:=b*f) (k:=m+1) o;have J:0<vl (pcs (b*f)):=by rw[y3]; have:=Nat.mul_pos G d; omega
 -- the rounds
 have rounds:=b2M (step:=eP) (N:=2^64)
  (Z:=λz=>∃ c out,z=((f:Int),c,out,A,())/\Pc c/\c.length=L/\Pc out/\out.length=L-(m+2)/\vl c<vl (pcs (b*f))/\vl out*vl (pcs (b*f))+vl c=((a*f:Nat):Int))
  (λt y=>∃ c out,y=((f:Int),c,pcs (b*f),((m+2:Nat):Int),out,((L-(m+2):Nat):Int)-1-(t:Int),A,())/\Pc c/\c.length=L/\Pc out/\out.length=L-(m+2)/\vl c<pw (L-(m+2)-t)*vl (pcs (b*f))/\vl out*vl (pcs (b*f))+vl c=((a*f:Nat):Int)/\∀ j,j<L-(m+2)-t->out.getD j 0=0)
  (L-(m+2)) ((f:Int),pcs (a*f)++[0],pcs (b*f),((m+2:Nat):Int),List.replicate (L-(m+2)) 0,((L-(m+2):Nat):Int)-1,A,()) zN ?_ ?_ ?_
 ·obtain⟨z,z1,c,out,rfl,c1,c2,c3,c4,c5,C⟩:=rounds;have z1:tD ((f:Int),pcs (a*f)++[0],pcs (b*f),((m+2:Nat):Int),List.replicate (L-(m+2)) 0,((L-(m+2):Nat):Int)-1,A,())=_:=z1;obtain⟨r,hr⟩:∃ r:Nat,vl c=r:=⟨(vl c).toNat,by have:=zU c1; omega⟩;obtain⟨q,hq⟩:∃ q:Nat,vl out=q:=⟨(vl out).toNat,by have:=zU c3; omega⟩;rw[hr,hq,y3]at C;rw[hr,y3]at c5;have e:q*(b*f)+r=a*f:=by
   have:((q*(b*f)+r:Nat):Int)=((a*f:Nat):Int):=by rw[Int.natCast_add,Int.natCast_mul]; exact C
   exact Int.ofNat_inj.1 this
  have p:r<b*f:=zN;have D:0<b*f:=Nat.mul_pos G d;have hq':q=a/b:=(by have:a*f/(b*f)=q:=(by rw[<- e,Nat.mul_comm q,Nat.mul_add_div D,Nat.div_eq_of_lt p,Nat.add_zero]);rw[<- this,Nat.mul_div_mul_right _ _ d]);have Y:r=a%b*f:=(by have:a*f%(b*f)=r:=(by rw[<- e,Nat.mul_comm q,Nat.mul_add_mod,Nat.mod_eq_of_lt p]);rw[<- this,Nat.mul_mod_mul_right]);have t1:MH c=pcs r:=VX c1 hr;have t2:MH out=pcs q:=VX c3 hq;have Q:(pcs r).length<=1048576:=(by have:=aM5 (show r<=a*f by omega);omega);have sm:=bJR r (n:=f) ⟨d,l⟩ Q A;have hrf:r/f=a%b:=(by rw[Y,Nat.mul_div_cancel _ d]);rw[hrf]at sm;-- the first operations
  have w1:aA .i64 (((m+2:Nat):Int)-1)=((m+1:Nat):Int):=by rw[wrap64 zN zN]; omega
  have w2:aE ((m+1:Nat):Int) (m+2)=true:=zi
  have w3:aA .u64 ((top:Int)+1)=((top+1:Nat):Int):=by rw[AP zN zN]; omega
  have w4:eqI ((top+1:Nat):Int) 0=false:=zh
  have w5:(1000000000:Int).tdiv ((top+1:Nat):Int)=(f:Int):=by rw[hf]; rfl
  have w6:aA .u64 (f:Int)=(f:Int):=AP zN zN;have s1:=bB5 a (n:=f) l zN A;have s2:=bB5 b (n:=f) l zN A;have w7:Nat.ble [(0:Int)].length 1048576=true:=rfl;have w8:Nat.ble (pcs (a*f)).length 1048576=true:=zm
  have w9:tB (pcs a,(f:Int),pcs (a*f)++[0],pcs (b*f),((m+2:Nat):Int),A,())=some ((f:Int),pcs (a*f)++[0],pcs (b*f),((m+2:Nat):Int),A,()):=by
   show aV tF (2^64) _=_;rw[show (2:Nat)^64=18446744073709551615+1 by rfl,eF];have:ltI ((pcs a).length:Int) (L:Int)=true:=ze
   simp only[tF,v,this,zz]
  have S:aA .i64 ((L:Int)-((m+2:Nat):Int))=((L-(m+2):Nat):Int):=by rw[wrap64 zN zN]; omega
  have T:ltI ((L-(m+2):Nat):Int) 0=false:=zf
  have P:ltI ((L-(m+2):Nat):Int) ((L-(m+2):Nat):Int)=false:=zf
  have R:ltI 1048576 ((L-(m+2):Nat):Int)=false:=zf
  have w14:aA .i64 (((L-(m+2):Nat):Int)-1)=((L-(m+2):Nat):Int)-1:=wrap64 zN zN;unfold iX;simp only[hm,w1,w2,oN,g,w3,w4,w5,w6,s1,w7,w8,s2,o,w9,v,S,T,P,R,w14,z1,aOL (show c.length<=4000000 by omega),t1,sm,aOL (show out.length<=4000000 by omega),t2,hq',zz];rfl
 ·refine⟨_,_,by rw[show ((L-(m+2):Nat):Int)-1-((0:Nat):Int)=((L-(m+2):Nat):Int)-1 by omega],ha1,v,Pc.rep _,by simp,?_,by rw[aPT,F]; simp,λj hj=>by simp[oQ,List.getElem?_replicate]; split <;> rfl⟩;rw[F,<- x3,Nat.sub_zero];have h1:=aCL x1;have h2:=(bW1 M (k:=m+1) (λj hj=>VH M (k:=m+2) (by have:=aCL M; rw[o]at this; exact this) zN) zN).1;have W:pw (m+1)<=vl (pcs (b*f)):=by
   have:1*pw (m+1)<=(pcs (b*f)).getD (m+1) 0*pw (m+1):=Int.mul_le_mul_of_nonneg_right zN (Int.le_of_lt (aDO _));omega
  have X:pw (L-(m+2))*pw (m+1)<=pw (L-(m+2))*vl (pcs (b*f)):=Int.mul_le_mul_of_nonneg_left W (Int.le_of_lt (aDO _));rw[<- aV7,show L-(m+2)+(m+1)=(pcs (a*f)).length by omega]at X;omega
 rintro t y ht ⟨c,out,rfl,c1,c2,c3,c4,c5,C,K⟩;obtain⟨i,hi⟩:∃ i,i=L-(m+2)-t-1:=⟨_,rfl⟩;have ei:((L-(m+2):Nat):Int)-1-(t:Int)=(i:Int):=zN;have O:((L-(m+2):Nat):Int)-1-((t+1:Nat):Int)=(i:Int)-1:=zN;rw[show L-(m+2)-t=i+1 by omega]at c5 K;have⟨w,I,s,d1,d2,d3,d4,d5,d6,d7⟩:=bFN (f:=(f:Int)) A c1 M o B c2 (i:=i) zN zN c4 (K i zN) c3 c5;rw[ei];refine⟨_,s,w,I,by rw[O],d1,d2,d3,d4.trans c4,?_,d6.trans C,λj hj=>?_⟩;rw[show L-(m+2)-(t+1)=i by omega]; exact d5;rw[d7 j zN]; exact K j zN
 ·rintro y ⟨c,out,rfl,c1,c2,c3,c4,c5,C,K⟩;rw[Nat.sub_self,bEP,Int.one_mul]at c5;have e1:ltI (((L-(m+2):Nat):Int)-1-((L-(m+2):Nat):Int)) 0=true:=ze
  exact⟨_,by simp only[eP,e1,zz],c,out,rfl,c1,c2,c3,c4,c5,C⟩
end Go.PM
