/- Texts of one proof, joined (7). -/
import Derived.Lib.AtoiAllCases
import Derived.Test.YtmghkhgpkefgeaaGreatDoorQE6
set_option linter.unusedSimpArgs false
set_option linter.unusedVariables false
set_option maxRecDepth 100000
noncomputable section
namespace Go.PM
open Go Go.RowKit Go.Proofs
set_option maxHeartbeats 4000000
def NF(x:aH [.int .i64]):Option (aH [.bool]):=match x with
 | (v0,()) =>
  bif !(ltI v0 (-1000000000)) then
   some (!(ltI 1000000000 v0),())
  else some (false,())
theorem aVO:aY tP (bZ []):=bB trivial
theorem a0L:dK tP 146 _ _ NF:=by exact bO aI aVO Tryz.func146 (c:=aQ Tryz.f146) (by kernel_rfl) (aT:=aG Tryz.f146) (lt:=λ_=>none) (aD (lt:=λ_=>none) (l:=[]) (by kernel_rfl) trivial) (by rintro⟨v0,⟨⟩⟩; kernel_rfl)
abbrev aST:Ent:=⟨146,_,_,NF⟩
theorem aUC:Ent.OK tP aST:=a0L
def C1(x:aH [.int .i64]):Option (aH [.bool]):=match x with
 | (v0,()) =>
  aC (NF (v0,())) λy1 =>
  bif y1.1 then
   some (false,())
  else some (true,())
theorem aNZ:aY tP (bZ [aST]):=bB ⟨aUC,trivial⟩
theorem aRX:dK tP 145 _ _ C1:=by exact bO aI aNZ Tryz.func145 (c:=aQ Tryz.f145) (by kernel_rfl) (aT:=aG Tryz.f145) (lt:=λ_=>none) (aD (lt:=λ_=>none) (l:=[]) (by kernel_rfl) trivial) (by rintro⟨v0,⟨⟩⟩; kernel_rfl)
abbrev aK0:Ent:=⟨145,_,_,C1⟩
theorem aNI:Ent.OK tP aK0:=aRX
abbrev eN:List (Nat×Kd):=[(0,.list TyE),(1,.fn 145),(7,.int .i64),(8,.int .i64)]
abbrev gB:List (Ex×List (Nat×Kd)):=[(.ret,[(4,.int .i64)]),(.exit 0,[])]
def bE(x:Shape.den eN):Option (Shape.den eN⊕aS gB):=match x with
 | (v0,v1,v7,v8,()) =>
  bif ltI v8 v7 then
   bif aJ v8 v0.length then aC (C1 ((v0.getD v8.toNat 0),())) λy2 =>
   bif y2.1 then
    some (.inr (.inl (v8,())))
   else some (.inl (v0,(),v7,(aB .i64 (v8+1)),())) else none
  else some (.inr (.inr ((()))))
def fM(x:Shape.den eN):Option (aS gB):=bY bE (2^64) x
def fS(x:aH [.list TyE,.fn 145]):Option (aH [.int .i64]):=match x with
 | (v0,v1,()) =>
  aC (fM (v0,(),(v0.length:Int),0,())) λz3 =>
  zM z3 (λa4=>some (a4.1,())) λb5 =>
  some ((-1),())
def AL:Code:=aQ Tryz.f197
abbrev A5:Env:=bZ [aK0]
theorem wR:aY tP A5:=bB ⟨aNI,trivial⟩
def pX:Code:=eG AL 0
def zK(id:Nat):Option bI:=bif Nat.beq id 2 then some ⟨eN,gB,fM⟩ else none
theorem HK:∀ x,dY tP A5 19 (aG Tryz.f197) zK pX eN gB x=bE x:=by
 rintro⟨v0,v1,v7,v8,⟨⟩⟩
 kernel_rfl
theorem H8:cN tP 19 pX ⟨eN,gB,fM⟩:=by exact cL wR.callee aI.mixed _ (aD (l:=[]) (by kernel_rfl) trivial) HK
theorem LW:dK tP 197 _ _ fS:=by exact bO aI wR Tryz.func197 (c:=AL) (by kernel_rfl) (aT:=aG Tryz.f197) (lt:=zK) (aD (l:=[pX]) (by kernel_rfl) ⟨cK (i:=2) (by kernel_rfl) rfl H8,trivial⟩) (by rintro⟨v0,v1,⟨⟩⟩; kernel_rfl)
abbrev AO:Ent:=⟨197,_,_,fS⟩
theorem KB:Ent.OK tP AO:=LW
def dG(x:aH [.list TyE,.fn 145]):Option (aH [.bool]):=match x with
 | (v0,v1,()) =>
  aC (fS (v0,(),())) λy1 =>
  some (!(ltI y1.1 0),())
theorem HD:aY tP (bZ [AO]):=bB ⟨KB,trivial⟩
theorem I0:dK tP 144 _ _ dG:=by exact bO aI HD Tryz.func144 (c:=aQ Tryz.f144) (by kernel_rfl) (aT:=aG Tryz.f144) (lt:=λ_=>none) (aD (lt:=λ_=>none) (l:=[]) (by kernel_rfl) trivial) (by rintro⟨v0,v1,⟨⟩⟩; kernel_rfl)
abbrev wQ:Ent:=⟨144,_,_,dG⟩
theorem HR:Ent.OK tP wQ:=I0
def vT(x:aH [.list TyE]):Option (aH [.int .i64]):=match x with
 | (v0,()) =>
  bif ltI 64 (v0.length:Int) then
   some (4,())
  else aC (dG (v0,(),())) λy1 =>
  bif y1.1 then
   some (4,())
  else some (0,())
theorem aR7:aY tP (bZ [wQ]):=bB ⟨HR,trivial⟩
theorem aXS:dK tP 103 _ _ vT:=by exact bO aI aR7 Tryz.func103 (c:=aQ Tryz.f103) (by kernel_rfl) (aT:=aG Tryz.f103) (lt:=λ_=>none) (aD (lt:=λ_=>none) (l:=[]) (by kernel_rfl) trivial) (by rintro⟨v0,⟨⟩⟩; kernel_rfl)
abbrev Z5:Ent:=⟨103,_,_,vT⟩
theorem WS:Ent.OK tP Z5:=aXS
abbrev vI:List (Nat×Kd):=[(1,.int .i64),(8,.list TyD),(9,.int .i64),(10,.int .i64)]
abbrev BO:List (Ex×List (Nat×Kd)):=[(.ret,[(4,.int .i64)]),(.exit 0,[])]
def fU(x:Shape.den vI):Option (Shape.den vI⊕aS BO):=match x with
 | (v1,v8,v9,v10,()) =>
  bif ltI v10 v9 then
   bif aJ v10 v8.length then aC (vT ((v8.getD v10.toNat []),())) λy2 =>
   bif !(eqI y2.1 0) then
    some (.inr (.inl (y2.1,())))
   else bif !(eqI ((v8.getD v10.toNat []).length:Int) v1) then
    some (.inr (.inl (5,())))
   else some (.inl (v1,v8,v9,(aB .i64 (v10+1)),())) else none
  else some (.inr (.inr ((()))))
def vX(x:Shape.den vI):Option (aS BO):=bY fU (2^64) x
def vB(x:aH [.list TyD,.int .i64]):Option (aH [.int .i64]):=match x with
 | (v0,v1,()) =>
  aC (vX (v1,v0,(v0.length:Int),0,())) λz3 =>
  zM z3 (λa4=>some (a4.1,())) λb5 =>
  some (0,())
def aGZ:Code:=aQ Tryz.f177
abbrev aG0:Env:=bZ [Z5]
theorem YL:aY tP aG0:=bB ⟨WS,trivial⟩
def PJ:Code:=eG aGZ 0
def aET(id:Nat):Option bI:=bif Nat.beq id 2 then some ⟨vI,BO,vX⟩ else none
theorem aGF:∀ x,dY tP aG0 24 (aG Tryz.f177) aET PJ vI BO x=fU x:=by
 rintro⟨v1,v8,v9,v10,⟨⟩⟩
 kernel_rfl
theorem aHR:cN tP 24 PJ ⟨vI,BO,vX⟩:=by exact cL YL.callee aI.mixed _ (aD (l:=[]) (by kernel_rfl) trivial) aGF
theorem aRC:dK tP 177 _ _ vB:=by exact bO aI YL Tryz.func177 (c:=aGZ) (by kernel_rfl) (aT:=aG Tryz.f177) (lt:=aET) (aD (l:=[PJ]) (by kernel_rfl) ⟨cK (i:=2) (by kernel_rfl) rfl aHR,trivial⟩) (by rintro⟨v0,v1,⟨⟩⟩; kernel_rfl)
abbrev aG9:Ent:=⟨177,_,_,vB⟩
theorem aMB:Ent.OK tP aG9:=aRC
def s9(x:aH [.int .i64,.list TyD]):Option (aH [.int .i64]):=match x with
 | (v0,v1,()) =>
  bif ltI v0 0 then
   some (3,())
  else bif ltI 12 v0 then
   some (3,())
  else bif ltI 12 (v1.length:Int) then
   some (4,())
  else aC (vB (v1,v0,())) λy1 =>
  some (y1.1,())
theorem aKG:aY tP (bZ [aG9]):=bB ⟨aMB,trivial⟩
theorem aN8:dK tP 128 _ _ s9:=by exact bO aI aKG Tryz.func128 (c:=aQ Tryz.f128) (by kernel_rfl) (aT:=aG Tryz.f128) (lt:=λ_=>none) (aD (lt:=λ_=>none) (l:=[]) (by kernel_rfl) trivial) (by rintro⟨v0,v1,⟨⟩⟩; kernel_rfl)
abbrev UU:Ent:=⟨128,_,_,s9⟩
theorem V1:Ent.OK tP UU:=aN8
abbrev jF:List (Nat×Kd):=[(4,.bag 98 TyE 53 TyD none),(6,.bag 98 TyE 53 TyD none),(13,.own 148 (.hnd 1)),(14,.int .i64),(15,.int .i64),(100000,.ar 110 .str)]
abbrev mI:List (Ex×List (Nat×Kd)):=[(.ret,[(4,.bag 98 TyE 53 TyD none),(5,.int .i64),(100000,.ar 110 .str)]),(.exit 0,[(4,.bag 98 TyE 53 TyD none),(6,.bag 98 TyE 53 TyD none),(100000,.ar 110 .str)])]
def cA(x:Shape.den jF):Option (Shape.den jF⊕aS mI):=match x with
 | (v4,v6,v13,v14,v15,v100000,()) =>
  bif ltI v15 v14 then
   bif aJ v15 v13.length then bif Nat.blt v15.toNat v13.length then aC (eC () (((v13.getD v15.toNat (0,0,0)).1,(v13.getD v15.toNat (0,0,0)).2.1,(v13.getD v15.toNat (0,0,0)).2.2),()) v100000) λy2 =>
   bif !(eqI y2.1.2.1 0) then
    some (.inr (.inl ((0,([],())),y2.1.2.1,y2.2,())))
   else bif Nat.ble [y2.1.1].length 1048576 then bif Nat.ble v6.2.1.length 1048576 then some (.inl ((v4.1,(v4.2.1,())),(v6.1,((v6.2.1++[y2.1.1]),())),v13,v14,(aB .i64 (v15+1)),y2.2,())) else none else none else none else none
  else some (.inr (.inr (((v4.1,(v4.2.1,())),(v6.1,(v6.2.1,())),v100000,()))))
def gK(x:Shape.den jF):Option (aS mI):=bY cA (2^64) x
def bV(v0:List (Nat×Nat×Nat))(x:aH [.int .i64])(A:List (List ByteArray)):Option ((aH [.agg TyH,.int .i64])×List (List ByteArray)):=match x with
 | (v1,()) =>
  aC (gK ((0,([],())),(v1,([],())),v0,(v0.length:Int),0,A,())) λz3 =>
  zM z3 (λa4=>some (((a4.1.1,a4.1.2.1),a4.2.1,()),a4.2.2.1)) λb5 =>
  some (((b5.2.1.1,b5.2.1.2.1),0,()),b5.2.2.1)
def tM:Code:=aQ Tryz.f123
abbrev AI:Env:=OP [] [MB]
theorem FB:aY tP AI:=oB trivial ⟨XK,trivial⟩
def wZ:Code:=inLoop (aGQ tM 0)
def yQ(id:Nat):Option bI:=bif Nat.beq id 3 then some ⟨jF,mI,gK⟩ else none
def zG(id:Nat):Option bI:=none
theorem OM:∀ x,aC4 tP AI 36 (wO Tryz.f123) yQ zG false [] wZ jF mI x=cA x:=by
 rintro⟨v4,v6,v13,v14,v15,v100000,⟨⟩⟩
 kernel_rfl
theorem P1:OZ tP 36 false [] (.loop wZ) ⟨jF,mI,gK⟩:=by exact T1 FB.callee aI.mixed _ (uN (l:=[]) (by kernel_rfl) trivial) OM
theorem R2:fG tM=[.loop wZ]:=by kernel_rfl
theorem UE:∀ l x A,aZ0 tP AI Tryz.f123 (wO Tryz.f123) yQ zG tM 110 .str (.own 148 (.hnd 1)) [.int .i64] (.data [.agg TyH,.int .i64]) l x A=bV l x A:=by
 rintro u0 ⟨v1,⟨⟩⟩ A
 kernel_rfl
theorem W3:N0 tP 123 110 .str (.own 148 (.hnd 1)) [.int .i64] (.data [.agg TyH,.int .i64]) bV:=by exact bAK aI FB Tryz.func123 (c:=tM) (by kernel_rfl) (aT:=wO Tryz.f123) (lt:=yQ) (rt:=zG) (by rfl) (uN R2 ⟨T0 (i:=3) (by kernel_rfl) rfl P1,trivial⟩) UE
abbrev lU:Shr:=(123,U5 1 (arH 110 .str (.own 148 (.hnd 1)) [.int .i64] (.data [.agg TyH,.int .i64]) bV))
theorem mC:wN tP lU:=sG (g:=123) (f:=arH 110 .str (.own 148 (.hnd 1)) [.int .i64] (.data [.agg TyH,.int .i64]) bV) (FV W3)
def xR(x:aH [.int .i64,.list TyD]):Option (aH [.agg TyH,.int .i64]):=match x with
 | (v0,v1,()) =>
  aC (s9 (v0,v1,())) λy1 =>
  bif !(eqI y1.1 0) then
   some ((0,[]),y1.1,())
  else aC (eJ () (v1,()) []) λy2 =>
  aC (dD y2.1 (v0,()) y2.2) λy3 =>
  aC (bV y3.1 (v0,()) y3.2) λy4 =>
  some (y4.1.1,y4.1.2.1,())
def aDE:Code:=aQ Tryz.f86
abbrev aM9:Env:=OP [UU] [uK,lX,lU]
theorem aOW:aY tP aM9:=oB ⟨V1,trivial⟩ ⟨u9,mH,mC,trivial⟩
def aJZ(id:Nat):Option bI:=none
theorem aN5:cB aDE=[]:=by kernel_rfl
theorem aQP:∀ x,aGR tP aM9 Tryz.f86 (aG Tryz.f86) aJZ aDE 110 .str _ _ x=xR x:=by
 rintro⟨v0,v1,⟨⟩⟩
 kernel_rfl
theorem aU9:dK tP 86 _ _ xR:=by exact aM5 aI aOW Tryz.func86 (c:=aDE) (by kernel_rfl) (aT:=aG Tryz.f86) (lt:=aJZ) (aD aN5 trivial) aQP
abbrev WI:Ent:=⟨86,_,_,xR⟩
theorem UA:Ent.OK tP WI:=aU9
end Go.PM
namespace Go.PM
open Go Go.RowKit Go.Proofs Go.Lz
def aJY(r:List Int):V:=λx=>r.getD x 0
def P8(m:List (List Int)):Nat->V:=λi=>aJY (m.getD i [])
def Vr(n:Nat) (v:V):List Int:=(List.range n).map v
theorem a9M(r:List Int):Zr r.length (aJY r)=r.map Zn:=by
 refine List.ext_getElem? λi=>?_
 simp only[Zr,List.getElem?_map]
 by_cases h:i<r.length
 ·rw[List.getElem?_range h,List.getElem?_eq_getElem h];simp[aJY,List.getD,h]
 ·have h1:(List.range r.length)[i]?=none:=by simp; omega
  rw[h1,List.getElem?_eq_none (by omega)]; rfl
theorem a95 {n:Nat}{v:V}(hw:∀ x,n<=x->v x=0):aJY (Vr n v)=v:=by
 funext x
 unfold aJY Vr
 by_cases h:x<n
 ·simp[List.getD,h]
 ·have h1:(List.range n)[x]?=none:=by simp; omega
  simp[List.getD,h1,hw x (by omega)]
theorem a9U(r:List Int):Vr r.length (aJY r)=r:=by
 refine List.ext_getElem? λi=>?_
 simp only[Vr,List.getElem?_map]
 by_cases h:i<r.length
 ·rw[List.getElem?_range h,List.getElem?_eq_getElem h];simp[aJY,List.getD,h]
 ·have h1:(List.range r.length)[i]?=none:=by simp; omega
  rw[h1,List.getElem?_eq_none (by omega)]; rfl
theorem aXP(n:Int)(h:Lib.nDigits n.natAbs<=18):p6 (Zn n,())=some (n,true,()):=by
 have hl:=aD3 h;have hs:(Zn n).size<=1000000000:=by
  rcases(by omega:n<0\/0<=n)with g|g
  ·rw[E9 g]; omega
  ·rw[PC g,EL]; omega
 have e1:Nat.ble (Zn n).size 1000000000=true:=by rw[gG]; simpa using hs
 have e2:eqI 10 10=true:=by decide
 have e3:eqI 64 64=true:=by decide
 have e4:Lib.parseIntB 64 (Zn n).data.toList=.ok n:=by
  have hne:∀ c r,Lib.decDigits n.natAbs=c::r->c.toNat≠43/\c.toNat≠45:=λc r he=>by
   have:=HU n.natAbs c (by rw[he]; simp);omega
  have hmag:=aL8 n.natAbs;rw[yG]at hmag;have hlen:(Lib.decDigits n.natAbs).length<=18:=by rw[Lib.decDigits_length]; exact h
  rw[Lib.parseIntB_64];rcases(by omega:n<0\/0<=n)with g|g
  ·have hn : -(n.natAbs:Int)=n:=by omega
   rw[W6 g,Lib.atoiAll_minus,Lib.signed_short hlen,hmag];simp only[Option.map_some,hn];rfl
  ·have hn:(n.natAbs:Int)=n:=by omega
   rw[PC g,yG];cases he:Lib.decDigits n.natAbs with
   | nil=>exact absurd he (GK _)
   | cons c r =>
    obtain⟨h1,h2⟩:=hne c r he;rw[Lib.atoiAll_plain c r h1 h2,<- he,Lib.signless_short hlen,hmag];simp only[Option.map_some,hn];rfl
 unfold p6;simp only[e1,oC,e4]
theorem aYJ(r:List Int)(hl:r.length<=1048576)(hr:∀ a∈r,-9223372036854775808<=a/\a<9223372036854775808) :
  wM ([],r,(r.length:Int),0,())=some (r.map Zn,()):=by
 have key:=cC (step:=qZ) (N:=2^64) (λt=>((r.take t).map Zn,r,(r.length:Int),(t:Int),())) r.length (r.map Zn,()) (by omega) (λt ht=>?_) ?_
 ·exact key
 ·have e1:ltI (t:Int) (r.length:Int)=true:=by rw[aF]; exact oT (by omega)
  have e2:aJ (t:Int) r.length=true:=by rw[aP]; exact oT (by omega)
  have e3:((t:Nat):Int).toNat=t:=oN _;have e4:r.getD t 0=r[t]:=by simp[List.getD,ht]
  obtain⟨b1,b2⟩:=hr r[t] (List.getElem_mem ht);have e5:=AD r[t] b1 b2;have e6:Nat.ble [Zn r[t]].length 1048576=true:=rfl;have e7:Nat.ble ((r.take t).map Zn).length 1048576=true:=by rw[gG,List.length_map,List.length_take]; exact oT (by omega)
  have e8:=cZ t (by omega);have e9:(r.take t).map Zn++[Zn r[t]]=(r.take (t+1)).map Zn:=by rw[List.take_succ_eq_append_getElem ht,List.map_append]; rfl
  simp only[qZ,e1,e2,e3,e4,e5,aE,e6,e7,oC,e8,e9]
 ·have e1:ltI (r.length:Int) (r.length:Int)=false:=by rw[aF]; exact oF (by omega)
  simp only[qZ,e1,oD,List.take_length]
theorem aS0(r:List Int)(hl:r.length<=1048576)(hr:∀ a∈r,-9223372036854775808<=a/\a<9223372036854775808):oY (r,())=some (r.map Zn):=by
 have e1:ltI (r.length:Int) 0=false:=by rw[aF]; exact oF (by omega)
 have e2:ltI 1048576 (r.length:Int)=false:=by rw[aF]; exact oF (by omega)
 unfold oY;simp only[e1,e2,Bool.not_false,oC,List.replicate_zero,aYJ r hl hr,aE]
theorem aO4(rows:List (List Int)) {n:Nat} (hk:rows.length<1048576) (hn:n<1048576) (hlen:∀ r∈rows,r.length=n) (hr:∀ r∈rows,∀ a∈r,-9223372036854775808<=a/\a<9223372036854775808) :
  ∃ m A,eJ () (rows,()) []=some (m,A)/\mR 0 rows.length n m A (λi=>i) (P8 rows):=by
 have key:=cC (step:=kY) (N:=2^64)
  (λt=>((List.range t).map (λi=>(i,0,n)),rows,(rows.length:Int),(t:Int),(rows.take t).map (·.map Zn),())) rows.length ((List.range rows.length).map (λi=>(i,0,n)),rows.map (·.map Zn),()) (by omega) (λt ht=>?_) ?_
 ·refine⟨(List.range rows.length).map (λi=>(i,0,n)),rows.map (·.map Zn),?_,rfl,λi hi=>⟨[],rfl,?_⟩,λi j _ _ h=>h⟩
  ·unfold eJ sE;have key:bY kY (2^64) ([],rows,(rows.length:Int),0,[],())=_:=key;simp only[key,aE]
  ·rw[List.getElem?_map,List.getElem?_eq_getElem hi];simp only[Option.map_some,List.nil_append]
   congr 1
   have h1:P8 rows i=aJY rows[i]:=by unfold P8; simp[List.getD,hi]
   rw[h1,<- a9M,hlen rows[i] (List.getElem_mem hi)]
 ·have e1:ltI (t:Int) (rows.length:Int)=true:=by rw[aF]; exact oT (by omega)
  have e2:aJ (t:Int) rows.length=true:=by rw[aP]; exact oT (by omega)
  have e3:((t:Nat):Int).toNat=t:=oN _;have e4:rows.getD t []=rows[t]:=by simp[List.getD,ht]
  have hm:=List.getElem_mem ht;have e5:=aS0 rows[t] (by rw[hlen _ hm]; omega) (hr _ hm);have e6:((rows.take t).map (·.map Zn)).length=t:=by rw[List.length_map,List.length_take]; omega
  have e7:Nat.ble [(t,0,n)].length 1048576=true:=rfl;have e8:Nat.ble ((List.range t).map (λi=>(i,0,n))).length 1048576=true:=by rw[gG,List.length_map,List.length_range]; exact oT (by omega)
  have e9:=cZ t (by omega);have e10:(rows[t].map Zn).length=n:=by rw[List.length_map,hlen _ hm]
  have e11:(rows.take t).map (·.map Zn)++[rows[t].map Zn]=(rows.take (t+1)).map (·.map Zn):=by rw[List.take_succ_eq_append_getElem ht,List.map_append]; rfl
  have e12:(List.range t).map (λi=>(i,0,n))++[(t,0,n)]=(List.range (t+1)).map (λi=>(i,0,n)):=by rw[List.range_succ,List.map_append]; rfl
  simp only[kY,e1,e2,e3,e4,e5,aE,e6,e7,e8,e9,e10,e11,e12,oC]
 ·have e1:ltI (rows.length:Int) (rows.length:Int)=false:=by rw[aF]; exact oF (by omega)
  simp only[kY,e1,oD,List.take_length]
theorem a3Q {A:List (List ByteArray)} {J o n:Nat} {v:V} {pre:List ByteArray} (hn:n<1048576) (hp:pre.length=o) (hJ:A[J]?=some (pre++Zr n v)) (ok:∀ x,x<n->(v x).natAbs<=1000000000) :
  eC () ((J,o,n),()) A=some ((Vr n v,0,()),A):=by
 have key:=cC (step:=bW) (N:=2^64) (λt=>(Vr t v,(J,o,n),(n:Int),(t:Int),A,())) n (.inr (Vr n v,A,())) (by omega) (λt ht=>?_) ?_
 ·have e1:ltI (n:Int) 0=false:=by rw[aF]; exact oF (by omega)
  have e2:ltI 1048576 (n:Int)=false:=by rw[aF]; exact oF (by omega)
  have key:bY bW (2^64) ([],(J,o,n),(n:Int),0,A,())=_:=key;unfold eC iM;simp only[e1,e2,Bool.not_false,oC,List.replicate_zero,key,aE,kE]
 ·have b1:=ok t ht;have e1:ltI (t:Int) (n:Int)=true:=by rw[aF]; exact oT (by omega)
  have e2:aJ (t:Int) n=true:=by rw[aP]; exact oT (by omega)
  have e3:(o+((t:Nat):Int).toNat)*1=o+t:=by simp
  have e4:dB A J=o+n:=by rw[dB,aAJ _ hJ,List.length_append,xM,hp]
  have e6:Nat.blt (o+t) (o+n)=true:=by rw[cV]; simpa using ht
  have e7:dS A J (o+t) ByteArray.empty=Zn (v t):=by rw[dS,aAJ _ hJ,YU hp,aLQ _ ht]
  have e8:=aXP (v t) (by have:=JA (u:=(v t).natAbs) (k:=17) (by omega); omega);have e9:ltI 1000000000 (v t)=false:=by rw[aF]; exact oF (by omega)
  have e10:ltI (v t) (-1000000000)=false:=by rw[aF]; exact oF (by omega)
  have e11:Nat.ble [v t].length 1048576=true:=rfl;have e12:Nat.ble (Vr t v).length 1048576=true:=by rw[gG]; unfold Vr; rw[List.length_map,List.length_range]; exact oT (by omega)
  have e13:=cZ t (by omega);have e14:Vr t v++[v t]=Vr (t+1) v:=by unfold Vr; rw[List.range_succ,List.map_append]; rfl
  simp only[bW,e1,e2,e3,e4,e6,e7,e8,e9,e10,e11,e12,e13,e14,aE,oC,oD]
 ·have e1:ltI (n:Int) (n:Int)=false:=by rw[aF]; exact oF (by omega)
  simp only[bW,e1,oD]
theorem aPW {o k d n:Nat} {m:List (Nat×Nat×Nat)} {A:List (List ByteArray)} {J:Nat->Nat} {M:Nat->V} (h:mR o k n m A J M) (hd:d<=k) (hk:k<1048576) (hn:n<1048576) (ok:∀ i,i<d->∀ x,x<n->(M i x).natAbs<=1000000000) (cols:Int) :
  bV (m.take d) (cols,()) A=some (((cols,(List.range d).map λi=>Vr n (M i)),0,()),A):=by
 have hl:(m.take d).length=d:=by rw[List.length_take,h.len]; omega
 have hg:∀ t,t<d->(m.take d).getD t (0,0,0)=(J t,o,n):=λt ht=>by
  rw[<- h.get (show t<k by omega)];simp[List.getD,List.getElem?_take,ht]
 have key:=cC (step:=cA) (N:=2^64)
  (λt=>((0,([],())),(cols,((List.range t).map (λi=>Vr n (M i)),())),m.take d,((m.take d).length:Int),(t:Int),A,())) d (.inr ((0,([],())),(cols,((List.range d).map (λi=>Vr n (M i)),())),A,())) (by omega) (λt ht=>?_) ?_
 ·have key:bY cA (2^64) ((0,([],())),(cols,([],())),m.take d,((m.take d).length:Int),0,A,())=_:=key;unfold bV gK;simp only[key,aE,kE]
 ·rw[hl];obtain⟨pre,h1,h2⟩:=h.at_ t (by omega);have e1:ltI (t:Int) (d:Int)=true:=by rw[aF]; exact oT (by omega)
  have e2:aJ (t:Int) d=true:=by rw[aP]; exact oT (by omega)
  have e3:((t:Nat):Int).toNat=t:=oN _;have e4:Nat.blt t d=true:=by rw[cV]; simpa using ht
  have e5:=a3Q hn h1 h2 (ok t ht);have e6:eqI 0 0=true:=by decide
  have e7:Nat.ble [Vr n (M t)].length 1048576=true:=rfl;have e8:Nat.ble ((List.range t).map (λi=>Vr n (M i))).length 1048576=true:=by rw[gG,List.length_map,List.length_range]; exact oT (by omega)
  have e9:=cZ t (by omega);have e10:(List.range t).map (λi=>Vr n (M i))++[Vr n (M t)]=(List.range (t+1)).map (λi=>Vr n (M i)):=by rw[List.range_succ,List.map_append]; rfl
  simp only[cA,hl,e1,e2,e3,e4,hg t ht,e5,e6,e7,e8,e9,e10,aE,oC,Bool.not_true,oD]
 ·rw[hl];have e1:ltI (d:Int) (d:Int)=false:=by rw[aF]; exact oF (by omega)
  simp only[cA,e1,oD]
theorem aVT(r:List Int) (hl:r.length<=64) (hr:∀ a∈r,a.natAbs<=1000000000):vT (r,())=some (0,()):=by
 have key:=cC (step:=bE) (N:=2^64) (λt=>(r,(),(r.length:Int),(t:Int),())) r.length (.inr ()) (by omega) (λt ht=>?_) ?_
 ·have key:bY bE (2^64) (r,(),(r.length:Int),0,())=some (.inr ()):=key;have e1:ltI 64 (r.length:Int)=false:=by rw[aF]; exact oF (by omega)
  have e2:ltI (-1) 0=true:=by decide
  simp only[vT,e1,oD,dG,fS,fM,key,aE,kE,e2,Bool.not_true]
 ·have e1:ltI (t:Int) (r.length:Int)=true:=by rw[aF]; exact oT (by omega)
  have e2:aJ (t:Int) r.length=true:=by rw[aP]; exact oT (by omega)
  have e3:((t:Nat):Int).toNat=t:=oN _;have e4:r.getD t 0=r[t]:=by simp[List.getD,ht]
  have b:=hr r[t] (List.getElem_mem ht);have e5:ltI r[t] (-1000000000)=false:=by rw[aF]; exact oF (by omega)
  have e6:ltI 1000000000 r[t]=false:=by rw[aF]; exact oF (by omega)
  have e7:=cZ t (by omega);simp only[bE,e1,e2,e3,e4,C1,NF,e5,e6,aE,Bool.not_false,oC,oD,e7]
 ·have e1:ltI (r.length:Int) (r.length:Int)=false:=by rw[aF]; exact oF (by omega)
  simp only[bE,e1,oD]
theorem aZB(rows:List (List Int)){n:Nat}(hk:rows.length<1048576)(hn:n<=64)(hlen:∀ r∈rows,r.length=n)(hr:∀ r∈rows,∀ a∈r,a.natAbs<=1000000000):vB (rows,(n:Int),())=some (0,()):=by
 have key:=cC (step:=fU) (N:=2^64) (λt=>((n:Int),rows,(rows.length:Int),(t:Int),())) rows.length (.inr ()) (by omega) (λt ht=>?_) ?_
 ·have key:bY fU (2^64) ((n:Int),rows,(rows.length:Int),0,())=some (.inr ()):=key;simp only[vB,vX,key,aE,kE]
 ·have e1:ltI (t:Int) (rows.length:Int)=true:=by rw[aF]; exact oT (by omega)
  have e2:aJ (t:Int) rows.length=true:=by rw[aP]; exact oT (by omega)
  have e3:((t:Nat):Int).toNat=t:=oN _;have e4:rows.getD t []=rows[t]:=by simp[List.getD,ht]
  have hm:=List.getElem_mem ht;have e5:=aVT rows[t] (by rw[hlen _ hm]; exact hn) (hr _ hm);have e6:eqI 0 0=true:=by decide
  have e7:eqI (rows[t].length:Int) (n:Int)=true:=by rw[fO,hlen _ hm]; exact oT rfl
  have e8:=cZ t (by omega);simp only[fU,e1,e2,e3,e4,e5,aE,e6,e7,e8,Bool.not_true,oC,oD]
 ·have e1:ltI (rows.length:Int) (rows.length:Int)=false:=by rw[aF]; exact oF (by omega)
  simp only[fU,e1,oD]
theorem aY2(rows:List (List Int)){n:Nat}(hk:rows.length<=12)(hn:n<=12)(hlen:∀ r∈rows,r.length=n)(hr:∀ r∈rows,∀ a∈r,a.natAbs<=1000000000):s9 ((n:Int),rows,())=some (0,()):=by
 have e1:ltI (n:Int) 0=false:=by rw[aF]; exact oF (by omega)
 have e2:ltI 12 (n:Int)=false:=by rw[aF]; exact oF (by omega)
 have e3:ltI 12 (rows.length:Int)=false:=by rw[aF]; exact oF (by omega)
 simp only[s9,e1,e2,e3,oD,aZB rows (by omega) (by omega) hlen hr,aE]
theorem of_eq(rows:List (List Int)) {n:Nat} (hk:rows.length<=12) (hn:n<=12) (hlen:∀ r∈rows,r.length=n) {E T:Nat->Nat} (hr:∀ r∈rows,∀ a∈r,a.natAbs<=E 0) (hE:E 0<=1000000000) (hb:Bds rows.length n E T)
  (hfin:∀ d M p,d<=rows.length->Hn d M p->Same rows.length (P8 rows) d M->(∀ i,i<d->∀ x,n<=x->M i x=0)->∀ i,i<d->∀ x,x<n->(M i x).natAbs<=1000000000) :
  ∃ d M p,xR ((n:Int),rows,())=some (((n:Int),(List.range d).map λi=>Vr n (M i)),0,())/\d<=rows.length/\Hn d M p/\Same rows.length (P8 rows) d M/\(∀ i,i<d->∀ x,n<=x->M i x=0)/\∀ i,i<d->∀ x,x<n->(M i x).natAbs<=1000000000:=by
 obtain⟨m,A,h1,h2⟩:=aO4 rows (n:=n) (by omega) (by omega) hlen (λr h a ha=>by have:=hr r h a ha; omega);have hrow:∀ i,i<rows.length->∃ r,r∈rows/\P8 rows i=aJY r:=λi hi=>⟨rows[i],List.getElem_mem hi,by unfold P8; simp[List.getD,hi]⟩
 have hw:Wd rows.length n (P8 rows):=λi hi x hx=>by
  obtain⟨r,hr1,hr2⟩:=hrow i hi;rw[hr2]; unfold aJY;have:=hlen r hr1;simp[List.getD,List.getElem?_eq_none (show r.length<=x by omega)]
 have hB:Big rows.length n (P8 rows) (E 0):=λi hi x hx=>by
  obtain⟨r,hr1,hr2⟩:=hrow i hi;rw[hr2]; unfold aJY;have hl:=hlen r hr1;have:r.getD x 0=r[x]'(by omega):=by simp[List.getD,show x<r.length by omega]
  rw[this];exact hr r hr1 _ (List.getElem_mem _)
 obtain⟨m',A',J',M',d,p,g1,g2,g3,g4,g5,g6,g7⟩:=aOA (by omega) (by omega) h2 hw hB hb;have hwd:∀ i,i<d->∀ x,n<=x->M' i x=0:=λi hi x hx=>g6 i (by omega) x hx
 have hf:=hfin d M' p g2 g4 g5 hwd;refine⟨d,M',p,?_,g2,g4,g5,hwd,hf⟩;have e0:eqI 0 0=true:=by decide
 simp only[xR,aY2 rows hk hn hlen (λr h a ha=>Nat.le_trans (hr r h a ha) hE),aE,e0,Bool.not_true,oD,h1,g1,aPW g3 g2 (by omega) (by omega) hf (n:Int)]
end Go.PM
namespace Go.PM
open Go Go.RowKit Go.Proofs
set_option maxHeartbeats 4000000
abbrev qH:List (Nat×Kd):=[(3,.own 110 .str),(9,.list TyE),(10,.int .i64),(11,.int .i64)]
abbrev uL:List (Ex×List (Nat×Kd)):=[(.exit 0,[(3,.own 110 .str)])]
def L5(x:Shape.den qH):Option (Shape.den qH⊕aS uL):=match x with
 | (v3,v9,v10,v11,()) =>
  bif ltI v11 v10 then
   bif aJ v11 v9.length then aC (nO ((v9.getD v11.toNat 0),())) λy2 =>
   bif Nat.ble [y2.1].length 1048576 then bif Nat.ble v3.length 1048576 then some (.inl ((v3++[y2.1]),v9,v10,(aB .i64 (v11+1)),())) else none else none else none
  else some (.inr ((v3,())))
def EE(x:Shape.den qH):Option (aS uL):=bY L5 (2^64) x
def rO(x:aH [.list TyE]):Option (aH [.list .str]):=match x with
 | (v0,()) =>
  bif !(ltI (v0.length:Int) 0) then bif !(ltI 1048576 (v0.length:Int)) then aC (EE ((List.replicate 0 ByteArray.empty),v0,(v0.length:Int),0,())) λz3 =>
  some (z3.1,()) else none else none
def YQ:Code:=aQ Tryz.f119
abbrev Y0:Env:=bZ [SF]
theorem QV:aY tP Y0:=bB ⟨KG,trivial⟩
def IX:Code:=eG YQ 0
def VW(id:Nat):Option bI:=bif Nat.beq id 3 then some ⟨qH,uL,EE⟩ else none
theorem aAH:∀ x,dY tP Y0 22 (aG Tryz.f119) VW IX qH uL x=L5 x:=by
 rintro⟨v3,v9,v10,v11,⟨⟩⟩
 kernel_rfl
theorem aCX:cN tP 22 IX ⟨qH,uL,EE⟩:=by exact cL QV.callee aI.mixed _ (aD (l:=[]) (by kernel_rfl) trivial) aAH
theorem aKK:dK tP 119 _ _ rO:=by exact bO aI QV Tryz.func119 (c:=YQ) (by kernel_rfl) (aT:=aG Tryz.f119) (lt:=VW) (aD (l:=[IX]) (by kernel_rfl) ⟨cK (i:=3) (by kernel_rfl) rfl aCX,trivial⟩) (by rintro⟨v0,⟨⟩⟩; kernel_rfl)
abbrev NI:Ent:=⟨119,_,_,rO⟩
theorem QG:Ent.OK tP NI:=aKK
abbrev fY:List (Nat×Kd):=[(0,.val),(7,.list TyD),(8,.int .i64),(9,.int .i64)]
abbrev j5:List (Ex×List (Nat×Kd)):=[(.exit 0,[])]
def iG(x:Shape.den fY):Option (List (Value×aH [.int .i64,.list .str])×(Shape.den fY⊕aS j5)):=match x with
 | (v0,v7,v8,v9,()) =>
  bif ltI v9 v8 then
   bif aJ v9 v7.length then aC (rO ((v7.getD v9.toNat []),())) λy3 =>
   aC (vV (y3.1,())) λy4 =>
   outs [(v0,(y4.1,y3.1,()))] (some ([],.inl (v0,v7,v8,(aB .i64 (v9+1)),()))) else none
  else some ([],.inr ((())))
def l6(x:Shape.den fY):Option (List (Value×aH [.int .i64,.list .str])×aS j5):=aMN iG (2^64) x
def wA(v0:Value)(x:U0 [TyH]):Option (List (Value×aH [.int .i64,.list .str])):=match x with
 | (v1,()) =>
  a8Y (a14 (l6 (v0,v1.2,(v1.2.length:Int),0,())) λz5 =>
  some ([],()))
def pM:Code:=aQ Tryz.f239
abbrev wC:Env:=OP [NI,JB] []
theorem CB:aY tP wC:=oB ⟨QG,L7,trivial⟩ trivial
def kR:Code:=inLoop (aGQ pM 0)
def u7(id:Nat):Option bI:=none
def uO(id:Nat):Option (ZI (Value×aH [.int .i64,.list .str])):=bif Nat.beq id 1 then some ⟨fY,j5,l6⟩ else none
theorem K4:cE kR=1:=by kernel_rfl
theorem O4:fG kR=[]:=by kernel_rfl
theorem KF:∀ x,a6O tP wC 22 (aG Tryz.f239) u7 [.int .i64,.list .str] uO kR fY j5 x=iG x:=by
 rintro⟨v0,v7,v8,v9,⟨⟩⟩
 kernel_rfl
theorem LR:a18 tP 22 [.int .i64,.list .str] kR ⟨fY,j5,l6⟩:=by exact a77 CB.callee aI.mixed _ (aYW O4 trivial) KF
theorem MX:fG pM=[.loop kR]:=by kernel_rfl
theorem OY:∀ v0 x,a6J tP wC Tryz.f239 (aG Tryz.f239) u7 [.int .i64,.list .str] uO pM [TyH] v0 x=wA v0 x:=by
 rintro v0 ⟨v1,⟨⟩⟩
 kernel_rfl
theorem OT {f:U0 [TyH]->Option (List (aH [.int .i64,.list .str]))}(h:∀ yv x all,f x=some all->wA yv x=some (all.map λe=>(yv,e))):aP4 tP 239 [TyH] [.int .i64,.list .str] f:=by exact a9G aI CB Tryz.func239 (c:=pM) (by kernel_rfl) (by kernel_rfl) (aT:=aG Tryz.f239) (lt:=u7) (li:=uO) (aYW MX ⟨a7R K4 rfl rfl LR,trivial⟩) (λyv x all hx=>(OY yv x).trans (h yv x all hx))
def a0F:List (List Int)->Option (List (aH [.int .i64,.list .str]))
 | []=>some []
 | r::l=>aC (rO (r,())) λy=>aC (vV (y.1,())) λz=>aC (a0F l) λrest=>some ((z.1,y.1,())::rest)
def aUN(x:U0 [TyH]):Option (List (aH [.int .i64,.list .str])):=match x with
 | ((_,b),())=>bif Nat.ble b.length 1048576 then a0F b else none
theorem aMK(yv:Value)(l:List (List Int))(hl:l.length<=1048576):∀ (rest pre:List (List Int)) (all:List (aH [.int .i64,.list .str])) (N:Nat),a0F rest=some all->pre++rest=l->rest.length<N ->
  aMN iG N (yv,l,(l.length:Int),(pre.length:Int),())=some (all.map λe=>(yv,e),())
 | [],pre,all,N+1,h,hp,_=>by
  obtain rfl:=Option.some.inj h;rw[List.append_nil]at hp;subst hp;have h1:ltI (pre.length:Int) (pre.length:Int)=false:=by simp[aF]
  simp only[aMN,iG,h1,oD];rfl
 | r::rest,pre,all,N+1,h,hp,hN=>by
  obtain⟨y,hy,h⟩:=AE h;obtain⟨z,hz,h⟩:=AE h;obtain⟨all',ha,h⟩:=AE h;obtain rfl:=Option.some.inj h;have hlen:l.length=pre.length+(rest.length+1):=by rw[<- hp]; simp
  have h1:ltI (pre.length:Int) (l.length:Int)=true:=by simp[aF]; omega
  have h2:aJ (pre.length:Int) l.length=true:=by simp[aP]; omega
  have h3:l.getD ((pre.length:Int)).toNat []=r:=by rw[<- hp]; simp
  have h4:=aMK yv l hl rest (pre++[r]) all' N ha (by rw[<- hp]; simp) (by simp at hN; omega);have h5:aB .i64 ((pre.length:Int)+1)=((pre++[r]).length:Int):=by rw[wrap64 (by omega) (by omega)]; simp
  simp only[aMN,iG,h1,oC,h2,h3,hy,aE,hz,outs,h5];rw[h4];rfl
theorem a4I:aP4 tP 239 [TyH] [.int .i64,.list .str] aUN:=by
 refine OT ?_;rintro yv ⟨⟨n,b⟩,⟨⟩⟩ all h;unfold aUN at h;dsimp only at h;obtain⟨hb,h⟩:=aM h;have hb:=oL hb;have:=aMK yv b hb b [] all (2^64) h rfl (by omega);unfold wA;dsimp only;unfold l6;have h0:((([]:List (List Int)).length:Nat):Int)=0:=rfl;rw[h0]at this;rw[this];simp[a14,outs,a8Y]
end Go.PM
namespace Go.PM
open Go Go.RowKit Go.Proofs
set_option maxHeartbeats 4000000
def R0(x:aH [.int .i64]):Option (aH [.bool]):=match x with
 | (v0,()) =>
  bif ltI 1000000000 v0 then
   some (true,())
  else some (ltI v0 (-1000000000),())
theorem aND:aY tP (bZ []):=bB trivial
theorem aR9:dK tP 172 _ _ R0:=by exact bO aI aND Tryz.func172 (c:=aQ Tryz.f172) (by kernel_rfl) (aT:=aG Tryz.f172) (lt:=λ_=>none) (aD (lt:=λ_=>none) (l:=[]) (by kernel_rfl) trivial) (by rintro⟨v0,⟨⟩⟩; kernel_rfl)
abbrev aKX:Ent:=⟨172,_,_,R0⟩
theorem aN3:Ent.OK tP aKX:=aR9
abbrev eM:List (Nat×Kd):=[(0,.list TyE),(1,.fn 172),(7,.int .i64),(8,.int .i64)]
abbrev gC:List (Ex×List (Nat×Kd)):=[(.ret,[(4,.int .i64)]),(.exit 0,[])]
def dU(x:Shape.den eM):Option (Shape.den eM⊕aS gC):=match x with
 | (v0,v1,v7,v8,()) =>
  bif ltI v8 v7 then
   bif aJ v8 v0.length then aC (R0 ((v0.getD v8.toNat 0),())) λy2 =>
   bif y2.1 then
    some (.inr (.inl (v8,())))
   else some (.inl (v0,(),v7,(aB .i64 (v8+1)),())) else none
  else some (.inr (.inr ((()))))
def jJ(x:Shape.den eM):Option (aS gC):=bY dU (2^64) x
def mN(x:aH [.list TyE,.fn 172]):Option (aH [.int .i64]):=match x with
 | (v0,v1,()) =>
  aC (jJ (v0,(),(v0.length:Int),0,())) λz3 =>
  zM z3 (λa4=>some (a4.1,())) λb5 =>
  some ((-1),())
def AG:Code:=aQ Tryz.f197
abbrev AR:Env:=bZ [aKX]
theorem wS:aY tP AR:=bB ⟨aN3,trivial⟩
def p7:Code:=eG AG 0
def zL(id:Nat):Option bI:=bif Nat.beq id 2 then some ⟨eM,gC,jJ⟩ else none
theorem HQ:∀ x,dY tP AR 19 (aG Tryz.f197) zL p7 eM gC x=dU x:=by
 rintro⟨v0,v1,v7,v8,⟨⟩⟩
 kernel_rfl
theorem HW:cN tP 19 p7 ⟨eM,gC,jJ⟩:=by exact cL wS.callee aI.mixed _ (aD (l:=[]) (by kernel_rfl) trivial) HQ
theorem LX:dK tP 197 _ _ mN:=by exact bO aI wS Tryz.func197 (c:=AG) (by kernel_rfl) (aT:=aG Tryz.f197) (lt:=zL) (aD (l:=[p7]) (by kernel_rfl) ⟨cK (i:=2) (by kernel_rfl) rfl HW,trivial⟩) (by rintro⟨v0,v1,⟨⟩⟩; kernel_rfl)
abbrev AZ:Ent:=⟨197,_,_,mN⟩
theorem J6:Ent.OK tP AZ:=LX
def gF(x:aH [.list TyE,.fn 172]):Option (aH [.bool]):=match x with
 | (v0,v1,()) =>
  aC (mN (v0,(),())) λy1 =>
  some (!(ltI y1.1 0),())
theorem HH:aY tP (bZ [AZ]):=bB ⟨J6,trivial⟩
theorem I6:dK tP 144 _ _ gF:=by exact bO aI HH Tryz.func144 (c:=aQ Tryz.f144) (by kernel_rfl) (aT:=aG Tryz.f144) (lt:=λ_=>none) (aD (lt:=λ_=>none) (l:=[]) (by kernel_rfl) trivial) (by rintro⟨v0,v1,⟨⟩⟩; kernel_rfl)
abbrev wT:Ent:=⟨144,_,_,gF⟩
theorem HE:Ent.OK tP wT:=I6
abbrev xP:List (Nat×Kd):=[(0,.list TyD),(8,.list TyD),(9,.int .i64),(10,.int .i64)]
abbrev DK:List (Ex×List (Nat×Kd)):=[(.ret,[(2,.int .i64)]),(.exit 0,[])]
def tK(x:Shape.den xP):Option (Shape.den xP⊕aS DK):=match x with
 | (v0,v8,v9,v10,()) =>
  bif ltI v10 v9 then
   bif aJ v10 v8.length then bif ltI 12 ((v8.getD v10.toNat []).length:Int) then
    some (.inr (.inl (4,())))
   else bif aJ 0 v0.length then bif !(eqI ((v8.getD v10.toNat []).length:Int) ((v0.getD 0 []).length:Int)) then
    some (.inr (.inl (5,())))
   else aC (gF ((v8.getD v10.toNat []),(),())) λy2 =>
   bif y2.1 then
    some (.inr (.inl (4,())))
   else some (.inl (v0,v8,v9,(aB .i64 (v10+1)),())) else none else none
  else some (.inr (.inr ((()))))
def EH(x:Shape.den xP):Option (aS DK):=bY tK (2^64) x
def K8(x:aH [.list TyD]):Option (aH [.int .i64]):=match x with
 | (v0,()) =>
  bif ltI 12 (v0.length:Int) then
   some (4,())
  else aC (EH (v0,v0,(v0.length:Int),0,())) λz3 =>
  zM z3 (λa4=>some (a4.1,())) λb5 =>
  some (0,())
def aIY:Code:=aQ Tryz.f125
abbrev aJP:Env:=bZ [wT]
theorem aBU:aY tP aJP:=bB ⟨HE,trivial⟩
def TZ:Code:=eG aIY 0
def aGN(id:Nat):Option bI:=bif Nat.beq id 4 then some ⟨xP,DK,EH⟩ else none
theorem aIP:∀ x,dY tP aJP 30 (aG Tryz.f125) aGN TZ xP DK x=tK x:=by
 rintro⟨v0,v8,v9,v10,⟨⟩⟩
 kernel_rfl
theorem aJG:cN tP 30 TZ ⟨xP,DK,EH⟩:=by exact cL aBU.callee aI.mixed _ (aD (l:=[]) (by kernel_rfl) trivial) aIP
theorem aRT:dK tP 125 _ _ K8:=by exact bO aI aBU Tryz.func125 (c:=aIY) (by kernel_rfl) (aT:=aG Tryz.f125) (lt:=aGN) (aD (l:=[TZ]) (by kernel_rfl) ⟨cK (i:=4) (by kernel_rfl) rfl aJG,trivial⟩) (by rintro⟨v0,⟨⟩⟩; kernel_rfl)
abbrev aJK:Ent:=⟨125,_,_,K8⟩
theorem aNN:Ent.OK tP aJK:=aRT
def rW(x:aH [.int .i64]):Option (aH [.bool]):=match x with
 | (v0,()) =>
  some (!(eqI v0 0),())
theorem aF2:aY tP (bZ []):=bB trivial
theorem aKU:dK tP 211 _ _ rW:=by exact bO aI aF2 Tryz.func211 (c:=aQ Tryz.f211) (by kernel_rfl) (aT:=aG Tryz.f211) (lt:=λ_=>none) (aD (lt:=λ_=>none) (l:=[]) (by kernel_rfl) trivial) (by rintro⟨v0,⟨⟩⟩; kernel_rfl)
abbrev XY:Ent:=⟨211,_,_,rW⟩
theorem aGM:Ent.OK tP XY:=aKU
abbrev eO:List (Nat×Kd):=[(0,.list TyE),(1,.fn 211),(7,.int .i64),(8,.int .i64)]
abbrev gD:List (Ex×List (Nat×Kd)):=[(.ret,[(4,.int .i64)]),(.exit 0,[])]
def bF(x:Shape.den eO):Option (Shape.den eO⊕aS gD):=match x with
 | (v0,v1,v7,v8,()) =>
  bif ltI v8 v7 then
   bif aJ v8 v0.length then aC (rW ((v0.getD v8.toNat 0),())) λy2 =>
   bif y2.1 then
    some (.inr (.inl (v8,())))
   else some (.inl (v0,(),v7,(aB .i64 (v8+1)),())) else none
  else some (.inr (.inr ((()))))
def dV(x:Shape.den eO):Option (aS gD):=bY bF (2^64) x
def fR(x:aH [.list TyE,.fn 211]):Option (aH [.int .i64]):=match x with
 | (v0,v1,()) =>
  aC (dV (v0,(),(v0.length:Int),0,())) λz3 =>
  zM z3 (λa4=>some (a4.1,())) λb5 =>
  some ((-1),())
def AF:Code:=aQ Tryz.f197
abbrev AU:Env:=bZ [XY]
theorem wP:aY tP AU:=bB ⟨aGM,trivial⟩
def qC:Code:=eG AF 0
def zI(id:Nat):Option bI:=bif Nat.beq id 2 then some ⟨eO,gD,dV⟩ else none
theorem HN:∀ x,dY tP AU 19 (aG Tryz.f197) zI qC eO gD x=bF x:=by
 rintro⟨v0,v1,v7,v8,⟨⟩⟩
 kernel_rfl
theorem H6:cN tP 19 qC ⟨eO,gD,dV⟩:=by exact cL wP.callee aI.mixed _ (aD (l:=[]) (by kernel_rfl) trivial) HN
theorem LU:dK tP 197 _ _ fR:=by exact bO aI wP Tryz.func197 (c:=AF) (by kernel_rfl) (aT:=aG Tryz.f197) (lt:=zI) (aD (l:=[qC]) (by kernel_rfl) ⟨cK (i:=2) (by kernel_rfl) rfl H6,trivial⟩) (by rintro⟨v0,v1,⟨⟩⟩; kernel_rfl)
abbrev A9:Ent:=⟨197,_,_,fR⟩
theorem J7:Ent.OK tP A9:=LU
def sW(x:aH [.list TyE]):Option (aH [.int .i64]):=match x with
 | (v0,()) =>
  aC (fR (v0,(),())) λy1 =>
  some (y1.1,())
theorem aKY:aY tP (bZ [A9]):=bB ⟨J7,trivial⟩
theorem aNS:dK tP 173 _ _ sW:=by exact bO aI aKY Tryz.func173 (c:=aQ Tryz.f173) (by kernel_rfl) (aT:=aG Tryz.f173) (lt:=λ_=>none) (aD (lt:=λ_=>none) (l:=[]) (by kernel_rfl) trivial) (by rintro⟨v0,⟨⟩⟩; kernel_rfl)
abbrev aEE:Ent:=⟨173,_,_,sW⟩
theorem aJE:Ent.OK tP aEE:=aNS
def oO(x:aH [.list TyE,.ptr TyE,.ptr TyD]):Option (aH [.bool]):=match x with
 | (v0,v1,v2,()) =>
  bif aJ v1 v0.length then bif ltI (v0.getD v1.toNat 0) 0 then
   some (true,())
  else bif aJ v1 v0.length then bif aJ v1 v2.length then some (!(ltI (v0.getD v1.toNat 0) (v2.getD v1.toNat 0)),()) else none else none else none
theorem aCD:aY tP (bZ []):=bB trivial
theorem aF8:dK tP 174 _ _ oO:=by exact bO aI aCD Tryz.func174 (c:=aQ Tryz.f174) (by kernel_rfl) (aT:=aG Tryz.f174) (lt:=λ_=>none) (aD (lt:=λ_=>none) (l:=[]) (by kernel_rfl) trivial) (by rintro⟨v0,v1,v2,⟨⟩⟩; kernel_rfl)
abbrev TX:Ent:=⟨174,_,_,oO⟩
theorem aB6:Ent.OK tP TX:=aF8
abbrev cT:List (Nat×Kd):=[(0,.list TyD),(1,.clo 174 [TyE,TyD]),(7,.int .i64),(8,.int .i64)]
abbrev eB:List (Ex×List (Nat×Kd)):=[(.ret,[(4,.int .i64)]),(.exit 0,[])]
def aR(x:Shape.den cT):Option (Shape.den cT⊕aS eB):=match x with
 | (v0,v1,v7,v8,()) =>
  bif ltI v8 v7 then
   bif aJ v8 v0.length then aC (oO ((v0.getD v8.toNat []),v1.1,v1.2.1,())) λy2 =>
   bif y2.1 then
    some (.inr (.inl (v8,())))
   else some (.inl (v0,(v1.1,v1.2.1,()),v7,(aB .i64 (v8+1)),())) else none
  else some (.inr (.inr ((()))))
def cJ(x:Shape.den cT):Option (aS eB):=bY aR (2^64) x
def dI(x:aH [.list TyD,.clo 174 [TyE,TyD]]):Option (aH [.int .i64]):=match x with
 | (v0,v1,()) =>
  aC (cJ (v0,(v1.1,v1.2.1,()),(v0.length:Int),0,())) λz3 =>
  zM z3 (λa4=>some (a4.1,())) λb5 =>
  some ((-1),())
def tL:Code:=aQ Tryz.f100
abbrev tO:Env:=bZ [TX]
theorem qW:aY tP tO:=bB ⟨aB6,trivial⟩
def lN:Code:=eG tL 0
def tB(id:Nat):Option bI:=bif Nat.beq id 2 then some ⟨cT,eB,cJ⟩ else none
theorem BS:∀ x,dY tP tO 19 (aG Tryz.f100) tB lN cT eB x=aR x:=by
 rintro⟨v0,v1,v7,v8,⟨⟩⟩
 kernel_rfl
theorem CK:cN tP 19 lN ⟨cT,eB,cJ⟩:=by exact cL qW.callee aI.mixed _ (aD (l:=[]) (by kernel_rfl) trivial) BS
theorem FZ:dK tP 100 _ _ dI:=by exact bO aI qW Tryz.func100 (c:=tL) (by kernel_rfl) (aT:=aG Tryz.f100) (lt:=tB) (aD (l:=[lN]) (by kernel_rfl) ⟨cK (i:=2) (by kernel_rfl) rfl CK,trivial⟩) (by rintro⟨v0,v1,⟨⟩⟩; kernel_rfl)
abbrev tG:Ent:=⟨100,_,_,dI⟩
theorem DY:Ent.OK tP tG:=FZ
def bT(x:aH [.list TyD,.clo 174 [TyE,TyD]]):Option (aH [.bool]):=match x with
 | (v0,v1,()) =>
  aC (dI (v0,(v1.1,v1.2.1,()),())) λy1 =>
  some (!(ltI y1.1 0),())
theorem BP:aY tP (bZ [tG]):=bB ⟨DY,trivial⟩
theorem DR:dK tP 43 _ _ bT:=by exact bO aI BP Tryz.func43 (c:=aQ Tryz.f43) (by kernel_rfl) (aT:=aG Tryz.f43) (lt:=λ_=>none) (aD (lt:=λ_=>none) (l:=[]) (by kernel_rfl) trivial) (by rintro⟨v0,v1,⟨⟩⟩; kernel_rfl)
abbrev rG:Ent:=⟨43,_,_,bT⟩
theorem BR:Ent.OK tP rG:=DR
abbrev rR:List (Nat×Kd):=[(0,.list TyD),(3,.int .i64),(7,.list TyD),(8,.int .i64),(9,.int .i64)]
abbrev wI:List (Ex×List (Nat×Kd)):=[(.ret,[(2,.bool)]),(.exit 0,[])]
def dE(x:Shape.den rR):Option (Shape.den rR⊕aS wI):=match x with
 | (v0,v3,v7,v8,v9,()) =>
  bif ltI v9 v8 then
   bif aJ v9 v7.length then aC (sW ((v7.getD v9.toNat []),())) λy3 =>
   bif !(ltI v3 y3.1) then
    some (.inr (.inl (false,())))
   else bif aJ y3.1 (v7.getD v9.toNat []).length then bif ltI ((v7.getD v9.toNat []).getD y3.1.toNat 0) 0 then
    some (.inr (.inl (false,())))
   else bif !(ltI v9 0) then bif Nat.ble 0 v9.toNat then bif Nat.ble v9.toNat v0.length then aC (bT (((v0.drop 0).take (v9.toNat-0)),(y3.1,(v7.getD v9.toNat []),()),())) λy4 =>
   bif y4.1 then
    some (.inr (.inl (false,())))
   else some (.inl (v0,y3.1,v7,v8,(aB .i64 (v9+1)),())) else none else none else none else none else none
  else some (.inr (.inr ((()))))
def o6(x:Shape.den rR):Option (aS wI):=bY dE (2^64) x
def qN(x:aH [.list TyD]):Option (aH [.bool]):=match x with
 | (v0,()) =>
  aC (o6 (v0,(-1),v0,(v0.length:Int),0,())) λz5 =>
  zM z5 (λa6=>some (a6.1,())) λb7 =>
  some (true,())
def aBN:Code:=aQ Tryz.f126
abbrev aBL:Env:=bZ [aEE,rG]
theorem T8:aY tP aBL:=bB ⟨aJE,BR,trivial⟩
def K3:Code:=eG aBN 0
def YI(id:Nat):Option bI:=bif Nat.beq id 3 then some ⟨rR,wI,o6⟩ else none
theorem aB8:∀ x,dY tP aBL 33 (aG Tryz.f126) YI K3 rR wI x=dE x:=by
 rintro⟨v0,v3,v7,v8,v9,⟨⟩⟩
 kernel_rfl
theorem aD4:cN tP 33 K3 ⟨rR,wI,o6⟩:=by exact cL T8.callee aI.mixed _ (aD (l:=[]) (by kernel_rfl) trivial) aB8
theorem aLT:dK tP 126 _ _ qN:=by exact bO aI T8 Tryz.func126 (c:=aBN) (by kernel_rfl) (aT:=aG Tryz.f126) (lt:=YI) (aD (l:=[K3]) (by kernel_rfl) ⟨cK (i:=3) (by kernel_rfl) rfl aD4,trivial⟩) (by rintro⟨v0,⟨⟩⟩; kernel_rfl)
abbrev aBR:Ent:=⟨126,_,_,qN⟩
theorem aHM:Ent.OK tP aBR:=aLT
def xN(x:aH [.list TyD]):Option (aH [.bool,.int .i64]):=match x with
 | (v0,()) =>
  aC (K8 (v0,())) λy1 =>
  bif !(eqI y1.1 0) then
   some (false,y1.1,())
  else aC (qN (v0,())) λy2 =>
  some (y2.1,0,())
theorem aH8:aY tP (bZ [aBR,aJK]):=bB ⟨aHM,aNN,trivial⟩
theorem aME:dK tP 71 _ _ xN:=by exact bO aI aH8 Tryz.func71 (c:=aQ Tryz.f71) (by kernel_rfl) (aT:=aG Tryz.f71) (lt:=λ_=>none) (aD (lt:=λ_=>none) (l:=[]) (by kernel_rfl) trivial) (by rintro⟨v0,⟨⟩⟩; kernel_rfl)
abbrev aBI:Ent:=⟨71,_,_,xN⟩
theorem aIG:Ent.OK tP aBI:=aME
def iL(x:aH [.agg TyH]):Option (aH [.int .i64]):=match x with
 | (v0,()) =>
  aC (s9 (v0.1,v0.2,())) λy1 =>
  bif !(eqI y1.1 0) then
   some (y1.1,())
  else aC (xN (v0.2,())) λy2 =>
  bif !(eqI y2.2.1 0) then
   some (7,())
  else bif y2.1 then
   some (0,())
  else some (7,())
theorem aKN:aY tP (bZ [aBI,UU]):=bB ⟨aIG,V1,trivial⟩
theorem aNL:dK tP 73 _ _ iL:=by exact bO aI aKN Tryz.func73 (c:=aQ Tryz.f73) (by kernel_rfl) (aT:=aG Tryz.f73) (lt:=λ_=>none) (aD (lt:=λ_=>none) (l:=[]) (by kernel_rfl) trivial) (by rintro⟨v0,⟨⟩⟩; kernel_rfl)
abbrev AK:Ent:=⟨73,_,_,iL⟩
theorem yC:Ent.OK tP AK:=aNL
def LF(x:aH [.agg TyH,.list TyE]):Option (aH [.int .i64]):=match x with
 | (v0,v1,()) =>
  aC (iL (v0,())) λy1 =>
  bif !(eqI y1.1 0) then
   some (y1.1,())
  else aC (vT (v1,())) λy2 =>
  bif !(eqI y2.1 0) then
   some (y2.1,())
  else bif !(eqI (v1.length:Int) v0.1) then
   some (5,())
  else some (0,())
theorem aDC:aY tP (bZ [AK,Z5]):=bB ⟨yC,WS,trivial⟩
theorem aHV:dK tP 142 _ _ LF:=by exact bO aI aDC Tryz.func142 (c:=aQ Tryz.f142) (by kernel_rfl) (aT:=aG Tryz.f142) (lt:=λ_=>none) (aD (lt:=λ_=>none) (l:=[]) (by kernel_rfl) trivial) (by rintro⟨v0,v1,⟨⟩⟩; kernel_rfl)
abbrev WM:Ent:=⟨142,_,_,LF⟩
theorem aD5:Ent.OK tP WM:=aHV
def BB(x:aH [.agg TyH]):Option (aH [.clo 239 [TyH]]):=match x with
 | (v0,()) =>
  some ((v0,()),())
theorem S1:aY tP (bZ []):=bB trivial
theorem XC:dK tP 225 _ _ BB:=by exact bO aI S1 Tryz.func225 (c:=aQ Tryz.f225) (by kernel_rfl) (aT:=aG Tryz.f225) (lt:=λ_=>none) (aD (lt:=λ_=>none) (l:=[]) (by kernel_rfl) trivial) (by rintro⟨v0,⟨⟩⟩; kernel_rfl)
abbrev J3:Ent:=⟨225,_,_,BB⟩
theorem TC:Ent.OK tP J3:=XC
abbrev dL:List (Nat×Kd):=[(4,.bown 148 110 .str),(5,.bown 148 110 .str),(14,.clo 239 [TyH])]
abbrev iR:List (Ex×List (Nat×Kd)):=[(.normal,[(4,.bown 148 110 .str),(5,.bown 148 110 .str)])]
def DB(x:Shape.den dL)(e:aH [.int .i64,.list .str]):Option (Shape.den dL⊕aS iR):=match x,e with
 | (v4,v5,v14,()),(e0,e1,()) =>
  bif aJ e0 v4.length then bif Nat.blt e0.toNat v4.length then bif aJ e0 e1.length then aC (yX ((v4.getD e0.toNat ByteArray.empty),(e1.getD e0.toNat ByteArray.empty),())) λy3 =>
  aC (XS (t:=.str) sX v4 (y3.1,e1,())) λy4 =>
  bif Nat.ble [y3.1].length 1048576 then bif Nat.ble v5.length 1048576 then some (.inl (y4,(v5++[y3.1]),(v14.1,()),())) else none else none else none else none else none
def EP(x:Shape.den dL):U0 [TyH]:=match x with
 | (v4,v5,v14,())=>(v14.1,())
def uC(x:Shape.den dL):Option (aS iR):=a98 dL iR (λx=>aUN (EP x)) DB x
def tF(x:aH [.agg TyH,.list TyE]):Option (aH [.list .str,.list .str]):=match x with
 | (v0,v1,()) =>
  aC (oY (v1,())) λy1 =>
  aC (BB (v0,())) λy2 =>
  aC (uC (y1,[],(y2.1.1,()),())) λz5 =>
  some (z5.1,z5.2.1,())
def tE:Code:=aQ Tryz.f196
abbrev A8:Env:=OP [J3,WT] [GF,L2]
theorem F9:aY tP A8:=oB ⟨TC,YA,trivial⟩ ⟨HL,XP,trivial⟩
def cG:Code:=aGQ tE 0
def U2:Code:=inLoop cG
def yY(id:Nat):Option bI:=none
def zB(id:Nat):Option bI:=bif Nat.beq id 5 then some ⟨dL,iR,uC⟩ else none
theorem N9:cE U2=5:=by kernel_rfl
theorem C9:cG=.rangeFunc (aO9 cG) (a0Q cG) (N7 cG) (inLoop cG):=by kernel_rfl
theorem OI:∀ y e,aUL tP A8 40 (wO Tryz.f196) yY zB (a0Q cG).toList (N7 cG) (inLoop cG) [.int .i64,.list .str] dL iR y e=DB y e:=by
 rintro⟨v4,v5,v14,⟨⟩⟩ ⟨e0,e1,⟨⟩⟩
 kernel_rfl
theorem RQ:∀ x,a7V 239 [TyH] dL (aO9 cG) x=some (EP x):=by
 rintro⟨v4,v5,v14,⟨⟩⟩
 kernel_rfl
theorem QC:OZ tP 40 false [] cG ⟨dL,iR,uC⟩:=by exact a4W F9 aI C9 Tryz.func239 (c:=aQ Tryz.f239) (by kernel_rfl) a4I (by kernel_rfl) (uN (l:=[]) (by kernel_rfl) trivial) RQ OI
theorem RP:fG tE=[cG]:=by kernel_rfl
theorem TQ:∀ x,aDW tP A8 Tryz.f196 (wO Tryz.f196) yY zB tE [.agg TyH,.list TyE] [.list .str,.list .str] x=tF x:=by
 rintro⟨v0,v1,⟨⟩⟩
 kernel_rfl
theorem W4:dK tP 196 _ _ tF:=by exact RH aI F9 Tryz.func196 (c:=tE) (by kernel_rfl) (aT:=wO Tryz.f196) (lt:=yY) (rt:=zB) (uN RP ⟨a0H C9 N9 rfl QC,trivial⟩) TQ
abbrev JO:Ent:=⟨196,_,_,tF⟩
theorem TR:Ent.OK tP JO:=W4
end Go.PM
namespace Go.PM
open Go Go.RowKit Go.Proofs
set_option maxHeartbeats 4000000
def nM(u0:Unit) (x:aH [.int .i64]) (A:List (List ByteArray)):Option ((List ByteArray)×List (List ByteArray)):=match x with
 | (v0,()) =>
  bif !(ltI v0 0) then bif !(ltI v0 v0) then bif !(ltI 1048576 v0) then aC (oY ((List.replicate v0.toNat 0),())) λy1 =>
  some (y1,A) else none else none else none
def KT:Code:=aQ Tryz.f120
abbrev V4:Env:=OP [] [GF]
theorem aC7:aY tP V4:=oB trivial ⟨HL,trivial⟩
def S5(id:Nat):Option bI:=none
theorem aBX:cB KT=[]:=by kernel_rfl
theorem aDN:∀ l x A,G6 tP V4 Tryz.f120 (aG Tryz.f120) S5 KT 110 .str .none [.int .i64] (.own 110 .str) l x A=nM l x A:=by
 rintro u0 ⟨v0,⟨⟩⟩ A
 kernel_rfl
theorem aH6:N0 tP 120 110 .str .none [.int .i64] (.own 110 .str) nM:=by exact BE aI aC7 Tryz.func120 (c:=KT) (by kernel_rfl) (aT:=aG Tryz.f120) (lt:=S5) (by rfl) (aD aBX trivial) aDN
abbrev KH:Shr:=(120,U5 0 (arH 110 .str .none [.int .i64] (.own 110 .str) nM))
theorem NV:wN tP KH:=sG (g:=120) (f:=arH 110 .str .none [.int .i64] (.own 110 .str) nM) (FV aH6)
abbrev iA:List (Nat×Kd):=[(1,.int .i64),(2,.int .i64),(7,.own 148 (.hnd 1)),(10,.list (.hnd 1)),(11,.int .i64),(12,.int .i64),(100000,.ar 110 .str)]
abbrev lH:List (Ex×List (Nat×Kd)):=[(.exit 0,[(2,.int .i64),(7,.own 148 (.hnd 1)),(100000,.ar 110 .str)])]
def fX(x:Shape.den iA):Option (Shape.den iA⊕aS lH):=match x with
 | (v1,v2,v7,v10,v11,v12,v100000,()) =>
  bif ltI v12 v11 then
   bif aJ v12 v10.length then aC (j6 () (((v10.getD v12.toNat (0,0,0)).1,(v10.getD v12.toNat (0,0,0)).2.1,(v10.getD v12.toNat (0,0,0)).2.2),()) v100000) λy2 =>
   bif !(ltI y2.1.1 v1) then
    bif !(ltI v1 0) then bif Nat.ble v1.toNat ((v10.getD v12.toNat (0,0,0)).2.2) then bif Nat.ble ((v10.getD v12.toNat (0,0,0)).2.2) ((v10.getD v12.toNat (0,0,0)).2.2) then bif Nat.ble [((v10.getD v12.toNat (0,0,0)).1,((v10.getD v12.toNat (0,0,0)).2.1+v1.toNat),((v10.getD v12.toNat (0,0,0)).2.2-v1.toNat))].length 1048576 then bif Nat.ble v7.length 1048576 then some (.inl (v1,v2,(v7++[((v10.getD v12.toNat (0,0,0)).1,((v10.getD v12.toNat (0,0,0)).2.1+v1.toNat),((v10.getD v12.toNat (0,0,0)).2.2-v1.toNat))]),v10,v11,(aB .i64 (v12+1)),y2.2,())) else none else none else none else none else none
   else some (.inl (v1,v2,v7,v10,v11,(aB .i64 (v12+1)),y2.2,())) else none
  else some (.inr ((v2,v7,v100000,())))
def jP(x:Shape.den iA):Option (aS lH):=bY fX (2^64) x
def gV(u0:Unit)(x:aH [.list (.hnd 1),.int .i64,.int .i64])(A:List (List ByteArray)):Option ((List (Nat×Nat×Nat))×List (List ByteArray)):=match x with
 | (v0,v1,v2,()) =>
  aC (jP (v1,v2,[],v0,(v0.length:Int),0,A,())) λz3 =>
  aC (dD z3.2.1 (z3.1,()) z3.2.2.1) λy4 =>
  some y4
def sI:Code:=aQ Tryz.f122
abbrev zF:Env:=OP [] [N6,lX]
theorem EM:aY tP zF:=oB trivial ⟨YF,mH,trivial⟩
def vU:Code:=eG sI 0
def xE(id:Nat):Option bI:=bif Nat.beq id 3 then some ⟨iA,lH,jP⟩ else none
theorem M7:∀ x,dY tP zF 30 (aG Tryz.f122) xE vU iA lH x=fX x:=by
 rintro⟨v1,v2,v7,v10,v11,v12,v100000,⟨⟩⟩
 kernel_rfl
theorem O5:cN tP 30 vU ⟨iA,lH,jP⟩:=by exact cL EM.callee aI.mixed _ (aD (l:=[]) (by kernel_rfl) trivial) M7
theorem P9:cB sI=[vU]:=by kernel_rfl
theorem R4:∀ l x A,G6 tP zF Tryz.f122 (aG Tryz.f122) xE sI 110 .str .none [.list (.hnd 1),.int .i64,.int .i64] (.own 148 (.hnd 1)) l x A=gV l x A:=by
 rintro u0 ⟨v0,v1,v2,⟨⟩⟩ A
 kernel_rfl
theorem UW:N0 tP 122 110 .str .none [.list (.hnd 1),.int .i64,.int .i64] (.own 148 (.hnd 1)) gV:=by exact BE aI EM Tryz.func122 (c:=sI) (by kernel_rfl) (aT:=aG Tryz.f122) (lt:=xE) (by rfl) (aD P9 ⟨cK (i:=3) (by kernel_rfl) rfl O5,trivial⟩) R4
abbrev yW:Shr:=(122,U5 0 (arH 110 .str .none [.list (.hnd 1),.int .i64,.int .i64] (.own 148 (.hnd 1)) gV))
theorem ES:wN tP yW:=sG (g:=122) (f:=arH 110 .str .none [.list (.hnd 1),.int .i64,.int .i64] (.own 148 (.hnd 1)) gV) (FV UW)
abbrev iB:List (Nat×Kd):=[(0,.list (.hnd 1)),(1,.int .i64),(5,.own 148 (.hnd 1)),(6,.int .i64),(7,.own 110 .str),(11,.int .i64),(12,.int .i64),(15,.list (.hnd 1)),(16,.int .i64),(17,.int .i64),(100000,.ar 110 .str)]
abbrev lC:List (Ex×List (Nat×Kd)):=[(.exit 2,[(0,.list (.hnd 1)),(1,.int .i64),(5,.own 148 (.hnd 1)),(6,.int .i64),(7,.own 110 .str),(11,.int .i64),(12,.int .i64),(100000,.ar 110 .str)])]
def jX(x:Shape.den iB):Option (Shape.den iB⊕aS lC):=match x with
 | (v0,v1,v5,v6,v7,v11,v12,v15,v16,v17,v100000,()) =>
  bif ltI v17 v16 then
   bif aJ v17 v15.length then bif aJ v6 ((v15.getD v17.toNat (0,0,0)).2.2) then bif Nat.blt (((v15.getD v17.toNat (0,0,0)).2.1+v6.toNat)*1) (dB v100000 ((v15.getD v17.toNat (0,0,0)).1)) then bif Nat.ble [(dS v100000 ((v15.getD v17.toNat (0,0,0)).1) (((v15.getD v17.toNat (0,0,0)).2.1+v6.toNat)*1) ByteArray.empty)].length 1048576 then bif Nat.ble v7.length 1048576 then some (.inl (v0,v1,v5,v6,(v7++[(dS v100000 ((v15.getD v17.toNat (0,0,0)).1) (((v15.getD v17.toNat (0,0,0)).2.1+v6.toNat)*1) ByteArray.empty)]),v11,v12,v15,v16,(aB .i64 (v17+1)),v100000,())) else none else none else none else none else none
  else some (.inr ((v0,v1,v5,v6,v7,v11,v12,v100000,())))
def nH(x:Shape.den iB):Option (aS lC):=bY jX (2^64) x
abbrev iF:List (Nat×Kd):=[(0,.list (.hnd 1)),(1,.int .i64),(5,.own 148 (.hnd 1)),(11,.int .i64),(12,.int .i64),(100000,.ar 110 .str)]
abbrev lI:List (Ex×List (Nat×Kd)):=[(.exit 0,[(0,.list (.hnd 1)),(1,.int .i64),(5,.own 148 (.hnd 1)),(100000,.ar 110 .str)])]
def jV(x:Shape.den iF):Option (Shape.den iF⊕aS lI):=match x with
 | (v0,v1,v5,v11,v12,v100000,()) =>
  bif ltI v12 v11 then
   aC (nH (v0,v1,v5,v12,[],v11,v12,v0,(v0.length:Int),0,v100000,())) λz3 =>
   aC (nM () (z3.2.1,()) z3.2.2.2.2.2.2.2.1) λy4 =>
   bif aJ z3.2.2.2.1 y4.1.length then bif Nat.blt z3.2.2.2.1.toNat y4.1.length then bif Nat.ble (y4.1.set z3.2.2.2.1.toNat (ByteArray.mk #[49])).length 1048576 then bif Nat.ble z3.2.2.2.2.1.length 1048576 then bif Nat.ble [(y4.2.length,0,(z3.2.2.2.2.1++(y4.1.set z3.2.2.2.1.toNat (ByteArray.mk #[49]))).length)].length 1048576 then bif Nat.ble z3.2.2.1.length 1048576 then some (.inl (z3.1,z3.2.1,(z3.2.2.1++[(y4.2.length,0,(z3.2.2.2.2.1++(y4.1.set z3.2.2.2.1.toNat (ByteArray.mk #[49]))).length)]),z3.2.2.2.2.2.1,(aB .i64 (z3.2.2.2.2.2.2.1+1)),(y4.2++[(z3.2.2.2.2.1++(y4.1.set z3.2.2.2.1.toNat (ByteArray.mk #[49])))]),())) else none else none else none else none else none else none
  else some (.inr ((v0,v1,v5,v100000,())))
def jQ(x:Shape.den iF):Option (aS lI):=bY jV (2^64) x
def cW(u0:Unit)(x:aH [.list (.hnd 1),.int .i64])(A:List (List ByteArray)):Option ((List (Nat×Nat×Nat))×List (List ByteArray)):=match x with
 | (v0,v1,()) =>
  aC (jQ (v0,v1,[],v1,0,A,())) λz5 =>
  aC (dD z5.2.2.1 ((aB .i64 ((z5.1.length:Int)+z5.2.1)),()) z5.2.2.2.1) λy6 =>
  aC (gV () (y6.1,(z5.1.length:Int),z5.2.1,()) y6.2) λy7 =>
  some y7
def sH:Code:=aQ Tryz.f130
abbrev sD:Env:=OP [] [yW,lX,KH]
theorem uM:aY tP sD:=oB trivial ⟨ES,mH,NV,trivial⟩
def mK:Code:=eG sH 0
def wH:Code:=eG mK 0
def qP(id:Nat):Option bI:=bif Nat.beq id 7 then some ⟨iB,lC,nH⟩ else bif Nat.beq id 3 then some ⟨iF,lI,jQ⟩ else none
theorem MP:∀ x,dY tP sD 51 (aG Tryz.f130) qP wH iB lC x=jX x:=by
 rintro⟨v0,v1,v5,v6,v7,v11,v12,v15,v16,v17,v100000,⟨⟩⟩
 kernel_rfl
theorem OO:cN tP 51 wH ⟨iB,lC,nH⟩:=by exact cL uM.callee aI.mixed _ (aD (l:=[]) (by kernel_rfl) trivial) MP
theorem ME:∀ x,dY tP sD 51 (aG Tryz.f130) qP mK iF lI x=jV x:=by
 rintro⟨v0,v1,v5,v11,v12,v100000,⟨⟩⟩
 kernel_rfl
theorem RD:cB mK=[wH]:=by kernel_rfl
theorem NW:cN tP 51 mK ⟨iF,lI,jQ⟩:=by exact cL uM.callee aI.mixed _ (aD RD ⟨cK (i:=7) (by kernel_rfl) rfl OO,trivial⟩) ME
theorem P5:cB sH=[mK]:=by kernel_rfl
theorem R5:∀ l x A,G6 tP sD Tryz.f130 (aG Tryz.f130) qP sH 110 .str .none [.list (.hnd 1),.int .i64] (.own 148 (.hnd 1)) l x A=cW l x A:=by
 rintro u0 ⟨v0,v1,⟨⟩⟩ A
 kernel_rfl
theorem UY:N0 tP 130 110 .str .none [.list (.hnd 1),.int .i64] (.own 148 (.hnd 1)) cW:=by exact BE aI uM Tryz.func130 (c:=sH) (by kernel_rfl) (aT:=aG Tryz.f130) (lt:=qP) (by rfl) (aD P5 ⟨cK (i:=3) (by kernel_rfl) rfl NW,trivial⟩) R5
abbrev yT:Shr:=(130,U5 0 (arH 110 .str .none [.list (.hnd 1),.int .i64] (.own 148 (.hnd 1)) cW))
theorem EF:wN tP yT:=sG (g:=130) (f:=arH 110 .str .none [.list (.hnd 1),.int .i64] (.own 148 (.hnd 1)) cW) (FV UY)
def fT(x:aH [.agg TyH]):Option (aH [.agg TyH,.int .i64]):=match x with
 | (v0,()) =>
  aC (iL (v0,())) λy1 =>
  bif !(eqI y1.1 0) then
   some ((0,[]),y1.1,())
  else aC (eJ () (v0.2,()) []) λy2 =>
  aC (cW () (y2.1,v0.1,()) y2.2) λy3 =>
  aC (cW () (y3.1,v0.1,()) y3.2) λy4 =>
  aC (bV y4.1 (v0.1,()) y4.2) λy5 =>
  some (y5.1.1,y5.1.2.1,())
def LI:Code:=aQ Tryz.f74
abbrev V6:Env:=OP [AK] [uK,yT,lU]
theorem aEW:aY tP V6:=oB ⟨yC,trivial⟩ ⟨u9,EF,mC,trivial⟩
def SQ(id:Nat):Option bI:=none
theorem aB0:cB LI=[]:=by kernel_rfl
theorem aD8:∀ x,aGR tP V6 Tryz.f74 (aG Tryz.f74) SQ LI 110 .str _ _ x=fT x:=by
 rintro⟨v0,⟨⟩⟩
 kernel_rfl
theorem aIC:dK tP 74 _ _ fT:=by exact aM5 aI aEW Tryz.func74 (c:=LI) (by kernel_rfl) (aT:=aG Tryz.f74) (lt:=SQ) (aD aB0 trivial) aD8
abbrev ER:Ent:=⟨74,_,_,fT⟩
theorem FL:Ent.OK tP ER:=aIC
def dR(x:aH [.agg TyH]):Option (aH [.agg TyH,.int .i64]):=match x with
 | (v0,()) =>
  aC (iL (v0,())) λy1 =>
  bif !(eqI y1.1 0) then
   some ((0,[]),y1.1,())
  else aC (eJ () (v0.2,()) []) λy2 =>
  aC (cW () (y2.1,v0.1,()) y2.2) λy3 =>
  aC (bV y3.1 (v0.1,()) y3.2) λy4 =>
  some (y4.1.1,y4.1.2.1,())
def E4:Code:=aQ Tryz.f76
abbrev OS:Env:=OP [AK] [uK,yT,lU]
theorem YT:aY tP OS:=oB ⟨yC,trivial⟩ ⟨u9,EF,mC,trivial⟩
def L0(id:Nat):Option bI:=none
theorem XH:cB E4=[]:=by kernel_rfl
theorem Y7:∀ x,aGR tP OS Tryz.f76 (aG Tryz.f76) L0 E4 110 .str _ _ x=dR x:=by
 rintro⟨v0,⟨⟩⟩
 kernel_rfl
theorem aCU:dK tP 76 _ _ dR:=by exact aM5 aI YT Tryz.func76 (c:=E4) (by kernel_rfl) (aT:=aG Tryz.f76) (lt:=L0) (aD XH trivial) Y7
abbrev xS:Ent:=⟨76,_,_,dR⟩
theorem AQ:Ent.OK tP xS:=aCU
end Go.PM
namespace Go.Lz
def d2(a b:V)(x y:Nat):Int:=a x*b y-a y*b x
def d3(a b c:V)(x y z:Nat):Int:=d2 a b x y*c z-d2 a b x z*c y+d2 a b y z*c x
def d4(a b c d:V)(x y z u:Nat):Int:=d3 a b c x y z*d u-d3 a b c x y u*d z+d3 a b c x z u*d y-d3 a b c y z u*d x
structure Lin (f:V->Int):Prop where
 zero:f (λ_=>0)=0
 add:∀ u t m,f (λi=>u i+t*m i)=f u+t*f m
theorem Lin.sp {f:V->Int}(h:Lin f){k:Nat}{M:Nat->V}(hz:∀ j,j<k->f (M j)=0){v:V}(hv:Sp k M v):f v=0:=by
 induction hv with
 | zero=>exact h.zero
 | add j t hj _ ih=>rw[h.add,ih,hz j hj]; simp
theorem Lin.pick {f:V->Int} (h:Lin f) {k:Nat} {M:Nat->V} {u:V} {t:Int} (ht:t≠0) (hs:Sp k M (λi=>t*u i)) (hu:f u≠0):∃ j,j<k/\f (M j)≠0:=by
 refine Classical.byContradiction λhn=>?_
 have hz:∀ j,j<k->f (M j)=0:=λj hj=>Classical.byContradiction λh0=>hn ⟨j,hj,h0⟩
 have h1:=h.sp hz hs;have h2:=h.add (λ_=>0) t u;have e:(λi=>(0:Int)+t*u i)=λi=>t*u i:=by funext i; simp
 rw[e,h1,h.zero,Int.zero_add]at h2;rcases Int.mul_eq_zero.1 h2.symm with h3|h3
 ·exact ht h3
 ·exact hu h3
theorem aR8 {x y:Int}{A B:Nat}(hx:x.natAbs<=A)(hy:y.natAbs<=B):(x*y).natAbs<=A*B:=by rw[Int.natAbs_mul]; exact Nat.mul_le_mul hx hy
theorem d2B {a b:V}{E:Nat}(ha:∀ x,(a x).natAbs<=E)(hb:∀ x,(b x).natAbs<=E)(x y:Nat):(d2 a b x y).natAbs<=2*(E*E):=by
 have h1:=aR8 (ha x) (hb y);have h2:=aR8 (ha y) (hb x);unfold d2;omega
theorem d3B {a b c:V}{E:Nat}(ha:∀ x,(a x).natAbs<=E)(hb:∀ x,(b x).natAbs<=E)(hc:∀ x,(c x).natAbs<=E)(x y z:Nat):(d3 a b c x y z).natAbs<=6*(E*E*E):=by
 have h1:=aR8 (d2B ha hb x y) (hc z);have h2:=aR8 (d2B ha hb x z) (hc y);have h3:=aR8 (d2B ha hb y z) (hc x);have e:2*(E*E)*E=2*(E*E*E):=by grind
 rw[e]at h1 h2 h3;unfold d3;omega
theorem d4B {a b c d:V}{E:Nat}(ha:∀ x,(a x).natAbs<=E)(hb:∀ x,(b x).natAbs<=E)(hc:∀ x,(c x).natAbs<=E)(hd:∀ x,(d x).natAbs<=E)(x y z u:Nat):(d4 a b c d x y z u).natAbs<=24*(E*E*E*E):=by
 have h1:=aR8 (d3B ha hb hc x y z) (hd u);have h2:=aR8 (d3B ha hb hc x y u) (hd z);have h3:=aR8 (d3B ha hb hc x z u) (hd y);have h4:=aR8 (d3B ha hb hc y z u) (hd x);have e:6*(E*E*E)*E=6*(E*E*E*E):=by grind
 rw[e]at h1 h2 h3 h4;unfold d4;omega
def Dg(k:Nat) (M:Nat->V) (r:Nat) (p:Nat->Nat) (W:Nat):Prop :=
 ∃ (D:Int) (w:Nat->V),D≠0/\∀ j,j<r->Sp k M (w j)/\w j (p j)=D/\(∀ i,i<r->i≠j->w j (p i)=0)/\∀ x,(w j x).natAbs<=W
theorem Dg.mono {k k':Nat}{M M':Nat->V}{r:Nat}{p:Nat->Nat}{W:Nat}(h:Dg k M r p W)(hs:∀ v,Sp k M v->Sp k' M' v):Dg k' M' r p W:=by
 obtain⟨D,w,h0,h1⟩:=h;exact⟨D,w,h0,λj hj=>⟨hs _ (h1 j hj).1,(h1 j hj).2⟩⟩
section
variable {k:Nat} {M:Nat->V}
theorem Sp.bA1 {a b:Nat}(ha:a<k)(hb:b<k)(s t:Int):Sp k M (λi=>s*M a i+t*M b i):=Sp.comb t (Sp.smul s (Sp.mem ha)) (Sp.mem hb)
theorem Sp.bAB {a b c:Nat}(ha:a<k)(hb:b<k)(hc:c<k)(s t u:Int):Sp k M (λi=>s*M a i+t*M b i+u*M c i):=Sp.comb u (Sp.bA1 ha hb s t) (Sp.mem hc)
theorem Sp.a9Y {a b c d:Nat}(ha:a<k)(hb:b<k)(hc:c<k)(hd:d<k)(s t u v:Int):Sp k M (λi=>s*M a i+t*M b i+u*M c i+v*M d i):=Sp.comb v (Sp.bAB ha hb hc s t u) (Sp.mem hd)
theorem a16 {u:V} {p0:Nat} {t:Int} (ht:t≠0) (hs:Sp k M (λi=>t*u i)) (h0:u p0≠0):∃ a,a<k/\M a p0≠0 :=
 Lin.pick (f:=λv=>v p0) ⟨rfl,λ_ _ _=>rfl⟩ ht hs h0
theorem a63 {u:V}{a p0 p1:Nat}{t:Int}(ht:t≠0)(hs:Sp k M (λi=>t*u i))(h0:u p0=0)(h1:u p1≠0)(ha:M a p0≠0):∃ b,b<k/\d2 (M a) (M b) p0 p1≠0:=by
 refine Lin.pick (f:=λv=>d2 (M a) v p0 p1) ⟨by simp[d2],λu t m=>by simp only[d2]; grind⟩ ht hs ?_;simp only[d2,h0,Int.mul_zero,Int.sub_zero];exact λh=>(Int.mul_eq_zero.1 h).elim ha h1
theorem bAU {u:V}{a b p0 p1 p2:Nat}{t:Int}(ht:t≠0)(hs:Sp k M (λi=>t*u i))(h0:u p0=0)(h1:u p1=0)(h2:u p2≠0)(ha:d2 (M a) (M b) p0 p1≠0):∃ c,c<k/\d3 (M a) (M b) (M c) p0 p1 p2≠0:=by
 refine Lin.pick (f:=λv=>d3 (M a) (M b) v p0 p1 p2) ⟨by simp[d3],λu t m=>by simp only[d3]; grind⟩ ht hs ?_;simp only[d3,h0,h1,Int.mul_zero,Int.sub_zero,Int.add_zero];exact λh=>(Int.mul_eq_zero.1 h).elim ha h2
theorem bB9 {u:V}{a b c p0 p1 p2 p3:Nat}{t:Int}(ht:t≠0)(hs:Sp k M (λi=>t*u i))(h0:u p0=0)(h1:u p1=0)(h2:u p2=0)(h3:u p3≠0)(ha:d3 (M a) (M b) (M c) p0 p1 p2≠0):∃ d,d<k/\d4 (M a) (M b) (M c) (M d) p0 p1 p2 p3≠0:=by
 refine Lin.pick (f:=λv=>d4 (M a) (M b) (M c) v p0 p1 p2 p3) ⟨by simp[d4],λu t m=>by simp only[d4]; grind⟩ ht hs ?_;simp only[d4,h0,h1,h2,Int.mul_zero,Int.sub_zero,Int.add_zero];exact λh=>(Int.mul_eq_zero.1 h).elim ha h3
theorem bCY {p:Nat->Nat}{W a:Nat}(hB:∀ x,(M a x).natAbs<=W)(ha:a<k)(h:M a (p 0)≠0):Dg k M 1 p W :=
 ⟨_,λ_=>M a,h,λj hj=>by
  obtain rfl:j=0:=by omega
  exact⟨Sp.mem ha,rfl,λi hi hne=>by omega,hB⟩⟩
theorem bCX {p:Nat->Nat}{W a b:Nat}(hB:∀ x y,(d2 (M a) (M b) x y).natAbs<=W)(ha:a<k)(hb:b<k)(h:d2 (M a) (M b) (p 0) (p 1)≠0):Dg k M 2 p W:=by
 refine⟨_,λj=>if j=0 then (λx=>d2 (M a) (M b) x (p 1)) else λx=>d2 (M a) (M b) (p 0) x,h,λj hj=>?_⟩;rcases(show j=0\/j=1 by omega)with rfl|rfl
 ·refine⟨?_,rfl,λi hi hne=>?_,λx=>hB _ _⟩
  ·refine cast (congrArg (Sp k M) ?_) (Sp.bA1 ha hb (M b (p 1)) (-(M a (p 1))))
   funext x
   simp only[if_true,d2]; grind
  ·obtain rfl:i=1:=by omega
   simp only[if_true,d2]; grind
 ·refine⟨?_,rfl,λi hi hne=>?_,λx=>hB _ _⟩
  ·refine cast (congrArg (Sp k M) ?_) (Sp.bA1 ha hb (-(M b (p 0))) (M a (p 0)))
   funext x
   simp only[d2,Nat.one_ne_zero,if_false]; grind
  ·obtain rfl:i=0:=by omega
   simp only[d2,Nat.one_ne_zero,if_false]; grind
theorem bCT {p:Nat->Nat}{W a b c:Nat}(hB:∀ x y z,(d3 (M a) (M b) (M c) x y z).natAbs<=W)(ha:a<k)(hb:b<k)(hc:c<k)(h:d3 (M a) (M b) (M c) (p 0) (p 1) (p 2)≠0):Dg k M 3 p W:=by
 refine⟨_,λj=>if j=0 then (λx=>d3 (M a) (M b) (M c) x (p 1) (p 2)) else if j=1 then (λx=>d3 (M a) (M b) (M c) (p 0) x (p 2)) else λx=>d3 (M a) (M b) (M c) (p 0) (p 1) x,h,λj hj=>?_⟩;rcases(show j=0\/j=1\/j=2 by omega)with rfl|rfl|rfl
 ·refine⟨?_,rfl,λi hi hne=>?_,λx=>hB _ _ _⟩
  ·refine cast (congrArg (Sp k M) ?_) (Sp.bAB ha hb hc (d2 (M b) (M c) (p 1) (p 2)) (-(d2 (M a) (M c) (p 1) (p 2))) (d2 (M a) (M b) (p 1) (p 2)))
   funext x
   show _=d3 (M a) (M b) (M c) x (p 1) (p 2);simp only[d3,d2]; grind
  ·show (λx=>d3 (M a) (M b) (M c) x (p 1) (p 2)) (p i)=0;rcases(show i=1\/i=2 by omega)with rfl|rfl
   ·simp only[d3,d2]; grind
   ·simp only[d3,d2]; grind
 ·refine⟨?_,rfl,λi hi hne=>?_,λx=>hB _ _ _⟩
  ·refine cast (congrArg (Sp k M) ?_) (Sp.bAB ha hb hc (-(d2 (M b) (M c) (p 0) (p 2))) (d2 (M a) (M c) (p 0) (p 2)) (-(d2 (M a) (M b) (p 0) (p 2))))
   funext x
   show _=d3 (M a) (M b) (M c) (p 0) x (p 2);simp only[d3,d2]; grind
  ·show (λx=>d3 (M a) (M b) (M c) (p 0) x (p 2)) (p i)=0;rcases(show i=0\/i=2 by omega)with rfl|rfl
   ·simp only[d3,d2]; grind
   ·simp only[d3,d2]; grind
 ·refine⟨?_,rfl,λi hi hne=>?_,λx=>hB _ _ _⟩
  ·refine cast (congrArg (Sp k M) ?_) (Sp.bAB ha hb hc (d2 (M b) (M c) (p 0) (p 1)) (-(d2 (M a) (M c) (p 0) (p 1))) (d2 (M a) (M b) (p 0) (p 1)))
   funext x
   show _=d3 (M a) (M b) (M c) (p 0) (p 1) x;simp only[d3,d2]; grind
  ·show (λx=>d3 (M a) (M b) (M c) (p 0) (p 1) x) (p i)=0;rcases(show i=0\/i=1 by omega)with rfl|rfl
   ·simp only[d3,d2]; grind
   ·simp only[d3,d2]; grind
theorem bCU {p:Nat->Nat}{W a b c d:Nat}(hB:∀ x y z u,(d4 (M a) (M b) (M c) (M d) x y z u).natAbs<=W)(ha:a<k)(hb:b<k)(hc:c<k)(hd:d<k)(h:d4 (M a) (M b) (M c) (M d) (p 0) (p 1) (p 2) (p 3)≠0):Dg k M 4 p W:=by
 refine⟨_,λj=>if j=0 then (λx=>d4 (M a) (M b) (M c) (M d) x (p 1) (p 2) (p 3)) else if j=1 then (λx=>d4 (M a) (M b) (M c) (M d) (p 0) x (p 2) (p 3)) else if j=2 then (λx=>d4 (M a) (M b) (M c) (M d) (p 0) (p 1) x (p 3)) else λx=>d4 (M a) (M b) (M c) (M d) (p 0) (p 1) (p 2) x,h,λj hj=>?_⟩;rcases(show j=0\/j=1\/j=2\/j=3 by omega)with rfl|rfl|rfl|rfl
 ·refine⟨?_,rfl,λi hi hne=>?_,λx=>hB _ _ _ _⟩
  ·refine cast (congrArg (Sp k M) ?_) (Sp.a9Y ha hb hc hd (d3 (M b) (M c) (M d) (p 1) (p 2) (p 3)) (-(d3 (M a) (M c) (M d) (p 1) (p 2) (p 3))) (d3 (M a) (M b) (M d) (p 1) (p 2) (p 3)) (-(d3 (M a) (M b) (M c) (p 1) (p 2) (p 3))))
   funext x
   show _=d4 (M a) (M b) (M c) (M d) x (p 1) (p 2) (p 3);simp only[d4,d3,d2]; grind
  ·show (λx=>d4 (M a) (M b) (M c) (M d) x (p 1) (p 2) (p 3)) (p i)=0;rcases(show i=1\/i=2\/i=3 by omega)with rfl|rfl|rfl
   ·simp only[d4,d3,d2]; grind
   ·simp only[d4,d3,d2]; grind
   ·simp only[d4,d3,d2]; grind
 ·refine⟨?_,rfl,λi hi hne=>?_,λx=>hB _ _ _ _⟩
  ·refine cast (congrArg (Sp k M) ?_) (Sp.a9Y ha hb hc hd (-(d3 (M b) (M c) (M d) (p 0) (p 2) (p 3))) (d3 (M a) (M c) (M d) (p 0) (p 2) (p 3)) (-(d3 (M a) (M b) (M d) (p 0) (p 2) (p 3))) (d3 (M a) (M b) (M c) (p 0) (p 2) (p 3)))
   funext x
   show _=d4 (M a) (M b) (M c) (M d) (p 0) x (p 2) (p 3);simp only[d4,d3,d2]; grind
  ·show (λx=>d4 (M a) (M b) (M c) (M d) (p 0) x (p 2) (p 3)) (p i)=0;rcases(show i=0\/i=2\/i=3 by omega)with rfl|rfl|rfl
   ·simp only[d4,d3,d2]; grind
   ·simp only[d4,d3,d2]; grind
   ·simp only[d4,d3,d2]; grind
 ·refine⟨?_,rfl,λi hi hne=>?_,λx=>hB _ _ _ _⟩
  ·refine cast (congrArg (Sp k M) ?_) (Sp.a9Y ha hb hc hd (d3 (M b) (M c) (M d) (p 0) (p 1) (p 3)) (-(d3 (M a) (M c) (M d) (p 0) (p 1) (p 3))) (d3 (M a) (M b) (M d) (p 0) (p 1) (p 3)) (-(d3 (M a) (M b) (M c) (p 0) (p 1) (p 3))))
   funext x
   show _=d4 (M a) (M b) (M c) (M d) (p 0) (p 1) x (p 3);simp only[d4,d3,d2]; grind
  ·show (λx=>d4 (M a) (M b) (M c) (M d) (p 0) (p 1) x (p 3)) (p i)=0;rcases(show i=0\/i=1\/i=3 by omega)with rfl|rfl|rfl
   ·simp only[d4,d3,d2]; grind
   ·simp only[d4,d3,d2]; grind
   ·simp only[d4,d3,d2]; grind
 ·refine⟨?_,rfl,λi hi hne=>?_,λx=>hB _ _ _ _⟩
  ·refine cast (congrArg (Sp k M) ?_) (Sp.a9Y ha hb hc hd (-(d3 (M b) (M c) (M d) (p 0) (p 1) (p 2))) (d3 (M a) (M c) (M d) (p 0) (p 1) (p 2)) (-(d3 (M a) (M b) (M d) (p 0) (p 1) (p 2))) (d3 (M a) (M b) (M c) (p 0) (p 1) (p 2)))
   funext x
   show _=d4 (M a) (M b) (M c) (M d) (p 0) (p 1) (p 2) x;simp only[d4,d3,d2]; grind
  ·show (λx=>d4 (M a) (M b) (M c) (M d) (p 0) (p 1) (p 2) x) (p i)=0;rcases(show i=0\/i=1\/i=2 by omega)with rfl|rfl|rfl
   ·simp only[d4,d3,d2]; grind
   ·simp only[d4,d3,d2]; grind
   ·simp only[d4,d3,d2]; grind
def fac(E:Nat):Nat->Nat
 | 0=>1
 | 1=>E
 | 2=>2*(E*E)
 | 3=>6*(E*E*E)
 | _=>24*(E*E*E*E)
theorem aV8 {r E:Nat}{H:Nat->V}{p:Nat->Nat}(hr:r<=4)(hH:Hn r H p)(hs:∀ j,j<r->∃ t:Int,t≠0/\Sp k M (λi=>t*H j i))(hE:∀ j,j<k->∀ x,(M j x).natAbs<=E):Dg k M r p (fac E r):=by
 have pv:∀ j,j<r->H j (p j)≠0:=λj hj=>by have:=hH.pos j hj; omega
 have lo:∀ i j,i<j->j<r->H j (p i)=0:=λi j hij hj=>hH.low j hj _ (hH.inc i j hij hj)
 rcases(show r=0\/r=1\/r=2\/r=3\/r=4 by omega)with rfl|rfl|rfl|rfl|rfl
 ·exact⟨1,λ_ _=>0,by decide,λj hj=>by omega⟩
 ·obtain⟨t,ht,h0⟩:=hs 0 (by omega);obtain⟨a,ha,q0⟩:=a16 ht h0 (pv 0 (by omega));exact bCY (hE a ha) ha q0
 ·obtain⟨t,ht,h0⟩:=hs 0 (by omega);obtain⟨a,ha,q0⟩:=a16 ht h0 (pv 0 (by omega));obtain⟨t,ht,h0⟩:=hs 1 (by omega);obtain⟨b,hb,q1⟩:=a63 ht h0 (lo 0 1 (by omega) (by omega)) (pv 1 (by omega)) q0;exact bCX (d2B (hE a ha) (hE b hb)) ha hb q1
 ·obtain⟨t,ht,h0⟩:=hs 0 (by omega);obtain⟨a,ha,q0⟩:=a16 ht h0 (pv 0 (by omega));obtain⟨t,ht,h0⟩:=hs 1 (by omega);obtain⟨b,hb,q1⟩:=a63 ht h0 (lo 0 1 (by omega) (by omega)) (pv 1 (by omega)) q0;obtain⟨t,ht,h0⟩:=hs 2 (by omega);obtain⟨c,hc,q2⟩:=bAU ht h0 (lo 0 2 (by omega) (by omega)) (lo 1 2 (by omega) (by omega)) (pv 2 (by omega)) q1;exact bCT (d3B (hE a ha) (hE b hb) (hE c hc)) ha hb hc q2
 ·obtain⟨t,ht,h0⟩:=hs 0 (by omega);obtain⟨a,ha,q0⟩:=a16 ht h0 (pv 0 (by omega));obtain⟨t,ht,h0⟩:=hs 1 (by omega);obtain⟨b,hb,q1⟩:=a63 ht h0 (lo 0 1 (by omega) (by omega)) (pv 1 (by omega)) q0;obtain⟨t,ht,h0⟩:=hs 2 (by omega);obtain⟨c,hc,q2⟩:=bAU ht h0 (lo 0 2 (by omega) (by omega)) (lo 1 2 (by omega) (by omega)) (pv 2 (by omega)) q1;obtain⟨t,ht,h0⟩:=hs 3 (by omega);obtain⟨d,hd,q3⟩:=bB9 ht h0 (lo 0 3 (by omega) (by omega)) (lo 1 3 (by omega) (by omega)) (lo 2 3 (by omega) (by omega)) (pv 3 (by omega)) q2
  exact bCU (d4B (hE a ha) (hE b hb) (hE c hc) (hE d hd)) ha hb hc hd q3
end
theorem Hn.zero {k:Nat} {M:Nat->V} {c:Nat->Nat} (h:Hn k M c) {v:V} (hv:Sp k M v) (hz:∀ i,i<k->v (c i)=0):v=λ_=>0 :=
 h.small hv λi hi=>by have:=h.pos i hi; rw[hz i hi]; constructor <;> omega
theorem Hn.a7C:∀ {k:Nat} {M:Nat->V} {c:Nat->Nat},Hn k M c->∀ {v:V},Sp k M v->∀ j,j<k->(∀ i,i<j->v (c i)=0)->M j (c j) ∣ v (c j)
 | 0,_,_,_,_,_,j,hj,_=>by omega
 | k+1,M,c,h,v,hv,j,hj,hz=>by
  obtain⟨t,u,hu,rfl⟩:=hv.first;have h0:=h.aNC hu (Nat.le_refl _);cases j with
  | zero=>exact⟨t,by simp only[h0,Int.zero_add]; exact Int.mul_comm _ _⟩
  | succ j =>
   have h1:=hz 0 (by omega);have hp:=h.pos 0 (by omega);simp only[h0,Int.zero_add]at h1;have ht:t=0:=by
    rcases Int.mul_eq_zero.1 h1 with h2|h2
    ·exact h2
    ·omega
   subst ht;have:=Hn.a7C h.tail hu j (by omega) λi hi=>by have:=hz (i+1) (by omega); simpa using this
   simpa using this
def sm(f:Nat->Int):Nat->Int
 | 0=>0
 | n+1=>sm f n+f n
theorem aOE {f:Nat->Int}:∀ {n:Nat},(∀ i,i<n->f i=0)->sm f n=0
 | 0,_=>rfl
 | n+1,h=>by rw[sm,aOE λi hi=>h i (by omega),h n (by omega)]; rfl
theorem a1K {f:Nat->Int}{j:Nat}:∀ {n:Nat},j<n->(∀ i,i<n->i≠j->f i=0)->sm f n=f j
 | 0,h,_=>by omega
 | n+1,h,hz=>by
  rw[sm]
  by_cases hj:j=n
  ·subst hj;rw[aOE λi hi=>hz i (by omega) (by omega),Int.zero_add]
  ·rw[a1K (by omega) λi hi=>hz i (by omega),hz n (by omega) (Ne.symm hj),Int.add_zero]
theorem a6E {f:Nat->Int}{B:Nat}:∀ {n:Nat},(∀ i,i<n->(f i).natAbs<=B)->(sm f n).natAbs<=n*B
 | 0,_=>by simp[sm]
 | n+1,h=>by
  have h1:=a6E (n:=n) λi hi=>h i (by omega)
  have h2:=h n (by omega);rw[Nat.succ_mul];show (sm f n+f n).natAbs<=_;omega
theorem Sp.sm {k:Nat}{M:Nat->V}{w:Nat->V}{s:Nat->Int}:∀ {n:Nat},(∀ j,j<n->Sp k M (w j))->Sp k M (λx=>Lz.sm (λj=>s j*w j x) n)
 | 0,_=>Sp.zero
 | n+1,h=>Sp.comb (s n) (Sp.sm λj hj=>h j (by omega)) (h n (by omega))
theorem Hn.a8Q {r W:Nat} {H:Nat->V} {p:Nat->Nat} (h:Hn r H p) (hd:Dg r H r p W):∀ i,i<r->∀ x,(H i x).natAbs<=r*W:=by
 obtain⟨D,w,hD,hw⟩:=hd;intro i hi x;have hz:(λy=>D*H i y-Lz.sm (λj=>H i (p j)*w j y) r)=λ_=>0:=by
  refine h.zero (Sp.sub (Sp.smul D (Sp.mem hi)) (Sp.sm λj hj=>(hw j hj).1)) λl hl=>?_
  rw[a1K (f:=λj=>H i (p j)*w j (p l)) hl λj hj hne=>by rw[(hw j hj).2.2.1 l hl (Ne.symm hne),Int.mul_zero]];rw[(hw l hl).2.1];grind
 have h1:=congrFun hz x;have h2:D*H i x=Lz.sm (λj=>H i (p j)*w j x) r:=by
  have:D*H i x-Lz.sm (λj=>H i (p j)*w j x) r=0:=h1;omega
 have h3:(Lz.sm (λj=>H i (p j)*w j x) r).natAbs<=r*(D.natAbs*W):=by
  refine a6E λj hj=>aR8 ?_ ((hw j hj).2.2.2 x)
  have e1:H j (p j) ∣ D:=by
   have:=h.a7C (hw j hj).1 j hj λl hl=>(hw j hj).2.2.1 l (by omega) (by omega)
   rwa[(hw j hj).2.1]at this
  have e2:=Int.natAbs_dvd_natAbs.2 e1;have e3:=Nat.le_of_dvd (by omega) e2;rcases Nat.lt_trichotomy i j with g|g|g
  ·have:=h.red i j g hj;omega
  ·subst g; exact e3
  ·rw[h.low i hi _ (h.inc j i g hi)]; simp
 rw[<- h2,Int.natAbs_mul]at h3;have e:r*(D.natAbs*W)=D.natAbs*(r*W):=by grind
 rw[e]at h3;exact Nat.le_of_mul_le_mul_left h3 (by omega)
end Go.Lz
namespace Go.PM
open Go Go.RowKit Go.Proofs Go.Lz
theorem a57(a n:Nat)(v:V):Zr (a+n) v=Zr a v++Zr n (λy=>v (a+y)):=by
 unfold Zr;rw[List.range_add,List.map_append,List.map_map];rfl
theorem bBE:Zn 1=ByteArray.mk #[49]:=by kernel_rfl
def aGW(J:Nat->Nat) (i o n:Nat) (A:List (List ByteArray)) (t:Nat):=bQ ((J i,o,n),(),(n:Int),(t:Int),A,())
section
variable {o k n:Nat} {m:List (Nat×Nat×Nat)} {A:List (List ByteArray)} {J:Nat->Nat} {M:Nat->V}
theorem mR.ext (h:mR o k n m A J M)(R:List (List ByteArray)):mR o k n m (A++R) J M :=
 ⟨h.ml,λi hi=>by
  obtain⟨pre,h1,h2⟩:=h.at_ i hi;refine⟨pre,h1,?_⟩;have:=(List.getElem?_eq_some_iff.1 h2).1;rw[List.getElem?_append_left this]; exact h2,h.inj⟩
theorem mR.take (h:mR o k n m A J M){d:Nat}(hd:d<=k):mR o d n (m.take d) A J M :=
 ⟨by rw[h.ml,<- List.map_take,List.take_range,Nat.min_eq_left hd],λi hi=>h.at_ i (by omega),λi j hi hj=>h.inj i j (by omega) (by omega)⟩
theorem a8J(h:mR o k n m A J M) (hn:n<1048576) {i:Nat} (hi:i<k) :
  ∃ L:Int,j6 () ((J i,o,n),()) A=some ((L,()),A)/\((L = -1/\∀ x,x<n->M i x=0)\/∃ x,x<n/\L=(x:Int)/\M i x≠0/\∀ y,y<x->M i y=0):=by
 have hg:∀ t,t<n->PM.dB A (J i)=o+n/\PM.dS A (J i) ((o+t)*1) ByteArray.empty=Zn (M i t):=λt ht=>⟨h.dB hi,by rw[Nat.mul_one]; exact h.dS hi ht⟩
 have step1:∀ t,t<n->∀ b,decide (M i t=0)=b->aGW J i o n A t=(bif b then some (.inl ((J i,o,n),(),(n:Int),((t+1:Nat):Int),A,())) else some (.inr (.inl ((t:Int),A,())))):=λt ht b hb=>by
  have e1:ltI (t:Int) (n:Int)=true:=by rw[aF]; exact oT (by omega)
  have e2:aJ (t:Int) n=true:=by rw[aP]; exact oT (by omega)
  have e3:((t:Nat):Int).toNat=t:=oN _;have e4:Nat.blt ((o+t)*1) (o+n)=true:=by rw[cV]; exact oT (by omega)
  have e5:=cZ t (by omega);unfold aGW;simp only[bQ,e1,e2,e3,(hg t ht).1,e4,(hg t ht).2,oC,sP,VN,aE,hb,e5];cases b <;> rfl
 by_cases hz:∀ x,x<n->M i x=0
 ·refine⟨-1,?_,.inl ⟨rfl,hz⟩⟩;have key:=cC (step:=bQ) (N:=2^64) (λt=>((J i,o,n),(),(n:Int),(t:Int),A,())) n (.inr (A,())) (by omega) (λt ht=>step1 t ht true (oT (hz t ht))) (by
   have e1:ltI (n:Int) (n:Int)=false:=by rw[aF]; exact oF (by omega)
   simp only[bQ,e1,oD])
  have key:c8 ((J i,o,n),(),((n:Nat):Int),0,A,())=_:=key;simp only[j6,cF,key,aE,kE]
 ·obtain⟨x,hx1,hx2,hx3⟩:∃ x,x<n/\M i x≠0/\∀ y,y<x->M i y=0:=by
   obtain⟨x0,h1⟩:=Classical.not_forall.1 hz;obtain⟨h1,h2⟩:=Classical.not_imp.1 h1;have:∀ N x0,x0<N->x0<n->M i x0≠0->∃ x,x<n/\M i x≠0/\∀ y,y<x->M i y=0:=by
    intro N
    induction N with
    | zero=>intro x0 h; omega
    | succ N ih =>
     intro x0 h0 h1 h2
     by_cases hy:∀ y,y<x0->M i y=0
     ·exact⟨x0,h1,h2,hy⟩
     ·obtain⟨y,g1⟩:=Classical.not_forall.1 hy;obtain⟨g1,g2⟩:=Classical.not_imp.1 g1;exact ih y (by omega) (by omega) g2
   exact this (x0+1) x0 (by omega) h1 h2
  refine⟨(x:Int),?_,.inr ⟨x,hx1,rfl,hx2,hx3⟩⟩;have key:=cC (step:=bQ) (N:=2^64) (λt=>((J i,o,n),(),(n:Int),(t:Int),A,())) x (.inl ((x:Int),A,())) (by omega) (λt ht=>step1 t (by omega) true (oT (hx3 t ht))) (step1 x hx1 false (oF hx2));have key:c8 ((J i,o,n),(),((n:Nat):Int),0,A,())=_:=key;simp only[j6,cF,key,aE,qK]
theorem a8T(hn:n<1048576) (A:List (List ByteArray)):nM () ((n:Int),()) A=some (Zr n (λ_=>0),A):=by
 have e1:ltI (n:Int) 0=false:=by rw[aF]; exact oF (by omega)
 have e2:ltI (n:Int) (n:Int)=false:=by rw[aF]; exact oF (by omega)
 have e3:ltI 1048576 (n:Int)=false:=by rw[aF]; exact oF (by omega)
 have e4:((n:Nat):Int).toNat=n:=oN _;have e5:=aS0 (List.replicate n 0) (by simp; omega) (λa ha=>by have:=List.eq_of_mem_replicate ha; omega);have e6:(List.replicate n (0:Int)).map Zn=Zr n (λ_=>0):=by
  unfold Zr;rw[List.map_replicate];refine List.ext_getElem (by simp) λi h1 h2=>by simp
 rw[e6]at e5;simp only[nM,e1,e2,e3,e4,e5,aE,Bool.not_false,oC]
theorem a8C(M:Nat->V) {c:Nat} (hc:c<n):(List.range k).map (λi=>Zn (M i c))++(Zr n (λ_=>0)).set c (ByteArray.mk #[49])=Zr (k+n) (wide n k M c):=by
 rw[a57]
 congr 1
 ·unfold Zr;refine List.map_congr_left λi hi=>?_
  have:=List.mem_range.1 hi;simp only[wide,this,if_true]
 ·refine List.ext_getElem (by simp[xM]) λi h1 h2=>?_
  rw[xM]at h2;rw[List.getElem_set];have e1:¬ k+i<k:=by omega
  by_cases hic:c=i
  ·subst hic;simp only[if_true,Zr,List.getElem_map,List.getElem_range,wide,e1,if_false];exact bBE.symm
  ·have e2:¬ k+i=k+c:=by omega
   simp only[hic,if_false,Zr,List.getElem_map,List.getElem_range,wide,e1,e2]
theorem a3Z(hk:k<1048576) (hn:n<1048576) (hkn:k+n<1048576) (h:mR o k n m A J M) :
  jQ (m,(n:Int),[],(n:Int),0,A,())=some (m,(n:Int),(List.range n).map (λc=>(A.length+c,0,k+n)),A++(List.range n).map (λc=>Zr (k+n) (wide n k M c)),()):=by
 have key:=cC (step:=jV) (N:=2^64)
  (λt=>(m,(n:Int),(List.range t).map (λc=>(A.length+c,0,k+n)),(n:Int),(t:Int),A++(List.range t).map (λc=>Zr (k+n) (wide n k M c)),())) n
  (m,(n:Int),(List.range n).map (λc=>(A.length+c,0,k+n)),A++(List.range n).map (λc=>Zr (k+n) (wide n k M c)),()) (by omega) (λt ht=>?_) ?_
 ·have e0:A++(List.range 0).map (λc=>Zr (k+n) (wide n k M c))=A:=by simp
  have key:jQ (m,(n:Int),[],(n:Int),0,A++(List.range 0).map (λc=>Zr (k+n) (wide n k M c)),())=_:=key;rwa[e0]at key
 ·generalize hR:(List.range t).map (λc=>Zr (k+n) (wide n k M c))=R;have h':=h.ext R;generalize hB:A++R=B at h' ⊢;have hlen:B.length=A.length+t:=by rw[<- hB,<- hR]; simp
  have col:=cC (step:=jX) (N:=2^64)
   (λs=>(m,(n:Int),(List.range t).map (λc=>(A.length+c,0,k+n)),(t:Int),(List.range s).map (λi=>Zn (M i t)),(n:Int),(t:Int),m,(m.length:Int),(s:Int),B,())) k
   (m,(n:Int),(List.range t).map (λc=>(A.length+c,0,k+n)),(t:Int),(List.range k).map (λi=>Zn (M i t)),(n:Int),(t:Int),B,()) (by omega) (λs hs=>?_) ?_
  ·have col:nH (m,(n:Int),(List.range t).map (λc=>(A.length+c,0,k+n)),(t:Int),[],(n:Int),(t:Int),m,(m.length:Int),0,B,())=_:=col;have e1:ltI (t:Int) (n:Int)=true:=by rw[aF]; exact oT (by omega)
   have e2:aJ (t:Int) n=true:=by rw[aP]; exact oT (by omega)
   have e3:((t:Nat):Int).toNat=t:=oN _;have e4:Nat.blt t n=true:=by rw[cV]; exact oT ht
   have e5:(Zr n (λ_=>0)).length=n:=xM _ _;have e6:Nat.ble n 1048576=true:=by rw[gG]; exact oT (by omega)
   have e7:Nat.ble ((List.range k).map (λi=>Zn (M i t))).length 1048576=true:=by rw[gG,List.length_map,List.length_range]; exact oT (by omega)
   have e8:=a8C (n:=n) (k:=k) M ht;have e9:(Zr (k+n) (wide n k M t)).length=k+n:=xM _ _;have e10:Nat.ble [(A.length+t,0,k+n)].length 1048576=true:=rfl;have e11:Nat.ble ((List.range t).map (λc=>(A.length+c,0,k+n))).length 1048576=true:=by rw[gG,List.length_map,List.length_range]; exact oT (by omega)
   have e12:=cZ t (by omega);have e13:(List.range t).map (λc=>(A.length+c,0,k+n))++[(A.length+t,0,k+n)]=(List.range (t+1)).map (λc=>(A.length+c,0,k+n)):=by rw[List.range_succ,List.map_append]; rfl
   have e14:B++[Zr (k+n) (wide n k M t)]=A++(List.range (t+1)).map (λc=>Zr (k+n) (wide n k M c)):=by rw[<- hB,<- hR,List.range_succ,List.map_append,List.append_assoc]; rfl
   have e15:((Zr n (λ_=>0)).set t (ByteArray.mk #[49])).length=n:=by rw[List.length_set,xM]
   simp only[jV,e1,oC,col,aE,a8T hn,e5,e2,e3,e4,e15,e6,e7,e8,e9,hlen,e10,e11,e12,e13,e14]
  ·have e1:ltI (s:Int) (k:Int)=true:=by rw[aF]; exact oT (by omega)
   have e2:aJ (s:Int) k=true:=by rw[aP]; exact oT (by omega)
   have e3:((s:Nat):Int).toNat=s:=oN _;have e4:aJ (t:Int) n=true:=by rw[aP]; exact oT (by omega)
   have e5:((t:Nat):Int).toNat=t:=oN _;have e6:Nat.blt ((o+t)*1) (o+n)=true:=by rw[cV]; exact oT (by omega)
   have e7:PM.dS B (J s) ((o+t)*1) ByteArray.empty=Zn (M s t):=by rw[Nat.mul_one]; exact h'.dS hs ht
   have e8:Nat.ble [Zn (M s t)].length 1048576=true:=rfl;have e9:Nat.ble ((List.range s).map (λi=>Zn (M i t))).length 1048576=true:=by rw[gG,List.length_map,List.length_range]; exact oT (by omega)
   have e10:=cZ s (by omega);have e11:(List.range s).map (λi=>Zn (M i t))++[Zn (M s t)]=(List.range (s+1)).map (λi=>Zn (M i t)):=by rw[List.range_succ,List.map_append]; rfl
   simp only[jX,h.len,e1,e2,e3,h'.get hs,e4,e5,h'.dB hs,e6,e7,e8,e9,e10,e11,oC]
  ·have e1:ltI (k:Int) (k:Int)=false:=by rw[aF]; exact oF (by omega)
   simp only[jX,h.len,e1,oD]
 ·have e1:ltI (n:Int) (n:Int)=false:=by rw[aF]; exact oF (by omega)
  simp only[jV,e1,oD]
end
theorem Hn.split {d:Nat}{W:Nat->V}{p:Nat->Nat}(h:Hn d W p)(k:Nat):∃ j,j<=d/\(∀ i,i<j->p i<k)/\∀ i,j<=i->i<d->k<=p i:=by
 have:∀ t,t<=d->∃ j,j<=t/\(∀ i,i<j->p i<k)/\∀ i,j<=i->i<t->k<=p i:=by
  intro t
  induction t with
  | zero=>exact λ_=>⟨0,Nat.le_refl _,λi hi=>by omega,λi _ hi=>by omega⟩
  | succ t ih =>
   intro ht;obtain⟨j,h1,h2,h3⟩:=ih (by omega)
   by_cases hj:j=t
   ·by_cases hp:p t<k
    ·exact⟨t+1,by omega,λi hi=>by
      by_cases e:i=t
      ·subst e; exact hp
      ·exact h2 i (by omega),λi g1 g2=>by omega⟩
    ·exact⟨j,by omega,h2,λi g1 g2=>by
      have:i=t:=by omega
      subst this; omega⟩
   ·exact⟨j,by omega,h2,λi g1 g2=>by
     by_cases e:i=t
     ·subst e;have a1:=h3 j (Nat.le_refl _) (by omega);have a2:=h.inc j i (by omega) (by omega);omega
     ·exact h3 i g1 (by omega)⟩
 exact this d (Nat.le_refl _)
section
variable {o k n d:Nat} {m:List (Nat×Nat×Nat)} {A:List (List ByteArray)} {J:Nat->Nat} {M:Nat->V}
theorem mR.behind (h:mR o d (k+n) m A J M){j:Nat}(hj:j<=d):mR (o+k) (d-j) n ((List.range (d-j)).map λi=>(J (j+i),o+k,n)) A (λi=>J (j+i)) (λi y=>M (j+i) (k+y)) :=
 ⟨rfl,λi hi=>by
  obtain⟨pre,h1,h2⟩:=h.at_ (j+i) (by omega);refine⟨pre++Zr k (M (j+i)),by rw[List.length_append,xM,h1],?_⟩;rw[h2,a57,List.append_assoc],λa b ha hb e=>by
  have:=h.inj (j+a) (j+b) (by omega) (by omega) e;omega⟩
theorem aX2(hkn:k+n<1048576) (hd:d<1048576) (h:mR o d (k+n) m A J M) {p:Nat->Nat} (hH:Hn d M p) (hw:Wd d (k+n) M) {j:Nat} (hj:j<=d) (h1:∀ i,i<j->p i<k) (h2:∀ i,j<=i->i<d->k<=p i) :
  jP ((k:Int),(n:Int),[],m,(m.length:Int),0,A,())=some ((n:Int),(List.range (d-j)).map (λi=>(J (j+i),o+k,n)),A,()):=by
 have key:=cC (step:=fX) (N:=2^64)
  (λt=>((k:Int),(n:Int),(List.range (t-j)).map (λi=>(J (j+i),o+k,n)),m,(m.length:Int),(t:Int),A,())) d
  ((n:Int),(List.range (d-j)).map (λi=>(J (j+i),o+k,n)),A,()) (by omega) (λt ht=>?_) ?_
 ·have key:jP ((k:Int),(n:Int),(List.range (0-j)).map (λi=>(J (j+i),o+k,n)),m,(m.length:Int),0,A,())=_:=key;rwa[Nat.zero_sub]at key
 ·have e1:ltI (t:Int) (d:Int)=true:=by rw[aF]; exact oT (by omega)
  have e2:aJ (t:Int) d=true:=by rw[aP]; exact oT (by omega)
  have e3:((t:Nat):Int).toNat=t:=oN _;obtain⟨L,q1,q2⟩:=a8J h (by omega) ht;have hp:=hH.pos t ht;have hpl:p t<k+n:=by
   refine Classical.byContradiction λhc=>?_
   have:=hw t ht (p t) (by omega);omega
  have hL:L=(p t:Int):=by
   rcases q2 with ⟨_,q3⟩|⟨x,g1,g2,g3,g4⟩
   ·have:=q3 (p t) hpl; omega
   ·rw[g2]
    congr 1
    rcases Nat.lt_trichotomy x (p t)with g|g|g
    ·exact absurd (hH.low t ht x g) g3
    ·exact g
    ·have:=g4 (p t) g; omega
  subst hL;have e4:=cZ t (by omega)
  by_cases htj:t<j
  ·have e5:ltI (p t:Int) (k:Int)=true:=by rw[aF]; exact oT (by have:=h1 t htj; omega)
   have e6:t+1-j=0:=by omega
   have e7:t-j=0:=by omega
   simp only[fX,h.len,e1,e2,e3,h.get ht,q1,aE,e5,e4,e6,e7,oC,oD,Bool.not_true]
  ·have e5:ltI (p t:Int) (k:Int)=false:=by rw[aF]; exact oF (by have:=h2 t (by omega) ht; omega)
   have e6:ltI (k:Int) 0=false:=by rw[aF]; exact oF (by omega)
   have e7:((k:Nat):Int).toNat=k:=oN _;have e8:Nat.ble k (k+n)=true:=by rw[gG]; exact oT (by omega)
   have e9:Nat.ble (k+n) (k+n)=true:=by rw[gG]; exact oT (by omega)
   have e10:k+n-k=n:=by omega
   have e11:Nat.ble [(J t,o+k,n)].length 1048576=true:=rfl;have e12:Nat.ble ((List.range (t-j)).map (λi=>(J (j+i),o+k,n))).length 1048576=true:=by rw[gG,List.length_map,List.length_range]; exact oT (by omega)
   have e13:(List.range (t-j)).map (λi=>(J (j+i),o+k,n))++[(J t,o+k,n)]=(List.range (t+1-j)).map (λi=>(J (j+i),o+k,n)):=by
    rw[show t+1-j=(t-j)+1 by omega,List.range_succ,List.map_append];have:j+(t-j)=t:=by omega
    simp only[List.map_cons,List.map_nil,this]
   simp only[fX,h.len,e1,e2,e3,h.get ht,q1,aE,e5,e4,e6,e7,e8,e9,e10,e11,e12,e13,oC,oD,Bool.not_false]
 ·have e1:ltI (d:Int) (d:Int)=false:=by rw[aF]; exact oF (by omega)
  simp only[fX,h.len,e1,oD]
theorem Wd.wide (hw:Wd k n M):Wd n (k+n) (wide n k M):=λi hi x hx=>by
 have e1:¬ x<k:=by omega
 have e2:¬ x=k+i:=by omega
 simp only[Lz.wide,e1,e2,if_false]
theorem Big.wide {E:Nat}(hE:Big k n M E)(h1:1<=E):Big n (k+n) (wide n k M) E:=λi hi x hx=>by
 simp only[Lz.wide];split
 ·rename_i hk; exact hE x hk i hi
 ·split
  ·simpa using h1
  ·simp
theorem aM8 {W:Nat->V} {p:Nat->Nat} (hH:Hn d W p) (hs:Same n (wide n k M) d W) {j:Nat} (hj:j<=d) (h1:∀ i,i<j->p i<k) (h2:∀ i,j<=i->i<d->k<=p i) :
  Hn (d-j) (λi y=>W (j+i) (k+y)) (λi=>p (j+i)-k)/\xT n k M (d-j) (λi y=>W (j+i) (k+y)):=by
 refine⟨⟨λa b hab hb=>?_,λi hi x hx=>?_,λi hi=>?_,λa b hab hb=>?_⟩,a35 hH hs hj h1 h2⟩
 ·have g1:=h2 (j+a) (by omega) (by omega);have g2:=hH.inc (j+a) (j+b) (by omega) (by omega);show p (j+a)-k<p (j+b)-k;omega
 ·exact hH.low (j+i) (by omega) (k+x) (by have:x<p (j+i)-k:=hx; omega)
 ·have g1:=h2 (j+i) (by omega) (by omega);show 0<W (j+i) (k+(p (j+i)-k));rw[show k+(p (j+i)-k)=p (j+i)by omega];exact hH.pos (j+i) (by omega)
 ·have g1:=h2 (j+b) (by omega) (by omega);show 0<=W (j+a) (k+(p (j+b)-k))/\W (j+a) (k+(p (j+b)-k))<W (j+b) (k+(p (j+b)-k));rw[show k+(p (j+b)-k)=p (j+b)by omega];exact hH.red (j+a) (j+b) (by omega) (by omega)
theorem aTB {E T:Nat->Nat} (hk:k<1048576) (hn:n<1048576) (hkn:k+n<1048576) (h:mR o k n m A J M) (hw:Wd k n M) (hE:Big k n M (E 0)) (h1E:1<=E 0) (hb:Bds n (k+n) E T)
  (hK:∀ r K p,r<=n->Hn r K p->xT n k M r K->∃ E2 T2:Nat->Nat,Big r n K (E2 0)/\Bds r n E2 T2) :
  ∃ m' A' J' K p r,cW () (m,(n:Int),()) A=some (m',A')/\mR k r n m' A' J' K/\r<=n/\Hn r K p/\xT n k M r K/\Wd r n K:=by
 have hl:=a3Z hk hn hkn h;have hL:mR 0 n (k+n) ((List.range n).map λc=>(A.length+c,0,k+n)) (A++(List.range n).map λc=>Zr (k+n) (wide n k M c)) (λc=>A.length+c) (wide n k M) :=
  ⟨rfl,λi hi=>⟨[],rfl,by
   rw[List.getElem?_append_right (by omega),show A.length+i-A.length=i by omega,List.getElem?_map,List.getElem?_range hi];rfl⟩,λi j _ _ e=>by omega⟩
 obtain⟨m1,A1,J1,W,d,p,g1,g2,g3,g4,g5,g6,g7⟩:=aOA hn hkn hL hw.wide (hE.wide h1E) hb;obtain⟨j,b1,b2,b3⟩:=Hn.split g4 k;have hL2:=g3.take g2;have hwd:Wd d (k+n) W:=λi hi x hx=>g6 i (by omega) x hx
 have hbl:=aX2 hkn (by omega) hL2 g4 hwd b1 b2 b3;obtain⟨c1,c2⟩:=aM8 g4 g5 b1 b2 b3;have hL3:=hL2.behind b1;have hwK:Wd (d-j) n (λi y=>W (j+i) (k+y)):=λi hi x hx=>hwd (j+i) (by omega) (k+x) (by omega)
 obtain⟨E2,T2,k1,k2⟩:=hK _ _ _ (by omega) c1 c2;obtain⟨m2,A2,J2,K,r,p2,f1,f2,f3,f4,f5,f6,f7⟩:=aOA (show d-j<1048576 by omega) hn hL3 hwK k1 k2;rw[Nat.zero_add]at f3;refine⟨m2.take r,A2,J2,K,p2,r,?_,f3.take f2,by omega,f4,?_,λi hi x hx=>f6 i (by omega) x hx⟩
 ·have e1:aB .i64 ((k:Int)+(n:Int))=((k+n:Nat):Int):=by rw[wrap64 (by omega) (by omega)]; omega
  have hml:=h.len;simp only[cW,hl,aE,hml,e1,g1,gV,hbl,f1]
 ·intro y;rw[<- f5 y];exact c2 y
end
theorem vG(n:Nat)(v:V):(Vr n v).length=n:=by simp[Vr]
theorem PW {n i:Nat}(v:V)(h:i<n):(Vr n v).getD i 0=v i:=by simp[Vr,List.getD,h]
theorem a5M {n:Nat}{v:V}{B:Nat}(h:∀ x,x<n->(v x).natAbs<=B):∀ a∈Vr n v,a.natAbs<=B:=by
 intro a ha;obtain⟨x,hx,rfl⟩:=List.mem_map.1 ha;exact h x (List.mem_range.1 hx)
def Mr(d n:Nat) (M:Nat->V):List (List Int):=(List.range d).map λi=>Vr n (M i)
theorem vH(d n:Nat)(M:Nat->V):(Mr d n M).length=d:=by simp[Mr]
theorem aO5 {d n i:Nat}(M:Nat->V)(h:i<d)(z:List Int):(Mr d n M).getD i z=Vr n (M i):=by simp[Mr,List.getD,h]
theorem aP6 {d n:Nat}{M:Nat->V}{r:List Int}(h:r∈Mr d n M):∃ i,i<d/\r=Vr n (M i):=by
 obtain⟨i,hi,rfl⟩:=List.mem_map.1 h;exact⟨i,List.mem_range.1 hi,rfl⟩
theorem a8E(r:List Int)(hl:r.length<1048576)(hr:∀ a∈r,a.natAbs<=1000000000):gF (r,(),())=some (false,()):=by
 have key:=cC (step:=dU) (N:=2^64) (λt=>(r,(),(r.length:Int),(t:Int),())) r.length (.inr ()) (by omega) (λt ht=>?_) ?_
 ·have key:bY dU (2^64) (r,(),(r.length:Int),0,())=some (.inr ()):=key;have e2:ltI (-1) 0=true:=by decide
  simp only[gF,mN,jJ,key,aE,kE,e2,Bool.not_true]
 ·have e1:ltI (t:Int) (r.length:Int)=true:=by rw[aF]; exact oT (by omega)
  have e2:aJ (t:Int) r.length=true:=by rw[aP]; exact oT (by omega)
  have e3:((t:Nat):Int).toNat=t:=oN _;have e4:r.getD t 0=r[t]:=by simp[List.getD,ht]
  have b:=hr r[t] (List.getElem_mem ht);have e5:ltI r[t] (-1000000000)=false:=by rw[aF]; exact oF (by omega)
  have e6:ltI 1000000000 r[t]=false:=by rw[aF]; exact oF (by omega)
  have e7:=cZ t (by omega);simp only[dU,e1,e2,e3,e4,R0,e5,e6,aE,oC,oD,e7]
 ·have e1:ltI (r.length:Int) (r.length:Int)=false:=by rw[aF]; exact oF (by omega)
  simp only[dU,e1,oD]
theorem aEV(rows:List (List Int)){n:Nat}(hk:rows.length<=12)(hn:n<=12)(hlen:∀ r∈rows,r.length=n)(hr:∀ r∈rows,∀ a∈r,a.natAbs<=1000000000):K8 (rows,())=some (0,()):=by
 have key:=cC (step:=tK) (N:=2^64) (λt=>(rows,rows,(rows.length:Int),(t:Int),())) rows.length (.inr ()) (by omega) (λt ht=>?_) ?_
 ·have key:bY tK (2^64) (rows,rows,(rows.length:Int),0,())=some (.inr ()):=key;have e1:ltI 12 (rows.length:Int)=false:=by rw[aF]; exact oF (by omega)
  simp only[K8,EH,e1,oD,key,aE,kE]
 ·have e1:ltI (t:Int) (rows.length:Int)=true:=by rw[aF]; exact oT (by omega)
  have e2:aJ (t:Int) rows.length=true:=by rw[aP]; exact oT (by omega)
  have e3:((t:Nat):Int).toNat=t:=oN _;have e4:rows.getD t []=rows[t]:=by simp[List.getD,ht]
  have e4':rows.getD 0 []=rows[0]:=by simp[List.getD,show 0<rows.length by omega]
  have hm:=List.getElem_mem ht;have hm0:=List.getElem_mem (show 0<rows.length by omega);have e5:ltI 12 (rows[t].length:Int)=false:=by rw[aF,hlen _ hm]; exact oF (by omega)
  have e6:aJ 0 rows.length=true:=by rw[aP]; exact oT (by omega)
  have e7:eqI (rows[t].length:Int) (rows[0].length:Int)=true:=by rw[fO,hlen _ hm,hlen _ hm0]; exact oT rfl
  have e8:=a8E rows[t] (by rw[hlen _ hm]; omega) (hr _ hm);have e9:=cZ t (by omega);simp only[tK,e1,e2,e3,e4,e4',e5,e6,e7,e8,e9,aE,Bool.not_true,oC,oD]
 ·have e1:ltI (rows.length:Int) (rows.length:Int)=false:=by rw[aF]; exact oF (by omega)
  simp only[tK,e1,oD]
theorem a5V {n c:Nat} {v:V} (hn:n<1048576) (hc:c<n) (hz:∀ x,x<c->v x=0) (hp:v c≠0):sW (Vr n v,())=some ((c:Int),()):=by
 have hl:=vG n v;have key:=cC (step:=bF) (N:=2^64) (λt=>(Vr n v,(),(n:Int),(t:Int),())) c (.inl ((c:Int),())) (by omega) (λt ht=>?_) ?_
 ·have key:bY bF (2^64) (Vr n v,(),(n:Int),0,())=some (.inl ((c:Int),())):=key;simp only[sW,fR,dV,hl,key,aE,qK]
 ·have e1:ltI (t:Int) (n:Int)=true:=by rw[aF]; exact oT (by omega)
  have e2:aJ (t:Int) n=true:=by rw[aP]; exact oT (by omega)
  have e3:((t:Nat):Int).toNat=t:=oN _;have e4:(Vr n v).getD t 0=0:=by rw[PW v (by omega)]; exact hz t ht
  have e5:eqI 0 0=true:=by decide
  have e9:=cZ t (by omega);simp only[bF,hl,e1,e2,e3,e4,rW,e5,e9,aE,Bool.not_true,oC,oD]
 ·have e1:ltI (c:Int) (n:Int)=true:=by rw[aF]; exact oT (by omega)
  have e2:aJ (c:Int) n=true:=by rw[aP]; exact oT (by omega)
  have e3:((c:Nat):Int).toNat=c:=oN _;have e4:eqI ((Vr n v).getD c 0) 0=false:=by rw[PW v hc,fO]; exact oF hp
  simp only[bF,hl,e1,e2,e3,rW,e4,aE,Bool.not_false,oC]
theorem Hn.a1D {d n:Nat} {M:Nat->V} {p:Nat->Nat} (h:Hn d M p) (hw:∀ i,i<d->∀ x,n<=x->M i x=0) {i:Nat} (hi:i<d):p i<n:=by
 rcases Nat.lt_or_ge (p i) n with g|g
 ·exact g
 ·have:=hw i hi _ g;have:=h.pos i hi;omega
theorem a7O {d n t:Nat}{M:Nat->V}{p:Nat->Nat}(h:Hn d M p)(hw:∀ i,i<d->∀ x,n<=x->M i x=0)(hd:d<1048576)(hn:n<1048576)(ht:t<d) :
  bT (Mr t n M,((p t:Int),Vr n (M t),()),())=some (false,()):=by
 have hl:=vH t n M;have hp:=Hn.a1D h hw ht;have key:=cC (step:=aR) (N:=2^64) (λs=>(Mr t n M,((p t:Int),Vr n (M t),()),(t:Int),(s:Int),())) t (.inr ()) (by omega) (λs hs=>?_) ?_
 ·have key:bY aR (2^64) (Mr t n M,((p t:Int),Vr n (M t),()),(t:Int),0,())=some (.inr ()):=key;have e2:ltI (-1) 0=true:=by decide
  simp only[bT,dI,cJ,hl,key,aE,kE,e2,Bool.not_true]
 ·have e1:ltI (s:Int) (t:Int)=true:=by rw[aF]; exact oT (by omega)
  have e2:aJ (s:Int) t=true:=by rw[aP]; exact oT (by omega)
  have e3:∀ a:Nat,((a:Nat):Int).toNat=a:=λa=>oN _
  have e4:=aO5 (n:=n) M hs [];have e5:aJ (p t:Int) n=true:=by rw[aP]; exact oT (by omega)
  obtain⟨r1,r2⟩:=h.red s t hs ht;have e6:ltI (M s (p t)) 0=false:=by rw[aF]; exact oF (by omega)
  have e7:ltI (M s (p t)) (M t (p t))=true:=by rw[aF]; exact oT r2
  have e9:=cZ s (by omega);simp only[aR,hl,e1,e2,e3,e4,oO,vG,e5,PW _ hp,e6,e7,e9,aE,Bool.not_true,oC,oD]
 ·have e1:ltI (t:Int) (t:Int)=false:=by rw[aF]; exact oF (by omega)
  simp only[aR,e1,oD]
theorem a3L {d n:Nat}{M:Nat->V}{p:Nat->Nat}(h:Hn d M p)(hw:∀ i,i<d->∀ x,n<=x->M i x=0)(hd:d<1048576)(hn:n<1048576):qN (Mr d n M,())=some (true,()):=by
 have hl:=vH d n M;obtain⟨q,hq⟩:∃ q:Nat->Int,q=λt=>if t=0 then -1 else (p (t-1):Int):=⟨_,rfl⟩
 have key:=cC (step:=dE) (N:=2^64) (λt=>(Mr d n M,q t,Mr d n M,(d:Int),(t:Int),())) d (.inr ()) (by omega) (λt ht=>?_) ?_
 ·have q0:q 0 = -1:=by rw[hq]; rfl
  rw[q0]at key;have key:bY dE (2^64) (Mr d n M,-1,Mr d n M,(d:Int),0,())=some (.inr ()):=key;simp only[qN,o6,hl,key,aE,kE]
 ·have hp:=Hn.a1D h hw ht;have e1:ltI (t:Int) (d:Int)=true:=by rw[aF]; exact oT (by omega)
  have e2:aJ (t:Int) d=true:=by rw[aP]; exact oT (by omega)
  have e3:∀ a:Nat,((a:Nat):Int).toNat=a:=λa=>oN _
  have e4:=aO5 (n:=n) M ht [];have e5:=a5V hn hp (h.low t ht) (by have:=h.pos t ht; omega);have e6:ltI (q t) (p t:Int)=true:=by
   rw[aF,hq];dsimp only;split
   ·exact oT (by omega)
   ·have:=h.inc (t-1) t (by omega) ht;exact oT (by omega)
  have e7:aJ (p t:Int) n=true:=by rw[aP]; exact oT (by omega)
  have e8:ltI (M t (p t)) 0=false:=by rw[aF]; exact oF (by have:=h.pos t ht; omega)
  have e9:ltI (t:Int) 0=false:=by rw[aF]; exact oF (by omega)
  have e10:Nat.ble 0 t=true:=rfl;have e11:Nat.ble t d=true:=by rw[gG]; exact oT (by omega)
  have e12:((Mr d n M).drop 0).take (t-0)=Mr t n M:=by
   rw[List.drop_zero,Nat.sub_zero];unfold Mr;rw[<- List.map_take,List.take_range,Nat.min_eq_left (by omega)]
  have e13:=a7O h hw hd hn ht;have e14:=cZ t (by omega);have e15:q (t+1)=(p t:Int):=by rw[hq]; simp
  simp only[dE,hl,e1,e2,e3,e4,e5,aE,e6,vG,e7,PW _ hp,e8,e9,e10,e11,e12,e13,e14,e15,Bool.not_true,Bool.not_false,oC,oD]
 ·have e1:ltI (d:Int) (d:Int)=false:=by rw[aF]; exact oF (by omega)
  simp only[dE,e1,oD]
theorem UK {d n:Nat} {M:Nat->V} {p:Nat->Nat} (h:Hn d M p) (hw:∀ i,i<d->∀ x,n<=x->M i x=0) (hd:d<=12) (hn:n<=12) (hM:∀ i,i<d->∀ x,x<n->(M i x).natAbs<=1000000000):iL (((n:Int),Mr d n M),())=some (0,()):=by
 have hlen:∀ r∈Mr d n M,r.length=n:=λr hr=>by
  obtain⟨i,_,rfl⟩:=aP6 hr;exact vG _ _
 have hr:∀ r∈Mr d n M,∀ a∈r,a.natAbs<=1000000000:=λr hr=>by
  obtain⟨i,hi,rfl⟩:=aP6 hr;exact a5M (hM i hi)
 have e0:eqI 0 0=true:=by decide
 have c1:=aY2 (Mr d n M) (n:=n) (by rw[vH]; exact hd) hn hlen hr;have c2:=aEV (Mr d n M) (n:=n) (by rw[vH]; exact hd) hn hlen hr;simp only[iL,c1,aE,e0,Bool.not_true,oD,xN,c2,a3L h hw (by omega) (by omega),oC]
end Go.PM
namespace Go.Lz
theorem aZU {E d:Nat}(h:1<=E)(hd:d<=4):fac E d<=24*(E*E*E*E):=by
 have h1:E<=E*E:=Nat.le_mul_of_pos_left E h;have h2:E*E<=E*E*E:=Nat.le_mul_of_pos_right _ h;have h3:E*E*E<=E*E*E*E:=Nat.le_mul_of_pos_right _ h;rcases(show d=0\/d=1\/d=2\/d=3\/d=4 by omega)with rfl|rfl|rfl|rfl|rfl <;> simp only[fac] <;> omega
def un(q:Nat):V:=λc=>if c=q then 1 else 0
theorem aZN(b:V){q:Nat}:∀ {n:Nat},(q<n->dot n (un q) b=b q)/\(n<=q->dot n (un q) b=0)
 | 0=>⟨λh=>by omega,λ_=>rfl⟩
 | n+1=>by
  have ih:=aZN b (q:=q) (n:=n);refine⟨λh=>?_,λh=>?_⟩
  ·show dot n (un q) b+un q n*b n=b q
   by_cases hq:q=n
   ·subst hq;rw[ih.2 (Nat.le_refl _)];simp[un]
   ·rw[ih.1 (by omega)];have:¬ n=q:=λe=>hq e.symm
    simp[un,this]
  ·show dot n (un q) b+un q n*b n=0;have:¬ n=q:=by omega
   rw[ih.2 (by omega)];simp[un,this]
theorem a8D {n:Nat}(b:V)(s:Nat->Int)(U:Nat->V):∀ d,dot n (λc=>sm (λj=>s j*U j c) d) b=sm (λj=>s j*dot n (U j) b) d
 | 0=>aKL b n
 | d+1=>by
  show dot n (λc=>sm (λj=>s j*U j c) d+s d*U d c) b=_;rw[aEQ,a8D b s U d];rfl
theorem a69 {n k r r2 d W:Nat} {M K S H:Nat->V} {p:Nat->Nat} (hw:∀ i,i<k->∀ x,n<=x->M i x=0) (hH:Hn d H p) (hs:Same k M d H) (hp:∀ j,j<d->p j<n) (hd:Dg k M d p W) (h1:xT n k M r K) (h2:xT n r K r2 S) :
  ∃ D:Int,D≠0/\∀ v,Sp r2 S v->Sp k M (λx=>D*v x):=by
 obtain⟨D,w,h0,hw'⟩:=hd;refine⟨D,h0,λv hv=>?_⟩;have hwid:∀ {b:V},Sp k M b->∀ x,n<=x->b x=0:=λhb x hx=>Sp.aDF (λj hj=>hw j hj x hx) hb
 -- what the rows of the lattice are
 have comb:∀ b,Sp k M b->∀ x,D*b x=sm (λj=>b (p j)*w j x) d:=λb hb x=>by
  have hz:(λy=>D*b y-sm (λj=>b (p j)*w j y) d)=λ_=>0:=by
   refine hH.zero ((hs _).1 (Sp.sub (Sp.smul D hb) (Sp.sm λj hj=>(hw' j hj).1))) λl hl=>?_
   rw[a1K (f:=λj=>b (p j)*w j (p l)) hl λj hj hne=>by rw[(hw' j hj).2.2.1 l hl (Ne.symm hne),Int.mul_zero]];rw[(hw' l hl).2.1];grind
  have:=congrFun hz x;have:D*b x-sm (λj=>b (p j)*w j x) d=0:=this;omega
 have main:∀ x,D*v x=sm (λj=>v (p j)*w j x) d:=λx=>by
  by_cases hx:x<n
  ·-- a row of the kernel
   have hy:∀ b:V,dot n (λc=>sm (λj=>-(w j x)*un (p j) c) d+D*un x c) b=D*b x-sm (λj=>b (p j)*w j x) d:=λb=>by
    rw[aEQ,a8D,(aZN b).1 hx];have:sm (λj=>-(w j x)*dot n (un (p j)) b) d = -(sm (λj=>b (p j)*w j x) d):=by
     have:∀ e,e<=d->sm (λj=>-(w j x)*dot n (un (p j)) b) e = -(sm (λj=>b (p j)*w j x) e):=by
      intro e
      induction e with
      | zero=>exact λ_=>rfl
      | succ e ih =>
       intro he;rw[sm,sm,ih (by omega),(aZN b).1 (hp e (by omega))];grind
     exact this d (Nat.le_refl _)
    rw[this];omega
   have hk:Ker n k M (λc=>sm (λj=>-(w j x)*un (p j) c) d+D*un x c):=by
    refine⟨λc hc=>?_,λi hi=>?_⟩
    ·have e1:¬ c=x:=by omega
     show sm (λj=>-(w j x)*un (p j) c) d+D*un x c=0;rw[aOE λj hj=>by
      have:=hp j hj;have e2:¬ c=p j:=by omega
      simp[un,e2]]
     simp[un,e1]
    ·rw[hy,comb _ (Sp.mem hi) x]; omega
   have hv2:=(h2 v).1 hv;have:=hv2.span ((h1 _).2 hk);rw[KP,hy]at this;omega
  ·have g1:=((h2 v).1 hv).1 x (by omega);rw[g1,aOE λj hj=>by rw[hwid (hw' j hj).1 x (by omega),Int.mul_zero],Int.mul_zero]
 have:=Sp.sm (k:=k) (M:=M) (w:=w) (s:=λj=>v (p j)) (n:=d) λj hj=>(hw' j hj).1
 refine cast (congrArg _ ?_) this
 funext x
 exact(main x).symm
section
variable {k:Nat} {M:Nat->V}
end
theorem aY6 {f g:Nat->Int}:∀ {n:Nat},(∀ i,i<n->f i=g i)->sm f n=sm g n
 | 0,_=>rfl
 | n+1,h=>by rw[sm,sm,aY6 λi hi=>h i (by omega),h n (by omega)]
def Ind(k:Nat) (u:Nat->V):Prop:=∀ c:Nat->Int,(∀ x,sm (λi=>c i*u i x) k=0)->∀ i,i<k->c i=0
theorem a8U {f:Nat->Int}{m:Nat}:∀ {k:Nat},m<=k->(∀ i,m<=i->i<k->f i=0)->sm f k=sm f m
 | 0,h,_=>by
  obtain rfl:m=0:=by omega
  rfl
 | k+1,h,hz=>by
  by_cases e:m=k+1
  ·subst e; rfl
  ·rw[sm,a8U (k:=k) (by omega) (λi h1 h2=>hz i h1 (by omega)),hz k (by omega) (by omega),Int.add_zero]
theorem Ind.le {k m:Nat}{u:Nat->V}(h:Ind k u)(hm:m<=k):Ind m u:=λc hc i hi=>by
 have:=h (λi=>if i<m then c i else 0) (λx=>by
  rw[a8U hm λi h1 h2=>by
   have:¬ i<m:=by omega
   simp only[this,if_false,Int.zero_mul]]
  rw[aY6 (g:=λi=>c i*u i x) λi hi=>by simp only[hi,if_true]];exact hc x) i (by omega)
 simpa[hi]using this
end Go.Lz
namespace Go.PM
open Go Go.RowKit Go.Proofs Go.Lz
def dg(D:Nat):Nat->Nat
 | 0=>D
 | d+1=>6*dg D d+2
theorem bCD(D:Nat){a b:Nat}(h:a<=b):dg D a<=dg D b:=by
 induction h with
 | refl=>exact Nat.le_refl _
 | step _ ih=>refine Nat.le_trans ih ?_; rw[dg]; omega
theorem bBB {D k n:Nat}(h:∀ d,d<k->d<n->10*dg D d+4<=400000):Bds k n (λd=>10^dg D d) (λd=>10^(5*dg D d+1)):=by
 have e5:∀ a:Nat,(10^a)^5=10^(5*a):=λa=>by rw[<- Nat.pow_mul,Nat.mul_comm]
 refine⟨λd hd hdn=>⟨Nat.pow_pos (by decide),Nat.pow_le_pow_right (by decide) (by omega),λ_=>?_,?_⟩,λd hd _=>?_⟩
 ·show 9*(10^dg D d)^5<=10^(5*dg D d+1);rw[e5,Nat.pow_succ];omega
 ·have h1:(10^(5*dg D d+1)+1:Nat)<10^(5*dg D d+1+1):=by
   rw[Nat.pow_succ 10 (5*dg D d+1)];have:0<10^(5*dg D d+1):=Nat.pow_pos (by decide);omega
  have h2:=JA (u:=10^(5*dg D d+1)+1) (k:=5*dg D d+1) h1;have:=h d hd hdn;have e:yN=400000:=rfl;show 2*Lib.nDigits (10^(5*dg D d+1)+1)<=yN;omega
 ·show 10^dg D d+(10^dg D d+1)*10^(5*dg D d+1)<=10^(6*dg D d+2);generalize ha:dg D d=a;have h1:(10^(5*a+1):Nat)=10*10^(5*a):=by rw[Nat.pow_succ]; omega
  have h2:(10^(6*a+2):Nat)=100*(10^a*10^(5*a)):=by rw[<- Nat.pow_add,show a+5*a=6*a by omega,Nat.pow_add]; omega
  have h3:(10^a:Nat)<=10^a*10^(5*a):=Nat.le_mul_of_pos_right _ (Nat.pow_pos (by decide));have h4:(10^(5*a):Nat)<=10^a*10^(5*a):=Nat.le_mul_of_pos_left _ (Nat.pow_pos (by decide));have h5:(10^a+1)*(10*10^(5*a))=10*(10^a*10^(5*a))+10*10^(5*a):=by grind
  rw[h1,h2,h5];omega
theorem a3I {D k n:Nat}(hk:k<=4\/n<=4)(hD:D<=154):Bds k n (λd=>10^dg D d) (λd=>10^(5*dg D d+1)):=bBB λd hd hn=>by
 have h1:=bCD D (show d<=3 by omega);have h2:dg D 3=6*(6*(6*D+2)+2)+2:=rfl;omega
theorem aT3 {k n D:Nat} {M:Nat->V} (hk:k<=4\/n<=4) (hkk:k<1048576) (hn:n<1048576) (hw:Wd k n M) (hE:Big k n M (10^D)) (hD:D<=154):∃ d H p,d<=k/\Hn d H p/\Same k M d H/\Wd d n H:=by
 have hL:mR 0 k n ((List.range k).map λc=>(c,0,n)) ((List.range k).map λc=>Zr n (M c)) (λc=>c) M :=
  ⟨rfl,λi hi=>⟨[],rfl,by rw[List.getElem?_map,List.getElem?_range hi]; rfl⟩,λi j _ _ e=>e⟩
 obtain⟨m',A',J',H,d,p,_,g2,g3,g4,g5,g6,g7⟩:=aOA (by omega) hn hL hw (E:=λd=>10^dg D d) (T:=λd=>10^(5*dg D d+1)) hE (a3I hk hD);exact⟨d,H,p,g2,g4,g5,λi hi x hx=>g6 i (by omega) x hx⟩
theorem Hn.NK {d n:Nat}{H:Nat->V}{p:Nat->Nat}(h:Hn d H p)(hw:Wd d n H):d<=n/\∀ j,j<d->p j<n:=by
 have hp:∀ j,j<d->p j<n:=λj hj=>Hn.a1D h hw hj
 refine⟨?_,hp⟩;have:∀ j,j<d->j<=p j:=by
  intro j
  induction j with
  | zero=>exact λ_=>Nat.zero_le _
  | succ j ih=>intro hj; have:=ih (by omega); have:=h.inc j (j+1) (by omega) hj; omega
 rcases Nat.eq_zero_or_pos d with h0|h0
 ·omega
 ·have:=this (d-1) (by omega); have:=hp (d-1) (by omega); omega
theorem aMF {k n E D r:Nat} {M K:Nat->V} {p:Nat->Nat} (hn:n<=4) (hk:k<1048000) (hw:Wd k n M) (hE:Big k n M E) (h1:1<=E) (hD:E<=10^D) (hD2:D<=154) (hH:Hn r K p) (hI:xT n k M r K) :
  ∀ i,i<r->∀ x,(K i x).natAbs<=4*(24*(E*E*E*E)):=by
 have hB:=hE.wide (k:=k) (M:=M) h1;obtain⟨d,W,q,g1,g2,g3,g4⟩:=aT3 (k:=n) (n:=k+n) (M:=wide n k M) (.inl hn) (by omega) (by omega) hw.wide (λi hi x hx=>Nat.le_trans (hB i hi x hx) hD) hD2;obtain⟨j,b1,b2,b3⟩:=Hn.split g2 k;obtain⟨c1,c2⟩:=aM8 g2 g3 b1 b2 b3;obtain⟨e1,_,e3⟩:=Hn.unique hH c1 λv=>(hI v).trans (c2 v).symm
 have hdg:=(aV8 (k:=n) (M:=wide n k M) (E:=E) (by omega) g2 (λj hj=>⟨1,by decide,by
  have:=(g3 _).2 (Sp.mem hj);refine cast (congrArg _ ?_) this
  funext x; simp⟩) (hB.all hw.wide)).mono λv=>(g3 v).1
 have hle:=Hn.a8Q g2 hdg;intro i hi x;rw[e3 i hi];refine Nat.le_trans (hle (j+i) (by omega) (k+x)) (Nat.mul_le_mul (by omega) (aZU h1 (by omega)))
theorem a41 {k n E D r r2:Nat} {M K S:Nat->V} {p2:Nat->Nat} (hk:k<=4) (hn:n<=4) (hw:Wd k n M) (hE:Big k n M E) (h1:1<=E) (hD:E<=10^D) (hD2:D<=154) (hI:xT n k M r K) (hS:Hn r2 S p2) (hI2:xT n r K r2 S) :
  ∀ i,i<r2->∀ x,(S i x).natAbs<=4*(24*(E*E*E*E)):=by
 obtain⟨d,H,p,g1,g2,g3,g4⟩:=aT3 (.inl hk) (by omega) (by omega) hw (λi hi x hx=>Nat.le_trans (hE i hi x hx) hD) hD2;have a1:=(Hn.NK g2 g4);have hdg:=aV8 (k:=k) (M:=M) (E:=E) (by omega) g2 (λj hj=>⟨1,by decide,by
  have:=(g3 _).2 (Sp.mem hj);refine cast (congrArg _ ?_) this
  funext x; simp⟩) (hE.all hw)
 obtain⟨D0,h0,hsp⟩:=a69 hw g2 g3 a1.2 hdg hI hI2;have hwS:Wd r2 n S:=λi hi x hx=>hI2.width hi x hx
 have a2:=Hn.NK hS hwS;have hdS:=(aV8 (k:=k) (M:=M) (E:=E) (by omega) hS (λj hj=>⟨D0,h0,hsp _ (Sp.mem hj)⟩) (hE.all hw)).mono (k':=r2) (M':=S) λv hv=>by
  refine(hI2 v).2 ⟨λc hc=>Sp.aDF (λj hj=>hw j hj c hc) hv,λx hx=>?_⟩;rw[KP];exact((hI _).1 (Sp.mem hx)).span hv
 have hle:=Hn.a8Q hS hdS;intro i hi x;refine Nat.le_trans (hle i hi x) (Nat.mul_le_mul (by omega) (aZU h1 (by omega)))
theorem a9Q {d n:Nat}{M:Nat->V}(hw:Wd d n M){i:Nat}(hi:i<d):P8 (Mr d n M) i=M i:=by
 unfold P8;rw[aO5 M hi];exact a95 λx hx=>hw i hi x hx
theorem mR.congr {o k n:Nat}{m:List (Nat×Nat×Nat)}{A:List (List ByteArray)}{J:Nat->Nat}{M M':Nat->V}(h:mR o k n m A J M)(e:∀ i,i<k->M i=M' i):mR o k n m A J M' :=
 ⟨h.ml,λi hi=>by rw[<- e i hi]; exact h.at_ i hi,h.inj⟩
theorem S3 {d n:Nat}{M:Nat->V}(hd:d<=12)(hn:n<=12)(hw:Wd d n M)(hM:Big d n M 1000000000):∃ m A,eJ () (Mr d n M,()) []=some (m,A)/\mR 0 d n m A (λi=>i) M:=by
 have hlen:∀ r∈Mr d n M,r.length=n:=λr hr=>by
  obtain⟨i,hi,rfl⟩:=aP6 hr;exact vG _ _
 obtain⟨m,A,h1,h2⟩:=aO4 (Mr d n M) (n:=n) (by rw[vH]; omega) (by omega) hlen λr hr a ha=>by
  obtain⟨i,hi,rfl⟩:=aP6 hr;have:=a5M (λx hx=>hM i hi x hx) a ha;omega
 rw[vH]at h2;exact⟨m,A,h1,h2.congr λi hi=>a9Q hw hi⟩
section
variable {d n:Nat} {B:Nat->V}
theorem p9:(1000000000:Nat)=10^9:=by decide
theorem p38:4*(24*((10^9)*(10^9)*(10^9)*(10^9)))<=10^38:=by decide
theorem bB8:4*(24*((10^38)*(10^38)*(10^38)*(10^38)))<=10^154:=by
 have e:(10^38:Nat)*10^38*10^38*10^38=10^152:=by rw[<- Nat.pow_add,<- Nat.pow_add,<- Nat.pow_add]
 rw[e,show (154:Nat)=152+2 by rfl,Nat.pow_add];have:(10^2:Nat)=100:=by decide
 rw[this];generalize (10^152:Nat)=a;omega
theorem S9 {m:List (Nat×Nat×Nat)} {A:List (List ByteArray)} {J:Nat->Nat} (hd:d<=4) (hn:n<=4) (hw:Wd d n B) (hB:Big d n B (10^9)) (h:mR 0 d n m A J B) :
  ∃ m' A' J' K p r,cW () (m,(n:Int),()) A=some (m',A')/\mR d r n m' A' J' K/\r<=n/\Hn r K p/\xT n d B r K/\Wd r n K/\Big r n K (10^38):=by
 have hk:=λ(r:Nat) (K:Nat->V) (p:Nat->Nat) (hH:Hn r K p) (hI:xT n d B r K)=>aMF (E:=10^9) (D:=9) hn (by omega) hw hB (by decide) (Nat.le_refl _) (by decide) hH hI
 obtain⟨m',A',J',K,p,r,g1,g2,g3,g4,g5,g6⟩:=aTB (E:=λd=>10^dg 9 d) (T:=λd=>10^(5*dg 9 d+1)) (show d<1048576 by omega) (show n<1048576 by omega) (by omega) h hw hB (show 1<=10^dg 9 0 from Nat.pow_pos (by decide)) (a3I (.inl hn) (by decide)) λr K p hr hH hI =>
  ⟨λd=>10^dg 38 d,λd=>10^(5*dg 38 d+1),λi hi x _=>Nat.le_trans (hk r K p hH hI i hi x) p38,a3I (.inl (by omega)) (by decide)⟩
 exact⟨m',A',J',K,p,r,g1,g2,g3,g4,g5,g6,λi hi x _=>Nat.le_trans (hk r K p g4 g5 i hi x) p38⟩
theorem aHX {o:Nat} {m:List (Nat×Nat×Nat)} {A:List (List ByteArray)} {J:Nat->Nat} (hd:d<=4) (hn:n<=4) (hw:Wd d n B) (hB:Big d n B (10^38)) (h:mR o d n m A J B) :
  ∃ m' A' J' K p r,cW () (m,(n:Int),()) A=some (m',A')/\mR d r n m' A' J' K/\r<=n/\Hn r K p/\xT n d B r K/\Wd r n K/\Big r n K (10^154):=by
 have hk:=λ(r:Nat) (K:Nat->V) (p:Nat->Nat) (hH:Hn r K p) (hI:xT n d B r K)=>aMF (E:=10^38) (D:=38) hn (by omega) hw hB (Nat.pow_pos (by decide)) (Nat.le_refl _) (by decide) hH hI
 obtain⟨m',A',J',K,p,r,g1,g2,g3,g4,g5,g6⟩:=aTB (E:=λd=>10^dg 38 d) (T:=λd=>10^(5*dg 38 d+1)) (show d<1048576 by omega) (show n<1048576 by omega) (by omega) h hw hB (show 1<=10^dg 38 0 from Nat.pow_pos (by decide)) (a3I (.inl hn) (by decide)) λr K p hr hH hI =>
  ⟨λd=>10^dg 154 d,λd=>10^(5*dg 154 d+1),λi hi x _=>Nat.le_trans (hk r K p hH hI i hi x) bB8,a3I (.inl (by omega)) (by decide)⟩
 exact⟨m',A',J',K,p,r,g1,g2,g3,g4,g5,g6,λi hi x _=>Nat.le_trans (hk r K p g4 g5 i hi x) bB8⟩
theorem aC5 {q:Nat->Nat} (hH:Hn d B q) (hn:n<=4) (hw:Wd d n B) (hB:Big d n B 1000000000) {K:Nat->V} {p:Nat->Nat} {r:Nat} (hK:Hn r K p) (hI:xT n d B r K) (ok:∀ i,i<r->∀ x,x<n->(K i x).natAbs<=1000000000) :
  dR (((n:Int),Mr d n B),())=some (((n:Int),Mr r n K),0,()):=by
 have hd:=(Hn.NK hH hw).1;obtain⟨m,A,a1,a2⟩:=S3 (by omega) (by omega) hw hB;obtain⟨m',A',J',K',p',r',g1,g2,g3,g4,g5,g6,g7⟩:=S9 (by omega) hn hw (by rw[<- p9]; exact hB) a2;obtain⟨e1,_,e3⟩:=Hn.unique hK g4 λv=>(hI v).trans (g5 v).symm
 subst e1;have g2':=g2.congr (M':=K) λi hi=>(e3 i hi).symm
 have hs:=aPW g2' (Nat.le_refl _) (by omega) (by omega) ok (n:Int);rw[List.take_of_length_le (by rw[g2'.len]; exact Nat.le_refl _)]at hs;have e0:eqI 0 0=true:=by decide
 simp only[dR,UK hH hw (by omega) (by omega) hB,aE,e0,Bool.not_true,oD,a1,g1,hs];rfl
theorem aMG {q:Nat->Nat} (hH:Hn d B q) (hn:n<=4) (hw:Wd d n B) (hB:Big d n B 1000000000) {K:Nat->V} {r:Nat} (hI:xT n d B r K) {S:Nat->V} {s:Nat->Nat} {t:Nat} (hS:Hn t S s) (hI2:xT n r K t S) (ok:∀ i,i<t->∀ x,x<n->(S i x).natAbs<=1000000000) :
  fT (((n:Int),Mr d n B),())=some (((n:Int),Mr t n S),0,()):=by
 have hd:=(Hn.NK hH hw).1;obtain⟨m,A,a1,a2⟩:=S3 (by omega) (by omega) hw hB;obtain⟨m',A',J',K',p',r',g1,g2,g3,g4,g5,g6,g7⟩:=S9 (by omega) hn hw (by rw[<- p9]; exact hB) a2;obtain⟨m2,A2,J2,S',p2,t',b1,b2,b3,b4,b5,b6,b7⟩:=aHX (by omega) hn g6 g7 g2;have hsame:Same r' K' r K:=λv=>(g5 v).trans (hI v).symm
 obtain⟨e1,_,e3⟩:=Hn.unique hS b4 λv=>(hI2 v).trans ((Ker.same hsame).symm.trans (b5 v).symm)
 subst e1;have g2':=b2.congr (M':=S) λi hi=>(e3 i hi).symm
 have hs:=aPW g2' (Nat.le_refl _) (by omega) (by omega) ok (n:Int);rw[List.take_of_length_le (by rw[g2'.len]; exact Nat.le_refl _)]at hs;have e0:eqI 0 0=true:=by decide
 simp only[fT,UK hH hw (by omega) (by omega) hB,aE,e0,Bool.not_true,oD,a1,g1,b1,hs];rfl
end
end Go.PM
namespace Go.PM
open Go Go.RowKit Go.Proofs
set_option maxHeartbeats 4000000
abbrev gL:List (Nat×Kd):=[(0,.list TyE),(1,.list TyE),(12,.int .i64),(13,.int .i64)]
abbrev kO:List (Ex×List (Nat×Kd)):=[(.ret,[(4,.bool)]),(.exit 0,[])]
def eI(x:Shape.den gL):Option (Shape.den gL⊕aS kO):=match x with
 | (v0,v1,v12,v13,()) =>
  bif ltI v13 v12 then
   bif aJ v13 v0.length then bif aJ v13 v1.length then bif !(eqI (v0.getD v13.toNat 0) (v1.getD v13.toNat 0)) then
    some (.inr (.inl (false,())))
   else some (.inl (v0,v1,v12,(aB .i64 (v13+1)),())) else none else none
  else some (.inr (.inr ((()))))
def iQ(x:Shape.den gL):Option (aS kO):=bY eI (2^64) x
def dA(x:aH [.list TyE,.list TyE]):Option (aH [.bool]):=match x with
 | (v0,v1,()) =>
  bif !(eqI (v0.length:Int) (v1.length:Int)) then
   some (false,())
  else aC (iQ (v0,v1,(v0.length:Int),0,())) λz1 =>
  zM z1 (λa2=>some (a2.1,())) λb3 =>
  some (true,())
def GS:Code:=aQ Tryz.f62
abbrev GV:Env:=bZ []
theorem DL:aY tP GV:=bB trivial
def uX:Code:=eG GS 0
def FM(id:Nat):Option bI:=bif Nat.beq id 4 then some ⟨gL,kO,iQ⟩ else none
theorem LP:∀ x,dY tP GV 26 (aG Tryz.f62) FM uX gL kO x=eI x:=by
 rintro⟨v0,v1,v12,v13,⟨⟩⟩
 kernel_rfl
theorem M6:cN tP 26 uX ⟨gL,kO,iQ⟩:=by exact cL DL.callee aI.mixed _ (aD (l:=[]) (by kernel_rfl) trivial) LP
theorem SU:dK tP 62 _ _ dA:=by exact bO aI DL Tryz.func62 (c:=GS) (by kernel_rfl) (aT:=aG Tryz.f62) (lt:=FM) (aD (l:=[uX]) (by kernel_rfl) ⟨cK (i:=4) (by kernel_rfl) rfl M6,trivial⟩) (by rintro⟨v0,v1,⟨⟩⟩; kernel_rfl)
abbrev qS:Ent:=⟨62,_,_,dA⟩
theorem uB:Ent.OK tP qS:=SU
def aA0(x:aH [.list TyE,.list TyE]):Option (aH [.bool]):=match x with
 | (v0,v1,()) =>
  aC (dA (v0,v1,())) λy1 =>
  some (y1.1,())
theorem aRW:aY tP (bZ [qS]):=bB ⟨uB,trivial⟩
theorem aWZ:dK tP 132 _ _ aA0:=by exact bO aI aRW Tryz.func132 (c:=aQ Tryz.f132) (by kernel_rfl) (aT:=aG Tryz.f132) (lt:=λ_=>none) (aD (lt:=λ_=>none) (l:=[]) (by kernel_rfl) trivial) (by rintro⟨v0,v1,⟨⟩⟩; kernel_rfl)
abbrev aQD:Ent:=⟨132,_,_,aA0⟩
theorem aR0:Ent.OK tP aQD:=aWZ
abbrev bD:List (Nat×Kd):=[(1,.list TyD),(2,.fn 132),(15,.list TyD),(16,.int .i64),(17,.int .i64)]
abbrev bR:List (Ex×List (Nat×Kd)):=[(.ret,[(6,.bool)]),(.exit 0,[])]
def aV(x:Shape.den bD):Option (Shape.den bD⊕aS bR):=match x with
 | (v1,v2,v15,v16,v17,()) =>
  bif ltI v17 v16 then
   bif aJ v17 v15.length then bif aJ v17 v1.length then aC (aA0 ((v15.getD v17.toNat []),(v1.getD v17.toNat []),())) λy2 =>
   bif y2.1 then
    some (.inl (v1,(),v15,v16,(aB .i64 (v17+1)),()))
   else some (.inr (.inl (false,()))) else none else none
  else some (.inr (.inr ((()))))
def bM(x:Shape.den bD):Option (aS bR):=bY aV (2^64) x
def aZ(x:aH [.list TyD,.list TyD,.fn 132]):Option (aH [.bool]):=match x with
 | (v0,v1,v2,()) =>
  bif !(eqI (v0.length:Int) (v1.length:Int)) then
   some (false,())
  else aC (bM (v1,(),v0,(v0.length:Int),0,())) λz3 =>
  zM z3 (λa4=>some (a4.1,())) λb5 =>
  some (true,())
def j3:Code:=aQ Tryz.f131
abbrev jU:Env:=bZ [aQD]
theorem iI:aY tP jU:=bB ⟨aR0,trivial⟩
def eH:Code:=eG j3 0
def jN(id:Nat):Option bI:=bif Nat.beq id 4 then some ⟨bD,bR,bM⟩ else none
theorem pL:∀ x,dY tP jU 32 (aG Tryz.f131) jN eH bD bR x=aV x:=by
 rintro⟨v1,v2,v15,v16,v17,⟨⟩⟩
 kernel_rfl
theorem qL:cN tP 32 eH ⟨bD,bR,bM⟩:=by exact cL iI.callee aI.mixed _ (aD (l:=[]) (by kernel_rfl) trivial) pL
theorem r9:dK tP 131 _ _ aZ:=by exact bO aI iI Tryz.func131 (c:=j3) (by kernel_rfl) (aT:=aG Tryz.f131) (lt:=jN) (aD (l:=[eH]) (by kernel_rfl) ⟨cK (i:=4) (by kernel_rfl) rfl qL,trivial⟩) (by rintro⟨v0,v1,v2,⟨⟩⟩; kernel_rfl)
abbrev jZ:Ent:=⟨131,_,_,aZ⟩
theorem q9:Ent.OK tP jZ:=r9
def A4(x:aH [.agg TyH,.agg TyH]):Option (aH [.bool]):=match x with
 | (v0,v1,()) =>
  bif eqI v0.1 v1.1 then
   aC (aZ (v0.2,v1.2,(),())) λy1 =>
   some (y1.1,())
  else some (false,())
theorem aI8:aY tP (bZ [jZ]):=bB ⟨q9,trivial⟩
theorem aNV:dK tP 75 _ _ A4:=by exact bO aI aI8 Tryz.func75 (c:=aQ Tryz.f75) (by kernel_rfl) (aT:=aG Tryz.f75) (lt:=λ_=>none) (aD (lt:=λ_=>none) (l:=[]) (by kernel_rfl) trivial) (by rintro⟨v0,v1,⟨⟩⟩; kernel_rfl)
abbrev aEM:Ent:=⟨75,_,_,A4⟩
theorem aJM:Ent.OK tP aEM:=aNV
def yH(x:aH [.agg TyH,.list TyE]):Option (aH [.bool]):=match x with
 | (v0,v1,()) =>
  aC (tF (v0,v1,())) λy1 =>
  aC (vV (y1.1,())) λy2 =>
  some (ltI y2.1 0,())
theorem YK:aY tP (bZ [JO,JB]):=bB ⟨TR,L7,trivial⟩
theorem aCJ:dK tP 143 _ _ yH:=by exact bO aI YK Tryz.func143 (c:=aQ Tryz.f143) (by kernel_rfl) (aT:=aG Tryz.f143) (lt:=λ_=>none) (aD (lt:=λ_=>none) (l:=[]) (by kernel_rfl) trivial) (by rintro⟨v0,v1,⟨⟩⟩; kernel_rfl)
abbrev FY:Ent:=⟨143,_,_,yH⟩
theorem JE:Ent.OK tP FY:=aCJ
def KM(x:aH [.agg TyH,.list TyE]):Option (aH [.bool,.int .i64]):=match x with
 | (v0,v1,()) =>
  aC (LF (v0,v1,())) λy1 =>
  bif !(eqI y1.1 0) then
   some (false,y1.1,())
  else aC (yH (v0,v1,())) λy2 =>
  some (y2.1,0,())
theorem aDO:aY tP (bZ [FY,WM]):=bB ⟨JE,aD5,trivial⟩
theorem aIE:dK tP 101 _ _ KM:=by exact bO aI aDO Tryz.func101 (c:=aQ Tryz.f101) (by kernel_rfl) (aT:=aG Tryz.f101) (lt:=λ_=>none) (aD (lt:=λ_=>none) (l:=[]) (by kernel_rfl) trivial) (by rintro⟨v0,v1,⟨⟩⟩; kernel_rfl)
abbrev VV:Ent:=⟨101,_,_,KM⟩
theorem aE7:Ent.OK tP VV:=aIE
abbrev nU:List (Nat×Kd):=[(2,.ptr TyH),(3,.ptr TyH),(10,.list TyH),(11,.int .i64),(12,.int .i64)]
abbrev qY:List (Ex×List (Nat×Kd)):=[(.ret,[(4,.int .i64)]),(.exit 0,[(2,.ptr TyH),(3,.ptr TyH)])]
def JU(x:Shape.den nU):Option (Shape.den nU⊕aS qY):=match x with
 | (v2,v3,v10,v11,v12,()) =>
  bif ltI v12 v11 then
   bif aJ v12 v10.length then aC (iL (((v10.getD v12.toNat (0,[])).1,(v10.getD v12.toNat (0,[])).2),())) λy2 =>
   bif !(eqI y2.1 0) then
    some (.inr (.inl (y2.1,())))
   else some (.inl (v2,v3,v10,v11,(aB .i64 (v12+1)),())) else none
  else some (.inr (.inr ((v2,v3,()))))
def A7(x:Shape.den nU):Option (aS qY):=bY JU (2^64) x
def vR(x:aH [.agg TyH,.agg TyH]):Option (aH [.int .i64]):=match x with
 | (v0,v1,()) =>
  aC (A7 (v0,v1,[v0,v1],([v0,v1].length:Int),0,())) λz3 =>
  zM z3 (λa4=>some (a4.1,())) λb5 =>
  bif !(eqI b5.1.1 b5.2.1.1) then
   some (5,())
  else some (0,())
def UH:Code:=aQ Tryz.f117
abbrev TA:Env:=bZ [AK]
theorem L3:aY tP TA:=bB ⟨yC,trivial⟩
def FE:Code:=eG UH 0
def Q0(id:Nat):Option bI:=bif Nat.beq id 2 then some ⟨nU,qY,A7⟩ else none
theorem W2:∀ x,dY tP TA 27 (aG Tryz.f117) Q0 FE nU qY x=JU x:=by
 rintro⟨v2,v3,v10,v11,v12,⟨⟩⟩
 kernel_rfl
theorem X9:cN tP 27 FE ⟨nU,qY,A7⟩:=by exact cL L3.callee aI.mixed _ (aD (l:=[]) (by kernel_rfl) trivial) W2
theorem aF3:dK tP 117 _ _ vR:=by exact bO aI L3 Tryz.func117 (c:=UH) (by kernel_rfl) (aT:=aG Tryz.f117) (lt:=Q0) (aD (l:=[FE]) (by kernel_rfl) ⟨cK (i:=2) (by kernel_rfl) rfl X9,trivial⟩) (by rintro⟨v0,v1,⟨⟩⟩; kernel_rfl)
abbrev CV:Ent:=⟨117,_,_,vR⟩
theorem D3:Ent.OK tP CV:=aF3
def JC(x:aH [.list TyE,.ptr TyH]):Option (aH [.bool]):=match x with
 | (v0,v1,()) =>
  aC (yH (v1,v0,())) λy1 =>
  bif y1.1 then
   some (false,())
  else some (true,())
theorem aCA:aY tP (bZ [FY]):=bB ⟨JE,trivial⟩
theorem aFT:dK tP 171 _ _ JC:=by exact bO aI aCA Tryz.func171 (c:=aQ Tryz.f171) (by kernel_rfl) (aT:=aG Tryz.f171) (lt:=λ_=>none) (aD (lt:=λ_=>none) (l:=[]) (by kernel_rfl) trivial) (by rintro⟨v0,v1,⟨⟩⟩; kernel_rfl)
abbrev TG:Ent:=⟨171,_,_,JC⟩
theorem aCH:Ent.OK tP TG:=aFT
abbrev cS:List (Nat×Kd):=[(0,.list TyD),(1,.clo 171 [TyH]),(7,.int .i64),(8,.int .i64)]
abbrev dX:List (Ex×List (Nat×Kd)):=[(.ret,[(4,.int .i64)]),(.exit 0,[])]
def pN(x:Shape.den cS):Option (Shape.den cS⊕aS dX):=match x with
 | (v0,v1,v7,v8,()) =>
  bif ltI v8 v7 then
   bif aJ v8 v0.length then aC (JC ((v0.getD v8.toNat []),v1.1,())) λy2 =>
   bif y2.1 then
    some (.inr (.inl (v8,())))
   else some (.inl (v0,(v1.1,()),v7,(aB .i64 (v8+1)),())) else none
  else some (.inr (.inr ((()))))
def kJ(x:Shape.den cS):Option (aS dX):=bY pN (2^64) x
def mO(x:aH [.list TyD,.clo 171 [TyH]]):Option (aH [.int .i64]):=match x with
 | (v0,v1,()) =>
  aC (kJ (v0,(v1.1,()),(v0.length:Int),0,())) λz3 =>
  zM z3 (λa4=>some (a4.1,())) λb5 =>
  some ((-1),())
def tD:Code:=aQ Tryz.f100
abbrev tN:Env:=bZ [TG]
theorem rA:aY tP tN:=bB ⟨aCH,trivial⟩
def lQ:Code:=eG tD 0
def sZ(id:Nat):Option bI:=bif Nat.beq id 2 then some ⟨cS,dX,kJ⟩ else none
theorem BQ:∀ x,dY tP tN 19 (aG Tryz.f100) sZ lQ cS dX x=pN x:=by
 rintro⟨v0,v1,v7,v8,⟨⟩⟩
 kernel_rfl
theorem CE:cN tP 19 lQ ⟨cS,dX,kJ⟩:=by exact cL rA.callee aI.mixed _ (aD (l:=[]) (by kernel_rfl) trivial) BQ
theorem E6:dK tP 100 _ _ mO:=by exact bO aI rA Tryz.func100 (c:=tD) (by kernel_rfl) (aT:=aG Tryz.f100) (lt:=sZ) (aD (l:=[lQ]) (by kernel_rfl) ⟨cK (i:=2) (by kernel_rfl) rfl CE,trivial⟩) (by rintro⟨v0,v1,⟨⟩⟩; kernel_rfl)
abbrev tR:Ent:=⟨100,_,_,mO⟩
theorem D2:Ent.OK tP tR:=E6
def k8(x:aH [.list TyD,.clo 171 [TyH]]):Option (aH [.bool]):=match x with
 | (v0,v1,()) =>
  aC (mO (v0,(v1.1,()),())) λy1 =>
  some (!(ltI y1.1 0),())
theorem BV:aY tP (bZ [tR]):=bB ⟨D2,trivial⟩
theorem DJ:dK tP 43 _ _ k8:=by exact bO aI BV Tryz.func43 (c:=aQ Tryz.f43) (by kernel_rfl) (aT:=aG Tryz.f43) (lt:=λ_=>none) (aD (lt:=λ_=>none) (l:=[]) (by kernel_rfl) trivial) (by rintro⟨v0,v1,⟨⟩⟩; kernel_rfl)
abbrev rF:Ent:=⟨43,_,_,k8⟩
theorem B0:Ent.OK tP rF:=DJ
def PG(x:aH [.agg TyH,.agg TyH]):Option (aH [.bool,.int .i64]):=match x with
 | (v0,v1,()) =>
  aC (vR (v0,v1,())) λy1 =>
  bif !(eqI y1.1 0) then
   some (false,y1.1,())
  else aC (k8 (v0.2,(v1,()),())) λy2 =>
  bif y2.1 then
   some (false,0,())
  else some (true,0,())
theorem aH3:aY tP (bZ [CV,rF]):=bB ⟨D3,B0,trivial⟩
theorem aL5:dK tP 124 _ _ PG:=by exact bO aI aH3 Tryz.func124 (c:=aQ Tryz.f124) (by kernel_rfl) (aT:=aG Tryz.f124) (lt:=λ_=>none) (aD (lt:=λ_=>none) (l:=[]) (by kernel_rfl) trivial) (by rintro⟨v0,v1,⟨⟩⟩; kernel_rfl)
abbrev aBT:Ent:=⟨124,_,_,PG⟩
theorem aH2:Ent.OK tP aBT:=aL5
end Go.PM
namespace Go.PM
open Go Go.RowKit Go.Proofs
set_option maxHeartbeats 4000000
def R7(x:aH [.agg TyH,.agg TyH]):Option (aH [.agg TyH,.int .i64]):=match x with
 | (v0,v1,()) =>
  aC (vR (v0,v1,())) λy1 =>
  bif !(eqI y1.1 0) then
   some ((0,[]),y1.1,())
  else aC (eJ () (v0.2,()) []) λy2 =>
  aC (eJ () (v1.2,()) y2.2) λy3 =>
  bif Nat.ble y3.1.length 1048576 then bif Nat.ble y2.1.length 1048576 then aC (dD (y2.1++y3.1) (v0.1,()) y3.2) λy4 =>
  aC (bV y4.1 (v0.1,()) y4.2) λy5 =>
  some (y5.1.1,y5.1.2.1,()) else none else none
def aAR:Code:=aQ Tryz.f116
abbrev aI1:Env:=OP [CV] [uK,lX,lU]
theorem aNR:aY tP aI1:=oB ⟨D3,trivial⟩ ⟨u9,mH,mC,trivial⟩
def aGX(id:Nat):Option bI:=none
theorem aK8:cB aAR=[]:=by kernel_rfl
theorem aNQ:∀ x,aGR tP aI1 Tryz.f116 (aG Tryz.f116) aGX aAR 110 .str _ _ x=R7 x:=by
 rintro⟨v0,v1,⟨⟩⟩
 kernel_rfl
theorem aRQ:dK tP 116 _ _ R7:=by exact aM5 aI aNR Tryz.func116 (c:=aAR) (by kernel_rfl) (aT:=aG Tryz.f116) (lt:=aGX) (aD aK8 trivial) aNQ
abbrev aJA:Ent:=⟨116,_,_,R7⟩
theorem aNE:Ent.OK tP aJA:=aRQ
end Go.PM
namespace Go.PM
open Go Go.RowKit Go.Proofs
set_option maxHeartbeats 4000000
abbrev fD:List (Nat×Kd):=[(0,.list TyE),(1,.list TyE),(12,.int .i64),(13,.int .i64)]
abbrev iH:List (Ex×List (Nat×Kd)):=[(.ret,[(4,.bool)]),(.exit 0,[])]
def dF(x:Shape.den fD):Option (Shape.den fD⊕aS iH):=match x with
 | (v0,v1,v12,v13,()) =>
  bif ltI v13 v12 then
   bif aJ v13 v0.length then bif aJ v13 v1.length then bif !(eqI (v0.getD v13.toNat 0) (v1.getD v13.toNat 0)) then
    some (.inr (.inl (false,())))
   else some (.inl (v0,v1,v12,(aB .i64 (v13+1)),())) else none else none
  else some (.inr (.inr ((()))))
def gE(x:Shape.den fD):Option (aS iH):=bY dF (2^64) x
def dQ(x:aH [.list TyE,.list TyE]):Option (aH [.bool]):=match x with
 | (v0,v1,()) =>
  bif !(eqI (v0.length:Int) (v1.length:Int)) then
   some (false,())
  else aC (gE (v0,v1,(v0.length:Int),0,())) λz1 =>
  zM z1 (λa2=>some (a2.1,())) λb3 =>
  some (true,())
def DG:Code:=aQ Tryz.f20
abbrev DO:Env:=bZ []
theorem zJ:aY tP DO:=bB trivial
def rV:Code:=eG DG 0
def CC(id:Nat):Option bI:=bif Nat.beq id 4 then some ⟨fD,iH,gE⟩ else none
theorem JD:∀ x,dY tP DO 26 (aG Tryz.f20) CC rV fD iH x=dF x:=by
 rintro⟨v0,v1,v12,v13,⟨⟩⟩
 kernel_rfl
theorem J9:cN tP 26 rV ⟨fD,iH,gE⟩:=by exact cL zJ.callee aI.mixed _ (aD (l:=[]) (by kernel_rfl) trivial) JD
theorem O7:dK tP 20 _ _ dQ:=by exact bO aI zJ Tryz.func20 (c:=DG) (by kernel_rfl) (aT:=aG Tryz.f20) (lt:=CC) (aD (l:=[rV]) (by kernel_rfl) ⟨cK (i:=4) (by kernel_rfl) rfl J9,trivial⟩) (by rintro⟨v0,v1,⟨⟩⟩; kernel_rfl)
abbrev DQ:Ent:=⟨20,_,_,dQ⟩
theorem LS:Ent.OK tP DQ:=O7
def zS(x:aH [.list TyE,.list TyE]):Option (aH [.bool]):=match x with
 | (v0,v1,()) =>
  aC (dA (v0,v1,())) λy1 =>
  some (y1.1,())
theorem aAP:aY tP (bZ [qS]):=bB ⟨uB,trivial⟩
theorem aEH:dK tP 133 _ _ zS:=by exact bO aI aAP Tryz.func133 (c:=aQ Tryz.f133) (by kernel_rfl) (aT:=aG Tryz.f133) (lt:=λ_=>none) (aD (lt:=λ_=>none) (l:=[]) (by kernel_rfl) trivial) (by rintro⟨v0,v1,⟨⟩⟩; kernel_rfl)
abbrev QI:Ent:=⟨133,_,_,zS⟩
theorem aAE:Ent.OK tP QI:=aEH
abbrev bC:List (Nat×Kd):=[(1,.list TyD),(2,.fn 133),(15,.list TyD),(16,.int .i64),(17,.int .i64)]
abbrev bU:List (Ex×List (Nat×Kd)):=[(.ret,[(6,.bool)]),(.exit 0,[])]
def aU(x:Shape.den bC):Option (Shape.den bC⊕aS bU):=match x with
 | (v1,v2,v15,v16,v17,()) =>
  bif ltI v17 v16 then
   bif aJ v17 v15.length then bif aJ v17 v1.length then aC (zS ((v15.getD v17.toNat []),(v1.getD v17.toNat []),())) λy2 =>
   bif y2.1 then
    some (.inl (v1,(),v15,v16,(aB .i64 (v17+1)),()))
   else some (.inr (.inl (false,()))) else none else none
  else some (.inr (.inr ((()))))
def bL(x:Shape.den bC):Option (aS bU):=bY aU (2^64) x
def bA(x:aH [.list TyD,.list TyD,.fn 133]):Option (aH [.bool]):=match x with
 | (v0,v1,v2,()) =>
  bif !(eqI (v0.length:Int) (v1.length:Int)) then
   some (false,())
  else aC (bL (v1,(),v0,(v0.length:Int),0,())) λz3 =>
  zM z3 (λa4=>some (a4.1,())) λb5 =>
  some (true,())
def jW:Code:=aQ Tryz.f131
abbrev j7:Env:=bZ [QI]
theorem iJ:aY tP j7:=bB ⟨aAE,trivial⟩
def eF:Code:=eG jW 0
def jI(id:Nat):Option bI:=bif Nat.beq id 4 then some ⟨bC,bU,bL⟩ else none
theorem pV:∀ x,dY tP j7 32 (aG Tryz.f131) jI eF bC bU x=aU x:=by
 rintro⟨v1,v2,v15,v16,v17,⟨⟩⟩
 kernel_rfl
theorem qM:cN tP 32 eF ⟨bC,bU,bL⟩:=by exact cL iJ.callee aI.mixed _ (aD (l:=[]) (by kernel_rfl) trivial) pV
theorem sA:dK tP 131 _ _ bA:=by exact bO aI iJ Tryz.func131 (c:=jW) (by kernel_rfl) (aT:=aG Tryz.f131) (lt:=jI) (aD (l:=[eF]) (by kernel_rfl) ⟨cK (i:=4) (by kernel_rfl) rfl qM,trivial⟩) (by rintro⟨v0,v1,v2,⟨⟩⟩; kernel_rfl)
abbrev jY:Ent:=⟨131,_,_,bA⟩
theorem rE:Ent.OK tP jY:=sA
def xX(x:aH [.list TyD,.list TyD]):Option (aH [.bool]):=match x with
 | (v0,v1,()) =>
  aC (bA (v0,v1,(),())) λy1 =>
  some (y1.1,())
theorem aDX:aY tP (bZ [jY]):=bB ⟨rE,trivial⟩
theorem aIK:dK tP 77 _ _ xX:=by exact bO aI aDX Tryz.func77 (c:=aQ Tryz.f77) (by kernel_rfl) (aT:=aG Tryz.f77) (lt:=λ_=>none) (aD (lt:=λ_=>none) (l:=[]) (by kernel_rfl) trivial) (by rintro⟨v0,v1,⟨⟩⟩; kernel_rfl)
abbrev WA:Ent:=⟨77,_,_,xX⟩
theorem aE9:Ent.OK tP WA:=aIK
abbrev tJ:List (Nat×Kd):=[(0,.int .i64),(3,.int .i64)]
abbrev yD:List (Ex×List (Nat×Kd)):=[(.ret,[(2,.bool)]),(.exit 0,[])]
def QT(x:Shape.den tJ):Option (Shape.den tJ⊕aS yD):=match x with
 | (v0,v3,()) =>
  bif !(ltI v0 (aB .i64 (v3*v3))) then
   bif eqI v3 0 then none else bif eqI (v0.tmod v3) 0 then
    some (.inr (.inl (false,())))
   else some (.inl (v0,(aB .i64 (v3+1)),()))
  else some (.inr (.inr ((()))))
def HJ(x:Shape.den tJ):Option (aS yD):=bY QT (2^64) x
def LN(x:aH [.int .i64]):Option (aH [.bool]):=match x with
 | (v0,()) =>
  bif ltI v0 2 then
   some (false,())
  else bif ltI 97 v0 then
   some (false,())
  else aC (HJ (v0,2,())) λz1 =>
  zM z1 (λa2=>some (a2.1,())) λb3 =>
  some (true,())
def aDA:Code:=aQ Tryz.f48
abbrev aD2:Env:=bZ []
theorem V7:aY tP aD2:=bB trivial
def MH:Code:=eG aDA 0
def aBP(id:Nat):Option bI:=bif Nat.beq id 4 then some ⟨tJ,yD,HJ⟩ else none
theorem aEY:∀ x,dY tP aD2 21 (aG Tryz.f48) aBP MH tJ yD x=QT x:=by
 rintro⟨v0,v3,⟨⟩⟩
 kernel_rfl
theorem aF9:cN tP 21 MH ⟨tJ,yD,HJ⟩:=by exact cL V7.callee aI.mixed _ (aD (l:=[]) (by kernel_rfl) trivial) aEY
theorem aN7:dK tP 48 _ _ LN:=by exact bO aI V7 Tryz.func48 (c:=aDA) (by kernel_rfl) (aT:=aG Tryz.f48) (lt:=aBP) (aD (l:=[MH]) (by kernel_rfl) ⟨cK (i:=4) (by kernel_rfl) rfl aF9,trivial⟩) (by rintro⟨v0,⟨⟩⟩; kernel_rfl)
abbrev TO:Ent:=⟨48,_,_,LN⟩
theorem V9:Ent.OK tP TO:=aN7
abbrev xL:List (Nat×Kd):=[(0,.list TyE),(13,.list TyE),(14,.int .i64),(15,.int .i64)]
abbrev DP:List (Ex×List (Nat×Kd)):=[(.ret,[(2,.int .i64)]),(.exit 1,[])]
def VO(x:Shape.den xL):Option (Shape.den xL⊕aS DP):=match x with
 | (v0,v13,v14,v15,()) =>
  bif ltI v15 v14 then
   bif aJ v15 v13.length then aC (LN ((v13.getD v15.toNat 0),())) λy2 =>
   bif y2.1 then
    bif ltI 0 v15 then
     bif aJ (aB .i64 (v15-1)) v0.length then bif !(ltI (v0.getD ((aB .i64 (v15-1)).toNat) 0) (v13.getD v15.toNat 0)) then
      some (.inr (.inl (6,())))
     else some (.inl (v0,v13,v14,(aB .i64 (v15+1)),())) else none
    else some (.inl (v0,v13,v14,(aB .i64 (v15+1)),()))
   else some (.inr (.inl (25,()))) else none
  else some (.inr (.inr ((()))))
def LH(x:Shape.den xL):Option (aS DP):=bY VO (2^64) x
def pW(x:aH [.list TyE]):Option (aH [.int .i64]):=match x with
 | (v0,()) =>
  bif eqI (v0.length:Int) 0 then
   some (13,())
  else bif ltI 6 (v0.length:Int) then
   some (4,())
  else aC (LH (v0,v0,(v0.length:Int),0,())) λz3 =>
  zM z3 (λa4=>some (a4.1,())) λb5 =>
  some (0,())
def aKI:Code:=aQ Tryz.f32
abbrev aKJ:Env:=bZ [TO]
theorem aBS:aY tP aKJ:=bB ⟨V9,trivial⟩
def TB:Code:=eG aKI 0
def aHA(id:Nat):Option bI:=bif Nat.beq id 6 then some ⟨xL,DP,LH⟩ else none
theorem aHH:∀ x,dY tP aKJ 35 (aG Tryz.f32) aHA TB xL DP x=VO x:=by
 rintro⟨v0,v13,v14,v15,⟨⟩⟩
 kernel_rfl
theorem aKB:cN tP 35 TB ⟨xL,DP,LH⟩:=by exact cL aBS.callee aI.mixed _ (aD (l:=[]) (by kernel_rfl) trivial) aHH
theorem aR6:dK tP 32 _ _ pW:=by exact bO aI aBS Tryz.func32 (c:=aKI) (by kernel_rfl) (aT:=aG Tryz.f32) (lt:=aHA) (aD (l:=[TB]) (by kernel_rfl) ⟨cK (i:=6) (by kernel_rfl) rfl aKB,trivial⟩) (by rintro⟨v0,⟨⟩⟩; kernel_rfl)
abbrev GI:Ent:=⟨32,_,_,pW⟩
theorem DF:Ent.OK tP GI:=aR6
def bG(x:aH [.agg TyG]):Option (aH [.int .i64]):=match x with
 | (v0,()) =>
  aC (pW (v0.1,())) λy1 =>
  bif !(eqI y1.1 0) then
   some (y1.1,())
  else aC (iL (((v0.1.length:Int),v0.2.1),())) λy2 =>
  bif !(eqI y2.1 0) then
   some (y2.1,())
  else aC (fT (((v0.1.length:Int),v0.2.1),())) λy3 =>
  bif !(eqI y3.2.1 0) then
   some (7,())
  else aC (A4 (y3.1,((v0.1.length:Int),v0.2.1),())) λy4 =>
  bif y4.1 then
   aC (dR (((v0.1.length:Int),v0.2.1),())) λy5 =>
   bif !(eqI y5.2.1 0) then
    some (14,())
   else aC (xX (y5.1.2,v0.2.2,())) λy6 =>
   bif y6.1 then
    some (0,())
   else some (14,())
  else some (7,())
theorem aBW:aY tP (bZ [xS,AK,aEM,ER,GI,WA]):=bB ⟨AQ,yC,aJM,FL,DF,aE9,trivial⟩
theorem aFY:dK tP 24 _ _ bG:=by exact bO aI aBW Tryz.func24 (c:=aQ Tryz.f24) (by kernel_rfl) (aT:=aG Tryz.f24) (lt:=λ_=>none) (aD (lt:=λ_=>none) (l:=[]) (by kernel_rfl) trivial) (by rintro⟨v0,⟨⟩⟩; kernel_rfl)
abbrev I7:Ent:=⟨24,_,_,bG⟩
theorem L8:Ent.OK tP I7:=aFY
def LK(x:aH [.list TyE,.list TyD]):Option (aH [.list TyD,.list TyD,.int .i64]):=match x with
 | (v0,v1,()) =>
  aC (pW (v0,())) λy1 =>
  bif !(eqI y1.1 0) then
   some ([],[],y1.1,())
  else aC (xR ((v0.length:Int),v1,())) λy2 =>
  bif !(eqI y2.2.1 0) then
   some ([],[],y2.2.1,())
  else aC (fT (y2.1,())) λy3 =>
  bif !(eqI y3.2.1 0) then
   some ([],[],y3.2.1,())
  else aC (dR (y2.1,())) λy4 =>
  some (y3.1.2,y4.1.2,y4.2.1,())
theorem aDS:aY tP (bZ [xS,WI,ER,GI]):=bB ⟨AQ,UA,FL,DF,trivial⟩
theorem aHE:dK tP 94 _ _ LK:=by exact bO aI aDS Tryz.func94 (c:=aQ Tryz.f94) (by kernel_rfl) (aT:=aG Tryz.f94) (lt:=λ_=>none) (aD (lt:=λ_=>none) (l:=[]) (by kernel_rfl) trivial) (by rintro⟨v0,v1,⟨⟩⟩; kernel_rfl)
abbrev WK:Ent:=⟨94,_,_,LK⟩
theorem aEA:Ent.OK tP WK:=aHE
def tZ(x:aH [.list TyE]):Option (aH [.list TyE]):=match x with
 | (v0,()) =>
  bif Nat.blt 0 v0.length then bif Nat.ble v0.length 1048576 then some (v0,()) else none else none
theorem LV:aY tP (bZ []):=bB trivial
theorem N1:dK tP 95 _ _ tZ:=by exact bO aI LV Tryz.func95 (c:=aQ Tryz.f95) (by kernel_rfl) (aT:=aG Tryz.f95) (lt:=λ_=>none) (aD (lt:=λ_=>none) (l:=[]) (by kernel_rfl) trivial) (by rintro⟨v0,⟨⟩⟩; kernel_rfl)
abbrev DA:Ent:=⟨95,_,_,tZ⟩
theorem LO:Ent.OK tP DA:=N1
def fZ(x:aH [.list TyE,.list TyD]):Option (aH [.agg TyG,.int .i64]):=match x with
 | (v0,v1,()) =>
  aC (LK (v0,v1,())) λy1 =>
  bif !(eqI y1.2.2.1 0) then
   some (([],([],[])),y1.2.2.1,())
  else aC (tZ (v0,())) λy2 =>
  some ((y2.1,(y1.1,y1.2.1)),0,())
theorem S0:aY tP (bZ [DA,WK]):=bB ⟨LO,aEA,trivial⟩
theorem WZ:dK tP 39 _ _ fZ:=by exact bO aI S0 Tryz.func39 (c:=aQ Tryz.f39) (by kernel_rfl) (aT:=aG Tryz.f39) (lt:=λ_=>none) (aD (lt:=λ_=>none) (l:=[]) (by kernel_rfl) trivial) (by rintro⟨v0,v1,⟨⟩⟩; kernel_rfl)
abbrev l4:Ent:=⟨39,_,_,fZ⟩
theorem l8:Ent.OK tP l4:=WZ
end Go.PM
namespace Go.PM
open Go Go.RowKit Go.Proofs
set_option maxHeartbeats 4000000
def yA(x:aH [.int .u8]):Option (aH [.list TyE]):=match x with
 | (v0,()) =>
  bif eqI ([[2,3,5],[2,3,5,7],[2,3],[2,3,7],[2,5,7],[3,5,7],[2,3,5,11],[2],[2,3,7,13],[3,5,7,13]].length:Int) 0 then none else bif aJ ((IntKind.wrap .i64 v0).tmod ([[2,3,5],[2,3,5,7],[2,3],[2,3,7],[2,5,7],[3,5,7],[2,3,5,11],[2],[2,3,7,13],[3,5,7,13]].length:Int)) [[2,3,5],[2,3,5,7],[2,3],[2,3,7],[2,5,7],[3,5,7],[2,3,5,11],[2],[2,3,7,13],[3,5,7,13]].length then some (([[2,3,5],[2,3,5,7],[2,3],[2,3,7],[2,5,7],[3,5,7],[2,3,5,11],[2],[2,3,7,13],[3,5,7,13]].getD (((IntKind.wrap .i64 v0).tmod ([[2,3,5],[2,3,5,7],[2,3],[2,3,7],[2,5,7],[3,5,7],[2,3,5,11],[2],[2,3,7,13],[3,5,7,13]].length:Int)).toNat) []),()) else none
theorem XZ:aY tP (bZ []):=bB trivial
theorem aCT:dK tP 63 _ _ yA:=by exact bO aI XZ Tryz.func63 (c:=aQ Tryz.f63) (by kernel_rfl) (aT:=aG Tryz.f63) (lt:=λ_=>none) (aD (lt:=λ_=>none) (l:=[]) (by kernel_rfl) trivial) (by rintro⟨v0,⟨⟩⟩; kernel_rfl)
abbrev OX:Ent:=⟨63,_,_,yA⟩
theorem X2:Ent.OK tP OX:=aCT
abbrev kC:List (Nat×Kd):=[(0,.list TyE),(3,.box 52 TyI),(5,.own 3 TyE),(6,.int .i64)]
abbrev mZ:List (Ex×List (Nat×Kd)):=[(.exit 0,[(5,.own 3 TyE)])]
def lE(x:Shape.den kC):Option (Shape.den kC⊕aS mZ):=match x with
 | (v0,v3,v5,v6,()) =>
  bif ltI v6 (v0.length:Int) then
   bif ltI v6 4 then
    bif eqI v6 0 then
     bif Nat.ble [((IntKind.wrap .i64 v3.1).tmod 10)].length 1048576 then bif Nat.ble v5.length 1048576 then some (.inl (v0,v3,(v5++[((IntKind.wrap .i64 v3.1).tmod 10)]),(aB .i64 (v6+1)),())) else none else none
    else bif eqI v6 1 then
     bif Nat.ble [((IntKind.wrap .i64 v3.2.1).tmod 10)].length 1048576 then bif Nat.ble v5.length 1048576 then some (.inl (v0,v3,(v5++[((IntKind.wrap .i64 v3.2.1).tmod 10)]),(aB .i64 (v6+1)),())) else none else none
    else bif eqI v6 2 then
     bif Nat.ble [((IntKind.wrap .i64 v3.2.2.1).tmod 10)].length 1048576 then bif Nat.ble v5.length 1048576 then some (.inl (v0,v3,(v5++[((IntKind.wrap .i64 v3.2.2.1).tmod 10)]),(aB .i64 (v6+1)),())) else none else none
    else bif eqI v6 3 then bif Nat.ble [((IntKind.wrap .i64 v3.2.2.2).tmod 10)].length 1048576 then bif Nat.ble v5.length 1048576 then some (.inl (v0,v3,(v5++[((IntKind.wrap .i64 v3.2.2.2).tmod 10)]),(aB .i64 (v6+1)),())) else none else none else none
   else some (.inr ((v5,())))
  else some (.inr ((v5,())))
def pE(x:Shape.den kC):Option (aS mZ):=bY lE (2^64) x
def pY(x:aH [.list TyE,.agg TyI]):Option (aH [.list TyE]):=match x with
 | (v0,v1,()) =>
  aC (pE (v0,v1,[],0,())) λz1 =>
  some (z1.1,())
def KL:Code:=aQ Tryz.f64
abbrev K6:Env:=bZ []
theorem GR:aY tP K6:=bB trivial
def zD:Code:=eG KL 0
def JP(id:Nat):Option bI:=bif Nat.beq id 3 then some ⟨kC,mZ,pE⟩ else none
theorem PI:∀ x,dY tP K6 26 (aG Tryz.f64) JP zD kC mZ x=lE x:=by
 rintro⟨v0,v3,v5,v6,⟨⟩⟩
 kernel_rfl
theorem RK:cN tP 26 zD ⟨kC,mZ,pE⟩:=by exact cL GR.callee aI.mixed _ (aD (l:=[]) (by kernel_rfl) trivial) PI
theorem YH:dK tP 64 _ _ pY:=by exact bO aI GR Tryz.func64 (c:=KL) (by kernel_rfl) (aT:=aG Tryz.f64) (lt:=JP) (aD (l:=[zD]) (by kernel_rfl) ⟨cK (i:=3) (by kernel_rfl) rfl RK,trivial⟩) (by rintro⟨v0,v1,⟨⟩⟩; kernel_rfl)
abbrev KX:Ent:=⟨64,_,_,pY⟩
theorem VL:Ent.OK tP KX:=YH
def qJ(x:aH [.list TyE,.list TyD,.bool]):Option (aH [.agg TyG,.int .i64]):=match x with
 | (v0,v1,v2,()) =>
  aC (pW (v0,())) λy1 =>
  bif !(eqI y1.1 0) then
   some (([],([],[])),y1.1,())
  else aC (xR ((v0.length:Int),v1,())) λy2 =>
  bif !(eqI y2.2.1 0) then
   some (([],([],[])),y2.2.1,())
  else aC (fT (y2.1,())) λy3 =>
  aC (dR (y2.1,())) λy4 =>
  bif !(eqI y3.2.1 0) then
   some (([],([],[])),4,())
  else bif !(eqI y4.2.1 0) then
   some (([],([],[])),4,())
  else bif v2 then
   some ((v0,(y4.1.2,y3.1.2)),0,())
  else some ((v0,(y3.1.2,y4.1.2)),0,())
theorem aAB:aY tP (bZ [xS,WI,ER,GI]):=bB ⟨AQ,UA,FL,DF,trivial⟩
theorem aEJ:dK tP 65 _ _ qJ:=by exact bO aI aAB Tryz.func65 (c:=aQ Tryz.f65) (by kernel_rfl) (aT:=aG Tryz.f65) (lt:=λ_=>none) (aD (lt:=λ_=>none) (l:=[]) (by kernel_rfl) trivial) (by rintro⟨v0,v1,v2,⟨⟩⟩; kernel_rfl)
abbrev Q6:Ent:=⟨65,_,_,qJ⟩
theorem Z0:Ent.OK tP Q6:=aEJ
abbrev nR:List (Nat×Kd):=[(1,.box 24 TyP),(2,.box 35 TyG),(3,.list TyE),(4,.own 53 TyD),(5,.int .i64)]
abbrev rB:List (Ex×List (Nat×Kd)):=[(.exit 0,[(1,.box 24 TyP),(2,.box 35 TyG),(3,.list TyE),(4,.own 53 TyD)])]
def o5(x:Shape.den nR):Option (Shape.den nR⊕aS rB):=match x with
 | (v1,v2,v3,v4,v5,()) =>
  bif ltI v5 (v1.2.1.length:Int) then
   bif ltI v5 3 then
    bif aJ v5 v1.2.1.length then aC (pY (v3,((v1.2.1.getD v5.toNat (0,(0,(0,0)))).1,((v1.2.1.getD v5.toNat (0,(0,(0,0)))).2.1,((v1.2.1.getD v5.toNat (0,(0,(0,0)))).2.2.1,(v1.2.1.getD v5.toNat (0,(0,(0,0)))).2.2.2))),())) λy3 =>
    bif Nat.ble [y3.1].length 1048576 then bif Nat.ble v4.length 1048576 then some (.inl (v1,v2,v3,(v4++[y3.1]),(aB .i64 (v5+1)),())) else none else none else none
   else some (.inr ((v1,v2,v3,v4,())))
  else some (.inr ((v1,v2,v3,v4,())))
def tQ(x:Shape.den nR):Option (aS rB):=bY o5 (2^64) x
def rX(x:aH [.agg TyP]):Option (aH [.agg TyG]):=match x with
 | (v0,()) =>
  aC (yA (v0.1,())) λy1 =>
  aC (tQ (v0,([],([],[])),y1.1,[],0,())) λz4 =>
  aC (qJ (z4.2.2.1,z4.2.2.2.1,z4.1.2.2,())) λy5 =>
  some (y5.1,())
def TK:Code:=aQ Tryz.f15
abbrev SR:Env:=bZ [KX,OX,Q6]
theorem MD:aY tP SR:=bB ⟨VL,X2,Z0,trivial⟩
def EY:Code:=eG TK 0
def QO(id:Nat):Option bI:=bif Nat.beq id 4 then some ⟨nR,rB,tQ⟩ else none
theorem XJ:∀ x,dY tP SR 41 (aG Tryz.f15) QO EY nR rB x=o5 x:=by
 rintro⟨v1,v2,v3,v4,v5,⟨⟩⟩
 kernel_rfl
theorem YN:cN tP 41 EY ⟨nR,rB,tQ⟩:=by exact cL MD.callee aI.mixed _ (aD (l:=[]) (by kernel_rfl) trivial) XJ
theorem aGC:dK tP 15 _ _ rX:=by exact bO aI MD Tryz.func15 (c:=TK) (by kernel_rfl) (aT:=aG Tryz.f15) (lt:=QO) (aD (l:=[EY]) (by kernel_rfl) ⟨cK (i:=4) (by kernel_rfl) rfl YN,trivial⟩) (by rintro⟨v0,⟨⟩⟩; kernel_rfl)
abbrev SL:Ent:=⟨15,_,_,rX⟩
theorem aCQ:Ent.OK tP SL:=aGC
def rL(x:aH [.agg TyP]):Option (aH [.bool]):=match x with
 | (v0,()) =>
  some (!(ltI 3 (v0.2.1.length:Int)),())
theorem aCY:aY tP (bZ []):=bB trivial
theorem aF6:dK tP 13 _ _ rL:=by exact bO aI aCY Tryz.func13 (c:=aQ Tryz.f13) (by kernel_rfl) (aT:=aG Tryz.f13) (lt:=λ_=>none) (aD (lt:=λ_=>none) (l:=[]) (by kernel_rfl) trivial) (by rintro⟨v0,⟨⟩⟩; kernel_rfl)
abbrev SK:Ent:=⟨13,_,_,rL⟩
theorem aCK:Ent.OK tP SK:=aF6
abbrev o9:List (Nat×Kd):=[(0,.list TyG),(8,.list TyG),(9,.int .i64),(10,.int .i64)]
abbrev sN:List (Ex×List (Nat×Kd)):=[(.ret,[(2,.int .i64)]),(.exit 0,[(0,.list TyG)])]
def gM(x:Shape.den o9):Option (Shape.den o9⊕aS sN):=match x with
 | (v0,v8,v9,v10,()) =>
  bif ltI v10 v9 then
   bif aJ v10 v8.length then aC (bG (((v8.getD v10.toNat ([],([],[]))).1,((v8.getD v10.toNat ([],([],[]))).2.1,(v8.getD v10.toNat ([],([],[]))).2.2)),())) λy2 =>
   bif !(eqI y2.1 0) then
    some (.inr (.inl (y2.1,())))
   else some (.inl (v0,v8,v9,(aB .i64 (v10+1)),())) else none
  else some (.inr (.inr ((v0,()))))
def qD(x:Shape.den o9):Option (aS sN):=bY gM (2^64) x
abbrev oR:List (Nat×Kd):=[(0,.list TyG),(20,.list TyG),(21,.int .i64),(22,.int .i64)]
abbrev sU:List (Ex×List (Nat×Kd)):=[(.ret,[(2,.int .i64)]),(.exit 2,[])]
def mP(x:Shape.den oR):Option (Shape.den oR⊕aS sU):=match x with
 | (v0,v20,v21,v22,()) =>
  bif ltI v22 v21 then
   bif aJ v22 v20.length then bif aJ 0 v0.length then aC (dQ ((v20.getD v22.toNat ([],([],[]))).1,(v0.getD 0 ([],([],[]))).1,())) λy7 =>
   bif y7.1 then
    some (.inl (v0,v20,v21,(aB .i64 (v22+1)),()))
   else some (.inr (.inl (14,()))) else none else none
  else some (.inr (.inr ((()))))
def uP(x:Shape.den oR):Option (aS sU):=bY mP (2^64) x
def bP(x:aH [.list TyG]):Option (aH [.int .i64]):=match x with
 | (v0,()) =>
  aC (qD (v0,v0,(v0.length:Int),0,())) λz3 =>
  zM z3 (λa4=>some (a4.1,())) λb5 =>
  aC (uP (b5.1,b5.1,(b5.1.length:Int),0,())) λz8 =>
  zM z8 (λa9=>some (a9.1,())) λb10 =>
  some (0,())
def LL:Code:=aQ Tryz.f66
abbrev KI:Env:=bZ [DQ,I7]
theorem FN:aY tP KI:=bB ⟨LS,L8,trivial⟩
def HG:Code:=eG LL 0
def HM:Code:=eG LL 1
def I1(id:Nat):Option bI:=bif Nat.beq id 2 then some ⟨o9,sN,qD⟩ else bif Nat.beq id 9 then some ⟨oR,sU,uP⟩ else none
theorem YR:∀ x,dY tP KI 35 (aG Tryz.f66) I1 HG o9 sN x=gM x:=by
 rintro⟨v0,v8,v9,v10,⟨⟩⟩
 kernel_rfl
theorem Z9:cN tP 35 HG ⟨o9,sN,qD⟩:=by exact cL FN.callee aI.mixed _ (aD (l:=[]) (by kernel_rfl) trivial) YR
theorem Y6:∀ x,dY tP KI 35 (aG Tryz.f66) I1 HM oR sU x=mP x:=by
 rintro⟨v0,v20,v21,v22,⟨⟩⟩
 kernel_rfl
theorem aAN:cN tP 35 HM ⟨oR,sU,uP⟩:=by exact cL FN.callee aI.mixed _ (aD (l:=[]) (by kernel_rfl) trivial) Y6
theorem aHU:dK tP 66 _ _ bP:=by exact bO aI FN Tryz.func66 (c:=LL) (by kernel_rfl) (aT:=aG Tryz.f66) (lt:=I1) (aD (l:=[HG,HM]) (by kernel_rfl) ⟨cK (i:=2) (by kernel_rfl) rfl Z9,cK (i:=9) (by kernel_rfl) rfl aAN,trivial⟩) (by rintro⟨v0,⟨⟩⟩; kernel_rfl)
abbrev jO:Ent:=⟨66,_,_,bP⟩
theorem gT:Ent.OK tP jO:=aHU
def gX(x:aH [.agg TyG]):Option (aH [.agg TyH]):=match x with
 | (v0,()) =>
  some (((v0.1.length:Int),v0.2.1),())
theorem aBY:aY tP (bZ []):=bB trivial
theorem aGL:dK tP 69 _ _ gX:=by exact bO aI aBY Tryz.func69 (c:=aQ Tryz.f69) (by kernel_rfl) (aT:=aG Tryz.f69) (lt:=λ_=>none) (aD (lt:=λ_=>none) (l:=[]) (by kernel_rfl) trivial) (by rintro⟨v0,⟨⟩⟩; kernel_rfl)
abbrev rU:Ent:=⟨69,_,_,gX⟩
theorem qX:Ent.OK tP rU:=aGL
def uE(x:aH [.agg TyG,.agg TyG]):Option (aH [.bool,.int .i64]):=match x with
 | (v0,v1,()) =>
  aC (gX (v0,())) λy1 =>
  aC (gX (v1,())) λy2 =>
  aC (PG (y1.1,y2.1,())) λy3 =>
  some (y3.1,y3.2.1,())
theorem aAW:aY tP (bZ [aBT,rU]):=bB ⟨aH2,qX,trivial⟩
theorem aE5:dK tP 70 _ _ uE:=by exact bO aI aAW Tryz.func70 (c:=aQ Tryz.f70) (by kernel_rfl) (aT:=aG Tryz.f70) (lt:=λ_=>none) (aD (lt:=λ_=>none) (l:=[]) (by kernel_rfl) trivial) (by rintro⟨v0,v1,⟨⟩⟩; kernel_rfl)
abbrev HO:Ent:=⟨70,_,_,uE⟩
theorem K7:Ent.OK tP HO:=aE5
def gA(x:aH [.agg TyG,.agg TyG]):Option (aH [.bool,.int .i64]):=match x with
 | (v0,v1,()) =>
  aC (bP ([v0,v1],())) λy1 =>
  bif !(eqI y1.1 0) then
   some (false,y1.1,())
  else aC (uE (v0,v1,())) λy2 =>
  some (y2.1,y2.2.1,())
theorem aBG:aY tP (bZ [jO,HO]):=bB ⟨gT,K7,trivial⟩
theorem aFB:dK tP 18 _ _ gA:=by exact bO aI aBG Tryz.func18 (c:=aQ Tryz.f18) (by kernel_rfl) (aT:=aG Tryz.f18) (lt:=λ_=>none) (aD (lt:=λ_=>none) (l:=[]) (by kernel_rfl) trivial) (by rintro⟨v0,v1,⟨⟩⟩; kernel_rfl)
abbrev zR:Ent:=⟨18,_,_,gA⟩
theorem CN:Ent.OK tP zR:=aFB
def uI(x:aH [.agg TyG,.agg TyG,.agg TyG]):Option (aH [.bool,.int .i64]):=match x with
 | (v0,v1,v2,()) =>
  aC (bP ([v0,v1,v2],())) λy1 =>
  bif !(eqI y1.1 0) then
   some (false,y1.1,())
  else aC (uE (v0,v2,())) λy2 =>
  bif !(eqI y2.2.1 0) then
   some (false,y2.2.1,())
  else bif y2.1 then
   aC (uE (v2,v1,())) λy3 =>
   some (y3.1,y3.2.1,())
  else some (false,y2.2.1,())
theorem ZX:aY tP (bZ [jO,HO]):=bB ⟨gT,K7,trivial⟩
theorem aEL:dK tP 28 _ _ uI:=by exact bO aI ZX Tryz.func28 (c:=aQ Tryz.f28) (by kernel_rfl) (aT:=aG Tryz.f28) (lt:=λ_=>none) (aD (lt:=λ_=>none) (l:=[]) (by kernel_rfl) trivial) (by rintro⟨v0,v1,v2,⟨⟩⟩; kernel_rfl)
abbrev QN:Ent:=⟨28,_,_,uI⟩
theorem Z3:Ent.OK tP QN:=aEL
def qE(x:aH [.agg TyG,.agg TyG]):Option (aH [.int .i64]):=match x with
 | (v0,v1,()) =>
  aC (gA (v0,v1,())) λy1 =>
  bif !(eqI y1.2.1 0) then
   some (y1.2.1,())
  else bif y1.1 then
   some (0,())
  else some (6,())
theorem Z4:aY tP (bZ [zR]):=bB ⟨CN,trivial⟩
theorem aC2:dK tP 82 _ _ qE:=by exact bO aI Z4 Tryz.func82 (c:=aQ Tryz.f82) (by kernel_rfl) (aT:=aG Tryz.f82) (lt:=λ_=>none) (aD (lt:=λ_=>none) (l:=[]) (by kernel_rfl) trivial) (by rintro⟨v0,v1,⟨⟩⟩; kernel_rfl)
abbrev HF:Ent:=⟨82,_,_,qE⟩
theorem KR:Ent.OK tP HF:=aC2
def pS(x:aH [.agg TyG,.agg TyG]):Option (aH [.int .i64,.int .i64]):=match x with
 | (v0,v1,()) =>
  aC (qE (v0,v1,())) λy1 =>
  bif !(eqI y1.1 0) then
   some (0,y1.1,())
  else some ((aB .i64 ((v1.2.1.length:Int)-(v0.2.1.length:Int))),0,())
theorem aEB:aY tP (bZ [HF]):=bB ⟨KR,trivial⟩
theorem aHN:dK tP 27 _ _ pS:=by exact bO aI aEB Tryz.func27 (c:=aQ Tryz.f27) (by kernel_rfl) (aT:=aG Tryz.f27) (lt:=λ_=>none) (aD (lt:=λ_=>none) (l:=[]) (by kernel_rfl) trivial) (by rintro⟨v0,v1,⟨⟩⟩; kernel_rfl)
abbrev LD:Ent:=⟨27,_,_,pS⟩
theorem NP:Ent.OK tP LD:=aHN
end Go.PM
namespace Go.PM
open Go Go.RowKit Go.Proofs
set_option maxHeartbeats 4000000
def jK(x:aH [.nil0,.int .i64]):Option (List ByteArray):=match x with
 | (v0,v1,()) =>
  bif ltI v1 0 then none else bif ltI 0 (aB .i64 (v1-0)) then
   bif !(ltI (aB .i64 (v1-0)) 0) then bif !(ltI 1048576 (aB .i64 (v1-0))) then bif Nat.ble 0 0 then bif Nat.ble 0 ((List.replicate (aB .i64 (v1-0)).toNat (ByteArray.empty:Ty.den .str)).length) then bif Nat.blt 0 ((List.replicate (aB .i64 (v1-0)).toNat (ByteArray.empty:Ty.den .str)).length) then some ((List.replicate (aB .i64 (v1-0)).toNat (ByteArray.empty:Ty.den .str)).take (0-0)) else none else none else none else none else none
  else some []
def nY:Code:=aQ Tryz.f162
abbrev vF:Env:=bZ []
theorem FD:aY tP vF:=bB trivial
def uD(id:Nat):Option bI:=none
theorem ET:cB nY=[]:=by kernel_rfl
theorem FW:∀ x,aXY tP vF Tryz.f162 (aG Tryz.f162) uD nY [.nil0,.int .i64] 4 110 .str x=jK x:=by
 rintro⟨v0,v1,⟨⟩⟩
 kernel_rfl
theorem HC:aYG tP 162 [.nil0,.int .i64] 110 .str jK:=by exact aV3 aI FD Tryz.func162 (c:=nY) (by kernel_rfl) (aT:=aG Tryz.f162) (lt:=uD) (t:=4) (by kernel_rfl) (aD ET trivial) FW
abbrev vD:Shr:=(162,a8N [.nil0,.int .i64] 110 .str jK)
theorem FA:wN tP vD:=aWL HC
abbrev cP:List (Nat×Kd):=[(0,.list (.list .str)),(3,.int .i64),(9,.list (.list .str)),(10,.int .i64),(11,.int .i64)]
abbrev eD:List (Ex×List (Nat×Kd)):=[(.exit 0,[(0,.list (.list .str)),(3,.int .i64)])]
def pR(x:Shape.den cP):Option (Shape.den cP⊕aS eD):=match x with
 | (v0,v3,v9,v10,v11,()) =>
  bif ltI v11 v10 then
   bif aJ v11 v9.length then bif ltI (aB .i64 (v3+((v9.getD v11.toNat []).length:Int))) 0 then none else some (.inl (v0,(aB .i64 (v3+((v9.getD v11.toNat []).length:Int))),v9,v10,(aB .i64 (v11+1)),())) else none
  else some (.inr ((v0,v3,())))
def kF(x:Shape.den cP):Option (aS eD):=bY pR (2^64) x
abbrev cU:List (Nat×Kd):=[(6,.own 110 .str),(25,.list (.list .str)),(26,.int .i64),(27,.int .i64)]
abbrev dZ:List (Ex×List (Nat×Kd)):=[(.exit 2,[(6,.own 110 .str)])]
def p8(x:Shape.den cU):Option (Shape.den cU⊕aS dZ):=match x with
 | (v6,v25,v26,v27,()) =>
  bif ltI v27 v26 then
   bif aJ v27 v25.length then bif Nat.ble (v25.getD v27.toNat []).length 1048576 then bif Nat.ble v6.length 1048576 then some (.inl ((v6++(v25.getD v27.toNat [])),v25,v26,(aB .i64 (v27+1)),())) else none else none else none
  else some (.inr ((v6,())))
def kH(x:Shape.den cU):Option (aS dZ):=bY p8 (2^64) x
def eT(x:aH [.list (.list .str)]):Option (List ByteArray):=match x with
 | (v0,()) =>
  aC (kF (v0,0,v0,(v0.length:Int),0,())) λz1 =>
  aC (jK ((),z1.2.1,())) λy2 =>
  aC (kH (y2,z1.1,(z1.1.length:Int),0,())) λz3 =>
  some z3.1
def eU:Code:=aQ Tryz.f118
abbrev hO:Env:=OP [] [vD]
theorem kZ:aY tP hO:=oB trivial ⟨FA,trivial⟩
def lR:Code:=eG eU 0
def lS:Code:=eG eU 1
def gO(id:Nat):Option bI:=bif Nat.beq id 3 then some ⟨cP,eD,kF⟩ else bif Nat.beq id 11 then some ⟨cU,dZ,kH⟩ else none
theorem B2:∀ x,dY tP hO 36 (aG Tryz.f118) gO lR cP eD x=pR x:=by
 rintro⟨v0,v3,v9,v10,v11,⟨⟩⟩
 kernel_rfl
theorem C6:cN tP 36 lR ⟨cP,eD,kF⟩:=by exact cL kZ.callee aI.mixed _ (aD (l:=[]) (by kernel_rfl) trivial) B2
theorem B1:∀ x,dY tP hO 36 (aG Tryz.f118) gO lS cU dZ x=p8 x:=by
 rintro⟨v6,v25,v26,v27,⟨⟩⟩
 kernel_rfl
theorem CY:cN tP 36 lS ⟨cU,dZ,kH⟩:=by exact cL kZ.callee aI.mixed _ (aD (l:=[]) (by kernel_rfl) trivial) B1
theorem DC:cB eU=[lR,lS]:=by kernel_rfl
theorem D5:∀ x,aXY tP hO Tryz.f118 (aG Tryz.f118) gO eU [.list (.list .str)] 2 110 .str x=eT x:=by
 rintro⟨v0,⟨⟩⟩
 kernel_rfl
theorem FJ:aYG tP 118 [.list (.list .str)] 110 .str eT:=by exact aV3 aI kZ Tryz.func118 (c:=eU) (by kernel_rfl) (aT:=aG Tryz.f118) (lt:=gO) (t:=2) (by kernel_rfl) (aD DC ⟨cK (i:=3) (by kernel_rfl) rfl C6,cK (i:=11) (by kernel_rfl) rfl CY,trivial⟩) D5
abbrev tS:Shr:=(118,a8N [.list (.list .str)] 110 .str eT)
theorem D7:wN tP tS:=aWL FJ
abbrev nP:List (Nat×Kd):=[(3,.ptr TyH),(4,.bag 98 TyE 53 TyD none),(7,.int .i64),(8,.own 148 (.hnd 1)),(23,.list TyD),(24,.int .i64),(25,.int .i64),(100000,.ar 110 .str)]
abbrev rD:List (Ex×List (Nat×Kd)):=[(.exit 0,[(3,.ptr TyH),(4,.bag 98 TyE 53 TyD none),(7,.int .i64),(8,.own 148 (.hnd 1)),(100000,.ar 110 .str)])]
def JV(x:Shape.den nP):Option (Shape.den nP⊕aS rD):=match x with
 | (v3,v4,v7,v8,v23,v24,v25,v100000,()) =>
  bif ltI v25 v24 then
   bif aJ v25 v23.length then aC (rO ((v23.getD v25.toNat []),())) λy5 =>
   aC (rO ((v23.getD v25.toNat []),())) λy6 =>
   aC (eT ([y5.1,y6.1],())) λy7 =>
   bif Nat.ble [(v100000.length,0,y7.length)].length 1048576 then bif Nat.ble v8.length 1048576 then some (.inl (v3,(v4.1,(v4.2.1,())),v7,(v8++[(v100000.length,0,y7.length)]),v23,v24,(aB .i64 (v25+1)),(v100000++[y7]),())) else none else none else none
  else some (.inr ((v3,(v4.1,(v4.2.1,())),v7,v8,v100000,())))
def AJ(x:Shape.den nP):Option (aS rD):=bY JV (2^64) x
abbrev nQ:List (Nat×Kd):=[(4,.bag 98 TyE 53 TyD none),(7,.int .i64),(8,.own 148 (.hnd 1)),(40,.list TyD),(41,.int .i64),(42,.int .i64),(100000,.ar 110 .str)]
abbrev rJ:List (Ex×List (Nat×Kd)):=[(.exit 2,[(4,.bag 98 TyE 53 TyD none),(7,.int .i64),(8,.own 148 (.hnd 1)),(100000,.ar 110 .str)])]
def JF(x:Shape.den nQ):Option (Shape.den nQ⊕aS rJ):=match x with
 | (v4,v7,v8,v40,v41,v42,v100000,()) =>
  bif ltI v42 v41 then
   bif aJ v42 v40.length then aC (rO ((v40.getD v42.toNat []),())) λy12 =>
   aC (nM () (v7,()) v100000) λy13 =>
   aC (eT ([y12.1,y13.1],())) λy14 =>
   bif Nat.ble [(y13.2.length,0,y14.length)].length 1048576 then bif Nat.ble v8.length 1048576 then some (.inl ((v4.1,(v4.2.1,())),v7,(v8++[(y13.2.length,0,y14.length)]),v40,v41,(aB .i64 (v42+1)),(y13.2++[y14]),())) else none else none else none
  else some (.inr (((v4.1,(v4.2.1,())),v7,v8,v100000,())))
def A0(x:Shape.den nQ):Option (aS rJ):=bY JF (2^64) x
def vN(x:aH [.agg TyH,.agg TyH]):Option (aH [.agg TyH,.int .i64]):=match x with
 | (v0,v1,()) =>
  aC (vR (v0,v1,())) λy1 =>
  bif !(eqI y1.1 0) then
   some ((0,[]),y1.1,())
  else aC (AJ (v1,(0,([],())),v0.1,[],v0.2,(v0.2.length:Int),0,[],())) λz8 =>
  aC (A0 ((z8.2.1.1,(z8.2.1.2.1,())),z8.2.2.1,z8.2.2.2.1,z8.1.2,(z8.1.2.length:Int),0,z8.2.2.2.2.1,())) λz15 =>
  aC (dD z15.2.2.1 ((aB .i64 (2*z15.2.1)),()) z15.2.2.2.1) λy16 =>
  aC (gV () (y16.1,z15.2.1,z15.2.1,()) y16.2) λy17 =>
  aC (bV y17.1 (z15.2.1,()) y17.2) λy18 =>
  some (y18.1.1,y18.1.2.1,())
def vZ:Code:=aQ Tryz.f68
abbrev CI:Env:=OP [CV,NI] [yW,lX,lU,KH,tS]
theorem EA:aY tP CI:=oB ⟨D3,QG,trivial⟩ ⟨ES,mH,mC,NV,D7,trivial⟩
def E8:Code:=inLoop (aGQ vZ 0)
def FP:Code:=inLoop (aGQ vZ 1)
def zX(id:Nat):Option bI:=bif Nat.beq id 7 then some ⟨nP,rD,AJ⟩ else bif Nat.beq id 12 then some ⟨nQ,rJ,A0⟩ else none
def AA(id:Nat):Option bI:=none
theorem XE:∀ x,aC4 tP CI 67 (wO Tryz.f68) zX AA false [] E8 nP rD x=JV x:=by
 rintro⟨v3,v4,v7,v8,v23,v24,v25,v100000,⟨⟩⟩
 kernel_rfl
theorem YV:OZ tP 67 false [] (.loop E8) ⟨nP,rD,AJ⟩:=by exact T1 EA.callee aI.mixed _ (uN (l:=[]) (by kernel_rfl) trivial) XE
theorem XL:∀ x,aC4 tP CI 67 (wO Tryz.f68) zX AA false [] FP nQ rJ x=JF x:=by
 rintro⟨v4,v7,v8,v40,v41,v42,v100000,⟨⟩⟩
 kernel_rfl
theorem YM:OZ tP 67 false [] (.loop FP) ⟨nQ,rJ,A0⟩:=by exact T1 EA.callee aI.mixed _ (uN (l:=[]) (by kernel_rfl) trivial) XL
theorem ZY:fG vZ=[.loop E8,.loop FP]:=by kernel_rfl
theorem aCR:∀ x,aZ9 tP CI Tryz.f68 (wO Tryz.f68) zX AA vZ 110 .str _ _ x=vN x:=by
 rintro⟨v0,v1,⟨⟩⟩
 kernel_rfl
theorem aFV:dK tP 68 _ _ vN:=by exact bBN aI EA Tryz.func68 (c:=vZ) (by kernel_rfl) (aT:=wO Tryz.f68) (lt:=zX) (rt:=AA) (uN ZY ⟨T0 (i:=7) (by kernel_rfl) rfl YV,T0 (i:=12) (by kernel_rfl) rfl YM,trivial⟩) aCR
abbrev I3:Ent:=⟨68,_,_,vN⟩
theorem MA:Ent.OK tP I3:=aFV
end Go.PM
namespace Go.PM
open Go Go.RowKit Go.Proofs
set_option maxHeartbeats 4000000
def MF(x:aH [.agg TyG,.agg TyG]):Option (aH [.agg TyG,.int .i64]):=match x with
 | (v0,v1,()) =>
  aC (gX (v0,())) λy1 =>
  aC (gX (v1,())) λy2 =>
  aC (R7 (y1.1,y2.1,())) λy3 =>
  bif !(eqI y3.2.1 0) then
   some (([],([],[])),y3.2.1,())
  else aC (fZ (v0.1,y3.1.2,())) λy4 =>
  some (y4.1,y4.2.1,())
theorem aGH:aY tP (bZ [aJA,rU,l4]):=bB ⟨aNE,qX,l8,trivial⟩
theorem aKP:dK tP 67 _ _ MF:=by exact bO aI aGH Tryz.func67 (c:=aQ Tryz.f67) (by kernel_rfl) (aT:=aG Tryz.f67) (lt:=λ_=>none) (aD (lt:=λ_=>none) (l:=[]) (by kernel_rfl) trivial) (by rintro⟨v0,v1,⟨⟩⟩; kernel_rfl)
abbrev YB:Ent:=⟨67,_,_,MF⟩
theorem aGE:Ent.OK tP YB:=aKP
def rP(x:aH [.agg TyG,.agg TyG]):Option (aH [.agg TyG,.int .i64]):=match x with
 | (v0,v1,()) =>
  aC (bP ([v0,v1],())) λy1 =>
  bif !(eqI y1.1 0) then
   some (([],([],[])),y1.1,())
  else aC (MF (v0,v1,())) λy2 =>
  some (y2.1,y2.2.1,())
theorem aFZ:aY tP (bZ [jO,YB]):=bB ⟨gT,aGE,trivial⟩
theorem aI5:dK tP 16 _ _ rP:=by exact bO aI aFZ Tryz.func16 (c:=aQ Tryz.f16) (by kernel_rfl) (aT:=aG Tryz.f16) (lt:=λ_=>none) (aD (lt:=λ_=>none) (l:=[]) (by kernel_rfl) trivial) (by rintro⟨v0,v1,⟨⟩⟩; kernel_rfl)
abbrev MS:Ent:=⟨16,_,_,rP⟩
theorem Q2:Ent.OK tP MS:=aI5
def rN(x:aH [.agg TyG,.agg TyG]):Option (aH [.agg TyG,.int .i64]):=match x with
 | (v0,v1,()) =>
  aC (bP ([v0,v1],())) λy1 =>
  bif !(eqI y1.1 0) then
   some (([],([],[])),y1.1,())
  else aC (gX (v0,())) λy2 =>
  aC (gX (v1,())) λy3 =>
  aC (vN (y2.1,y3.1,())) λy4 =>
  bif !(eqI y4.2.1 0) then
   some (([],([],[])),y4.2.1,())
  else aC (fZ (v0.1,y4.1.2,())) λy5 =>
  some (y5.1,y5.2.1,())
theorem aFX:aY tP (bZ [I3,jO,rU,l4]):=bB ⟨MA,gT,qX,l8,trivial⟩
theorem aJ2:dK tP 17 _ _ rN:=by exact bO aI aFX Tryz.func17 (c:=aQ Tryz.f17) (by kernel_rfl) (aT:=aG Tryz.f17) (lt:=λ_=>none) (aD (lt:=λ_=>none) (l:=[]) (by kernel_rfl) trivial) (by rintro⟨v0,v1,⟨⟩⟩; kernel_rfl)
abbrev NH:Ent:=⟨17,_,_,rN⟩
theorem QL:Ent.OK tP NH:=aJ2
end Go.PM
namespace Go.PM
open Go Go.RowKit Go.Proofs
set_option maxHeartbeats 4000000
def Q4(hrefinement_Join:aH [.agg TyG,.agg TyG]->Option (aH [.agg TyG,.int .i64])) (hrefinement_Meet:aH [.agg TyG,.agg TyG]->Option (aH [.agg TyG,.int .i64])) (hrefinement_Refines:aH [.agg TyG,.agg TyG]->Option (aH [.bool,.int .i64])) (hrefinement_Steps:aH [.agg TyG,.agg TyG]->Option (aH [.int .i64,.int .i64])) (hslices_Equal_api_Row_int:aH [.list TyE,.list TyE]->Option (aH [.bool])) (htemperament_FromCommas:aH [.list TyE,.list TyD]->Option (aH [.agg TyG,.int .i64])) (x:aH []):Option (aH [.bool]):=match x with
 | (()) =>
  aC (htemperament_FromCommas ([2,3,5],[[(-4),4,(-1)]],())) λy1 =>
  aC (htemperament_FromCommas ([2,3,5],[[7,0,(-3)]],())) λy2 =>
  aC (hrefinement_Join (y1.1,y2.1,())) λy3 =>
  aC (hrefinement_Meet (y1.1,y2.1,())) λy4 =>
  aC (hrefinement_Steps (y1.1,y3.1,())) λy5 =>
  aC (hrefinement_Refines (y1.1,y2.1,())) λy6 =>
  bif eqI y1.2.1 0 then
   bif eqI y2.2.1 0 then
    bif eqI y3.2.1 0 then
     bif eqI y4.2.1 0 then
      bif eqI y5.2.1 0 then
       bif eqI y6.2.1 0 then
        bif eqI (y3.1.2.2.length:Int) 1 then
         bif aJ 0 y3.1.2.2.length then aC (hslices_Equal_api_Row_int ((y3.1.2.2.getD 0 []),[12,19,28],())) λy7 =>
         bif y7.1 then
          bif eqI (y4.1.2.1.length:Int) 0 then
           bif eqI (y4.1.2.2.length:Int) 3 then
            bif eqI y5.1 1 then
             bif y6.1 then
              some (false,())
             else some (true,())
            else some (false,())
           else some (false,())
          else some (false,())
         else some (false,()) else none
        else some (false,())
       else some (false,())
      else some (false,())
     else some (false,())
    else some (false,())
   else some (false,())
  else some (false,())
def zV(x:aH []):Option (aH [.bool]):=Q4 rP rN gA pS dA fZ x
def zW:Code:=aQ Tryz.f11
abbrev QF:Env:=bZ [MS,NH,zR,LD,qS,l4]
theorem ZS:aY tP QF:=bB ⟨Q2,QL,CN,NP,uB,l8,trivial⟩
def FH(id:Nat):Option bI:=none
theorem YX:cB zW=[]:=by kernel_rfl
theorem Y3(hrefinement_Join:aH [.agg TyG,.agg TyG]->Option (aH [.agg TyG,.int .i64]))(hrefinement_Meet:aH [.agg TyG,.agg TyG]->Option (aH [.agg TyG,.int .i64]))(hrefinement_Refines:aH [.agg TyG,.agg TyG]->Option (aH [.bool,.int .i64]))(hrefinement_Steps:aH [.agg TyG,.agg TyG]->Option (aH [.int .i64,.int .i64]))(hslices_Equal_api_Row_int:aH [.list TyE,.list TyE]->Option (aH [.bool]))(htemperament_FromCommas:aH [.list TyE,.list TyD]->Option (aH [.agg TyG,.int .i64])):∀ x,a23 tP (bZ [⟨16,[.agg TyG,.agg TyG],[.agg TyG,.int .i64],hrefinement_Join⟩,⟨17,[.agg TyG,.agg TyG],[.agg TyG,.int .i64],hrefinement_Meet⟩,⟨18,[.agg TyG,.agg TyG],[.bool,.int .i64],hrefinement_Refines⟩,⟨27,[.agg TyG,.agg TyG],[.int .i64,.int .i64],hrefinement_Steps⟩,⟨62,[.list TyE,.list TyE],[.bool],hslices_Equal_api_Row_int⟩,⟨39,[.list TyE,.list TyD],[.agg TyG,.int .i64],htemperament_FromCommas⟩]) Tryz.f11 (aG Tryz.f11) FH zW [] [.bool] x=Q4 hrefinement_Join hrefinement_Meet hrefinement_Refines hrefinement_Steps hslices_Equal_api_Row_int htemperament_FromCommas x:=by
 rintro⟨⟩
 kernel_rfl
theorem aA2:∀ x,a23 tP QF Tryz.f11 (aG Tryz.f11) FH zW _ _ x=zV x:=Y3 rP rN gA pS dA fZ
theorem aDK:dK tP 11 _ _ zV:=by exact bO aI ZS Tryz.func11 (c:=zW) (by kernel_rfl) (aT:=aG Tryz.f11) (lt:=FH) (aD YX trivial) aA2
def fC(x:aH []):Option (aH [.bool]):=some (true,())
theorem aAU:∀ x,zV x=fC x:=by
 rintro⟨⟩
 kernel_rfl
theorem aFE:dK tP 11 _ _ fC:=by
 have h:zV=fC:=funext aAU;rw[<- h];exact aDK
abbrev QJ:Ent:=⟨11,_,_,fC⟩
theorem ZP:Ent.OK tP QJ:=aFE
def iK(x:aH [.agg TyG]):Option (aH [.bool]):=match x with
 | (v0,()) =>
  some (eqI (aB .i64 ((aB .i64 ((v0.1.length:Int)+(v0.2.1.length:Int)))+(v0.2.2.length:Int))) 0,())
theorem ZG:aY tP (bZ []):=bB trivial
theorem aEF:dK tP 21 _ _ iK:=by exact bO aI ZG Tryz.func21 (c:=aQ Tryz.f21) (by kernel_rfl) (aT:=aG Tryz.f21) (lt:=λ_=>none) (aD (lt:=λ_=>none) (l:=[]) (by kernel_rfl) trivial) (by rintro⟨v0,⟨⟩⟩; kernel_rfl)
abbrev QP:Ent:=⟨21,_,_,iK⟩
theorem ZK:Ent.OK tP QP:=aEF
end Go.PM
namespace Go.PM
open Go Go.RowKit Go.Proofs
set_option maxHeartbeats 4000000
def rK(x:aH [.agg TyG,.list TyE]):Option (aH [.agg TyG,.int .i64]):=match x with
 | (v0,v1,()) =>
  aC (bP ([v0],())) λy1 =>
  bif !(eqI y1.1 0) then
   some (([],([],[])),y1.1,())
  else aC (vT (v1,())) λy2 =>
  bif !(eqI y2.1 0) then
   some (([],([],[])),y2.1,())
  else bif !(eqI (v1.length:Int) (v0.1.length:Int)) then some (([],([],[])),5,()) else none
def IW:Code:=aQ Tryz.f46
abbrev S8:Env:=bZ [jO,Z5]
theorem aB5:aY tP S8:=bB ⟨gT,WS,trivial⟩
def Q3(id:Nat):Option bI:=none
def QQ(id:Nat):Option bI:=none
theorem aAX:fG IW=[]:=by kernel_rfl
theorem aB4:∀ x,aDW tP S8 Tryz.f46 (wO Tryz.f46) Q3 QQ IW [.agg TyG,.list TyE] [.agg TyG,.int .i64] x=rK x:=by
 rintro⟨v0,v1,⟨⟩⟩
 kernel_rfl
theorem aGJ:dK tP 46 _ _ rK:=by exact RH aI aB5 Tryz.func46 (c:=IW) (by kernel_rfl) (aT:=wO Tryz.f46) (lt:=Q3) (rt:=QQ) (uN aAX trivial) aB4
abbrev UD:Ent:=⟨46,_,_,rK⟩
theorem aCV:Ent.OK tP UD:=aGJ
def wE(x:aH [.agg TyG,.list TyE,.fn 85]):Option (aH [.int .i64]):=match x with
 | (v0,v1,v2,()) =>
  aC (bP ([v0],())) λy1 =>
  bif !(eqI y1.1 0) then
   some (y1.1,())
  else aC (pW (v1,())) λy2 =>
  bif !(eqI y2.1 0) then some (y2.1,()) else none
def IZ:Code:=aQ Tryz.f83
abbrev TY:Env:=bZ [GI,jO]
theorem aB1:aY tP TY:=bB ⟨DF,gT,trivial⟩
def QS(id:Nat):Option bI:=none
def QZ(id:Nat):Option bI:=none
theorem aA6:fG IZ=[]:=by kernel_rfl
theorem aCS:∀ x,aDW tP TY Tryz.f83 (wO Tryz.f83) QS QZ IZ [.agg TyG,.list TyE,.fn 85] [.int .i64] x=wE x:=by
 rintro⟨v0,v1,v2,⟨⟩⟩
 kernel_rfl
theorem aFU:dK tP 83 _ _ wE:=by exact RH aI aB1 Tryz.func83 (c:=IZ) (by kernel_rfl) (aT:=wO Tryz.f83) (lt:=QS) (rt:=QZ) (uN aA6 trivial) aCS
abbrev UO:Ent:=⟨83,_,_,wE⟩
theorem aCO:Ent.OK tP UO:=aFU
def vS(x:aH [.agg TyG,.list TyE,.fn 84]):Option (aH [.int .i64]):=match x with
 | (v0,v1,v2,()) =>
  aC (bP ([v0],())) λy1 =>
  bif !(eqI y1.1 0) then
   some (y1.1,())
  else aC (pW (v1,())) λy2 =>
  bif !(eqI y2.1 0) then some (y2.1,()) else none
def IP:Code:=aQ Tryz.f83
abbrev T7:Env:=bZ [GI,jO]
theorem aC1:aY tP T7:=bB ⟨DF,gT,trivial⟩
def QW(id:Nat):Option bI:=none
def QR(id:Nat):Option bI:=none
theorem ZN:fG IP=[]:=by kernel_rfl
theorem aCN:∀ x,aDW tP T7 Tryz.f83 (wO Tryz.f83) QW QR IP [.agg TyG,.list TyE,.fn 84] [.int .i64] x=vS x:=by
 rintro⟨v0,v1,v2,⟨⟩⟩
 kernel_rfl
theorem aF4:dK tP 83 _ _ vS:=by exact RH aI aC1 Tryz.func83 (c:=IP) (by kernel_rfl) (aT:=wO Tryz.f83) (lt:=QW) (rt:=QR) (uN ZN trivial) aCN
abbrev T4:Ent:=⟨83,_,_,vS⟩
theorem aB2:Ent.OK tP T4:=aF4
abbrev l5:List (Nat×Kd):=[(1,.list TyE),(2,.box 35 TyG),(4,.box 35 TyG),(7,.own 53 TyD),(25,.list TyE),(26,.int .i64),(27,.int .i64)]
abbrev oZ:List (Ex×List (Nat×Kd)):=[(.exit 0,[(1,.list TyE),(2,.box 35 TyG),(4,.box 35 TyG),(7,.own 53 TyD)])]
def GY(x:Shape.den l5):Option (Shape.den l5⊕aS oZ):=match x with
 | (v1,v2,v4,v7,v25,v26,v27,()) =>
  bif ltI v27 v26 then
   bif aJ v27 v25.length then none else none
  else some (.inr ((v1,v2,v4,v7,())))
def xD(x:Shape.den l5):Option (aS oZ):=bY GY (2^64) x
abbrev lZ:List (Nat×Kd):=[(1,.list TyE),(2,.box 35 TyG),(4,.box 35 TyG),(14,.own 53 TyD),(71,.list TyD),(72,.int .i64),(73,.int .i64)]
abbrev o8:List (Ex×List (Nat×Kd)):=[(.exit 2,[(1,.list TyE),(4,.box 35 TyG),(14,.own 53 TyD)])]
def GU(x:Shape.den lZ):Option (Shape.den lZ⊕aS o8):=match x with
 | (v1,v2,v4,v14,v71,v72,v73,()) =>
  bif ltI v73 v72 then
   bif aJ v73 v71.length then none else none
  else some (.inr ((v1,v4,v14,())))
def xB(x:Shape.den lZ):Option (aS o8):=bY GU (2^64) x
def oU(x:aH [.agg TyG,.list TyE]):Option (aH [.agg TyG,.int .i64]):=match x with
 | (v0,v1,()) =>
  aC (vS (v0,v1,(),())) λy1 =>
  bif !(eqI y1.1 0) then
   some (([],([],[])),y1.1,())
  else aC (xD (v1,v0,([],([],[])),[],v0.1,(v0.1.length:Int),0,())) λz2 =>
  aC (xR ((z2.2.1.1.length:Int),z2.2.2.2.1,())) λy3 =>
  bif !(eqI y3.2.1 0) then
   some (([],([],[])),y3.2.1,())
  else aC (gX (z2.2.1,())) λy4 =>
  aC (vN (y4.1,y3.1,())) λy5 =>
  bif !(eqI y5.2.1 0) then
   some (([],([],[])),y5.2.1,())
  else aC (xB (z2.1,z2.2.1,z2.2.2.1,[],y5.1.2,(y5.1.2.length:Int),0,())) λz6 =>
  aC (fZ (z6.1,z6.2.2.1,())) λy7 =>
  some (y7.1,y7.2.1,())
def tA:Code:=aQ Tryz.f30
abbrev xZ:Env:=bZ [I3,WI,rU,T4,l4]
theorem AY:aY tP xZ:=bB ⟨MA,UA,qX,aB2,l8,trivial⟩
def CO:Code:=inLoop (aGQ tA 0)
def C5:Code:=inLoop (aGQ tA 1)
def wL(id:Nat):Option bI:=bif Nat.beq id 6 then some ⟨l5,oZ,xD⟩ else bif Nat.beq id 21 then some ⟨lZ,o8,xB⟩ else none
def wK(id:Nat):Option bI:=none
theorem TD:∀ x,aC4 tP xZ 91 (wO Tryz.f30) wL wK false [] CO l5 oZ x=GY x:=by
 rintro⟨v1,v2,v4,v7,v25,v26,v27,⟨⟩⟩
 kernel_rfl
theorem VC:OZ tP 91 false [] (.loop CO) ⟨l5,oZ,xD⟩:=by exact T1 AY.callee aI.mixed _ (uN (l:=[]) (by kernel_rfl) trivial) TD
theorem UC:∀ x,aC4 tP xZ 91 (wO Tryz.f30) wL wK false [] C5 lZ o8 x=GU x:=by
 rintro⟨v1,v2,v4,v14,v71,v72,v73,⟨⟩⟩
 kernel_rfl
theorem U7:OZ tP 91 false [] (.loop C5) ⟨lZ,o8,xB⟩:=by exact T1 AY.callee aI.mixed _ (uN (l:=[]) (by kernel_rfl) trivial) UC
theorem XD:fG tA=[.loop CO,.loop C5]:=by kernel_rfl
theorem YC:∀ x,aDW tP xZ Tryz.f30 (wO Tryz.f30) wL wK tA [.agg TyG,.list TyE] [.agg TyG,.int .i64] x=oU x:=by
 rintro⟨v0,v1,⟨⟩⟩
 kernel_rfl
theorem aC0:dK tP 30 _ _ oU:=by exact RH aI AY Tryz.func30 (c:=tA) (by kernel_rfl) (aT:=wO Tryz.f30) (lt:=wL) (rt:=wK) (uN XD ⟨T0 (i:=6) (by kernel_rfl) rfl VC,T0 (i:=21) (by kernel_rfl) rfl U7,trivial⟩) YC
abbrev OW:Ent:=⟨30,_,_,oU⟩
theorem X8:Ent.OK tP OW:=aC0
def rS(x:aH [.agg TyG,.list TyE]):Option (aH [.agg TyG,.int .i64]):=match x with
 | (v0,v1,()) =>
  aC (wE (v0,v1,(),())) λy1 =>
  bif !(eqI y1.1 0) then some (([],([],[])),y1.1,()) else none
def I2:Code:=aQ Tryz.f31
abbrev S7:Env:=bZ [UO]
theorem aCE:aY tP S7:=bB ⟨aCO,trivial⟩
def QK(id:Nat):Option bI:=none
def QH(id:Nat):Option bI:=none
theorem aBH:fG I2=[]:=by kernel_rfl
theorem aBZ:∀ x,aDW tP S7 Tryz.f31 (wO Tryz.f31) QK QH I2 [.agg TyG,.list TyE] [.agg TyG,.int .i64] x=rS x:=by
 rintro⟨v0,v1,⟨⟩⟩
 kernel_rfl
theorem aGK:dK tP 31 _ _ rS:=by exact RH aI aCE Tryz.func31 (c:=I2) (by kernel_rfl) (aT:=wO Tryz.f31) (lt:=QK) (rt:=QH) (uN aBH trivial) aBZ
abbrev TS:Ent:=⟨31,_,_,rS⟩
theorem aCZ:Ent.OK tP TS:=aGK
abbrev mQ:List (Nat×Kd):=[(2,.box 35 TyG),(3,.box 35 TyG),(4,.box 35 TyG),(15,.list TyG),(16,.int .i64),(17,.int .i64)]
abbrev pT:List (Ex×List (Nat×Kd)):=[(.ret,[(4,.box 35 TyG),(5,.int .i64)]),(.exit 0,[(2,.box 35 TyG),(3,.box 35 TyG),(4,.box 35 TyG)])]
def nV(x:Shape.den mQ):Option (Shape.den mQ⊕aS pT):=match x with
 | (v2,v3,v4,v15,v16,v17,()) =>
  bif ltI v17 v16 then
   bif aJ v17 v15.length then aC (bP ([((v15.getD v17.toNat ([],([],[]))).1,((v15.getD v17.toNat ([],([],[]))).2.1,(v15.getD v17.toNat ([],([],[]))).2.2))],())) λy2 =>
   bif !(eqI y2.1 0) then
    some (.inr (.inl (([],([],[])),y2.1,())))
   else some (.inl (v2,v3,v4,v15,v16,(aB .i64 (v17+1)),())) else none
  else some (.inr (.inr ((v2,v3,v4,()))))
def n7(x:Shape.den mQ):Option (aS pT):=bY nV (2^64) x
def qI(x:aH [.agg TyG,.agg TyG]):Option (aH [.agg TyG,.int .i64]):=match x with
 | (v0,v1,()) =>
  aC (n7 (v0,v1,([],([],[])),[v0,v1],([v0,v1].length:Int),0,())) λz3 =>
  zM z3 (λa4=>some (a4.1,a4.2.1,())) λb5 =>
  none
def zZ:Code:=aQ Tryz.f40
abbrev HT:Env:=bZ [jO]
theorem LG:aY tP HT:=bB ⟨gT,trivial⟩
def D4:Code:=inLoop (aGQ zZ 0)
def EZ(id:Nat):Option bI:=bif Nat.beq id 2 then some ⟨mQ,pT,n7⟩ else none
def E3(id:Nat):Option bI:=none
theorem VD:∀ x,aC4 tP HT 71 (wO Tryz.f40) EZ E3 false [] D4 mQ pT x=nV x:=by
 rintro⟨v2,v3,v4,v15,v16,v17,⟨⟩⟩
 kernel_rfl
theorem XV:OZ tP 71 false [] (.loop D4) ⟨mQ,pT,n7⟩:=by exact T1 LG.callee aI.mixed _ (uN (l:=[]) (by kernel_rfl) trivial) VD
theorem YE:fG zZ=[.loop D4]:=by kernel_rfl
theorem Z7:∀ x,aDW tP HT Tryz.f40 (wO Tryz.f40) EZ E3 zZ [.agg TyG,.agg TyG] [.agg TyG,.int .i64] x=qI x:=by
 rintro⟨v0,v1,⟨⟩⟩
 kernel_rfl
theorem aE2:dK tP 40 _ _ qI:=by exact RH aI LG Tryz.func40 (c:=zZ) (by kernel_rfl) (aT:=wO Tryz.f40) (lt:=EZ) (rt:=E3) (uN YE ⟨T0 (i:=2) (by kernel_rfl) rfl XV,trivial⟩) Z7
abbrev Q5:Ent:=⟨40,_,_,qI⟩
theorem aAC:Ent.OK tP Q5:=aE2
abbrev oV:List (Nat×Kd):=[(7,.box 35 TyG),(9,.list TyG),(34,.list TyD),(35,.int .i64),(36,.int .i64)]
abbrev sS:List (Ex×List (Nat×Kd)):=[(.ret,[(4,.list TyG),(5,.int .i64)]),(.exit 0,[(9,.list TyG)])]
def K1(x:Shape.den oV):Option (Shape.den oV⊕aS sS):=match x with
 | (v7,v9,v34,v35,v36,()) =>
  bif ltI v36 v35 then
   bif aJ v36 v34.length then aC (gX (v7,())) λy5 =>
   aC (KM (y5.1,(v34.getD v36.toNat []),())) λy6 =>
   bif !(eqI y6.2.1 0) then
    some (.inr (.inl ([],y6.2.1,())))
   else bif y6.1 then some (.inl (v7,v9,v34,v35,(aB .i64 (v36+1)),())) else none else none
  else some (.inr (.inr ((v9,()))))
def CS(x:Shape.den oV):Option (aS sS):=bY K1 (2^64) x
def tH(x:aH [.agg TyG,.agg TyG]):Option (aH [.list TyG,.int .i64]):=match x with
 | (v0,v1,()) =>
  aC (qE (v0,v1,())) λy1 =>
  bif !(eqI y1.1 0) then
   some ([],y1.1,())
  else aC (fZ (v0.1,v0.2.1,())) λy2 =>
  bif !(eqI y2.2.1 0) then
   some ([],y2.2.1,())
  else aC (CS (y2.1,[y2.1],v1.2.1,(v1.2.1.length:Int),0,())) λz7 =>
  zM z7 (λa8=>some (a8.1,a8.2.1,())) λb9 =>
  some (b9.1,0,())
def EN:Code:=aQ Tryz.f45
abbrev KO:Env:=bZ [VV,rU,HF,l4]
theorem NZ:aY tP KO:=bB ⟨aE7,qX,KR,l8,trivial⟩
def HB:Code:=inLoop (aGQ EN 0)
def IU(id:Nat):Option bI:=bif Nat.beq id 9 then some ⟨oV,sS,CS⟩ else none
def IN(id:Nat):Option bI:=none
theorem ZF:∀ x,aC4 tP KO 66 (wO Tryz.f45) IU IN false [] HB oV sS x=K1 x:=by
 rintro⟨v7,v9,v34,v35,v36,⟨⟩⟩
 kernel_rfl
theorem Z1:OZ tP 66 false [] (.loop HB) ⟨oV,sS,CS⟩:=by exact T1 NZ.callee aI.mixed _ (uN (l:=[]) (by kernel_rfl) trivial) ZF
theorem aCP:fG EN=[.loop HB]:=by kernel_rfl
theorem aFA:∀ x,aDW tP KO Tryz.f45 (wO Tryz.f45) IU IN EN [.agg TyG,.agg TyG] [.list TyG,.int .i64] x=tH x:=by
 rintro⟨v0,v1,⟨⟩⟩
 kernel_rfl
theorem aHJ:dK tP 45 _ _ tH:=by exact RH aI NZ Tryz.func45 (c:=EN) (by kernel_rfl) (aT:=wO Tryz.f45) (lt:=IU) (rt:=IN) (uN aCP ⟨T0 (i:=9) (by kernel_rfl) rfl Z1,trivial⟩) aFA
abbrev WE:Ent:=⟨45,_,_,tH⟩
theorem aEP:Ent.OK tP WE:=aHJ
def mS(x:aH [.agg TyG,.int .i64,.int .i64]):Option (aH [.list TyG,.int .i64]):=match x with
 | (v0,v1,v2,()) =>
  aC (bP ([v0],())) λy1 =>
  bif !(eqI y1.1 0) then
   some ([],y1.1,())
  else aC (LN (v1,())) λy2 =>
  bif y2.1 then none else some ([],25,())
def uV:Code:=aQ Tryz.f47
abbrev KQ:Env:=bZ [TO,jO]
theorem VH:aY tP KQ:=bB ⟨V9,gT,trivial⟩
def dW:Code:=aGQ uV 0
def U4:Code:=inLoop dW
def BL(id:Nat):Option bI:=none
def BD(id:Nat):Option bI:=none
theorem OQ:cE U4=22:=by kernel_rfl
theorem PK:dW=.rangeFunc (aO9 dW) (a0Q dW) (N7 dW) (inLoop dW):=by kernel_rfl
theorem R3 {rd:Bool}{T:List Nat}:SY tP 105 BL BD rd T dW:=by
 rw[PK];intro _ s hs;rw[show cE (inLoop dW)=22 from OQ]at hs;cases hs
theorem SO:fG uV=[dW]:=by kernel_rfl
theorem VB:∀ x,aDW tP KQ Tryz.f47 (wO Tryz.f47) BL BD uV [.agg TyG,.int .i64,.int .i64] [.list TyG,.int .i64] x=mS x:=by
 rintro⟨v0,v1,v2,⟨⟩⟩
 kernel_rfl
theorem X5:dK tP 47 _ _ mS:=by exact RH aI VH Tryz.func47 (c:=uV) (by kernel_rfl) (aT:=wO Tryz.f47) (lt:=BL) (rt:=BD) (uN SO ⟨R3,trivial⟩) VB
abbrev KU:Ent:=⟨47,_,_,mS⟩
theorem UZ:Ent.OK tP KU:=X5
def gR(x:aH [.list TyE]):Option (aH [.bool]):=match x with
 | (v0,()) =>
  some (ltI 6 (v0.length:Int),())
theorem IF:aY tP (bZ []):=bB trivial
theorem J5:dK tP 44 _ _ gR:=by exact bO aI IF Tryz.func44 (c:=aQ Tryz.f44) (by kernel_rfl) (aT:=aG Tryz.f44) (lt:=λ_=>none) (aD (lt:=λ_=>none) (l:=[]) (by kernel_rfl) trivial) (by rintro⟨v0,⟨⟩⟩; kernel_rfl)
abbrev xY:Ent:=⟨44,_,_,gR⟩
theorem ID:Ent.OK tP xY:=J5
abbrev cR:List (Nat×Kd):=[(0,.list TyD),(1,.fn 44),(7,.int .i64),(8,.int .i64)]
abbrev eA:List (Ex×List (Nat×Kd)):=[(.ret,[(4,.int .i64)]),(.exit 0,[])]
def cI(x:Shape.den cR):Option (Shape.den cR⊕aS eA):=match x with
 | (v0,v1,v7,v8,()) =>
  bif ltI v8 v7 then
   bif aJ v8 v0.length then aC (gR ((v0.getD v8.toNat []),())) λy2 =>
   bif y2.1 then
    some (.inr (.inl (v8,())))
   else some (.inl (v0,(),v7,(aB .i64 (v8+1)),())) else none
  else some (.inr (.inr ((()))))
def fF(x:Shape.den cR):Option (aS eA):=bY cI (2^64) x
def eS(x:aH [.list TyD,.fn 44]):Option (aH [.int .i64]):=match x with
 | (v0,v1,()) =>
  aC (fF (v0,(),(v0.length:Int),0,())) λz3 =>
  zM z3 (λa4=>some (a4.1,())) λb5 =>
  some ((-1),())
def tX:Code:=aQ Tryz.f100
abbrev tU:Env:=bZ [xY]
theorem rC:aY tP tU:=bB ⟨ID,trivial⟩
def lP:Code:=eG tX 0
def sO(id:Nat):Option bI:=bif Nat.beq id 2 then some ⟨cR,eA,fF⟩ else none
theorem BX:∀ x,dY tP tU 19 (aG Tryz.f100) sO lP cR eA x=cI x:=by
 rintro⟨v0,v1,v7,v8,⟨⟩⟩
 kernel_rfl
theorem C7:cN tP 19 lP ⟨cR,eA,fF⟩:=by exact cL rC.callee aI.mixed _ (aD (l:=[]) (by kernel_rfl) trivial) BX
theorem FO:dK tP 100 _ _ eS:=by exact bO aI rC Tryz.func100 (c:=tX) (by kernel_rfl) (aT:=aG Tryz.f100) (lt:=sO) (aD (l:=[lP]) (by kernel_rfl) ⟨cK (i:=2) (by kernel_rfl) rfl C7,trivial⟩) (by rintro⟨v0,v1,⟨⟩⟩; kernel_rfl)
abbrev tV:Ent:=⟨100,_,_,eS⟩
theorem D8:Ent.OK tP tV:=FO
def cQ(x:aH [.list TyD,.fn 44]):Option (aH [.bool]):=match x with
 | (v0,v1,()) =>
  aC (eS (v0,(),())) λy1 =>
  some (!(ltI y1.1 0),())
theorem BZ:aY tP (bZ [tV]):=bB ⟨D8,trivial⟩
theorem DE:dK tP 43 _ _ cQ:=by exact bO aI BZ Tryz.func43 (c:=aQ Tryz.f43) (by kernel_rfl) (aT:=aG Tryz.f43) (lt:=λ_=>none) (aD (lt:=λ_=>none) (l:=[]) (by kernel_rfl) trivial) (by rintro⟨v0,v1,⟨⟩⟩; kernel_rfl)
abbrev qU:Ent:=⟨43,_,_,cQ⟩
theorem BW:Ent.OK tP qU:=DE
def dC(x:aH [.agg TyP,.list TyD]):Option (aH [.bool]):=match x with
 | (v0,v1,()) =>
  aC (fC (())) λy1 =>
  bif y1.1 then
   aC (rL (v0,())) λy2 =>
   bif y2.1 then
    bif ltI 3 (v1.length:Int) then
     aC (fC (())) λy3 =>
     some (y3.1,())
    else aC (cQ (v1,(),())) λy4 =>
    bif y4.1 then
     aC (fC (())) λy5 =>
     some (y5.1,())
    else aC (rX (v0,())) λy6 =>
    aC (bG ((y6.1.1,(v1,y6.1.2.2)),())) λy7 =>
    bif eqI y7.1 0 then
     some (true,())
    else aC (gA (y6.1,(y6.1.1,(v1,y6.1.2.2)),())) λy8 =>
    aC (uI ((y6.1.1,(v1,y6.1.2.2)),y6.1,y6.1,())) λy9 =>
    aC (pS (y6.1,(y6.1.1,(v1,y6.1.2.2)),())) λy10 =>
    aC (tH ((y6.1.1,(v1,y6.1.2.2)),y6.1,())) λy11 =>
    aC (rP (y6.1,(y6.1.1,(v1,y6.1.2.2)),())) λy12 =>
    aC (rN ((y6.1.1,(v1,y6.1.2.2)),y6.1,())) λy13 =>
    aC (rK ((y6.1.1,(v1,y6.1.2.2)),[],())) λy14 =>
    aC (oU ((y6.1.1,(v1,y6.1.2.2)),y6.1.1,())) λy15 =>
    aC (rS ((y6.1.1,(v1,y6.1.2.2)),y6.1.1,())) λy16 =>
    aC (qI (y6.1,(y6.1.1,(v1,y6.1.2.2)),())) λy17 =>
    aC (mS ((y6.1.1,(v1,y6.1.2.2)),7,0,())) λy18 =>
    bif eqI y8.2.1 y7.1 then
     bif eqI y9.2.1 y7.1 then
      bif eqI y10.2.1 y7.1 then
       bif eqI y11.2.1 y7.1 then
        bif eqI y12.2.1 y7.1 then
         bif eqI y13.2.1 y7.1 then
          bif eqI y14.2.1 y7.1 then
           bif eqI y15.2.1 y7.1 then
            bif eqI y16.2.1 y7.1 then
             bif eqI y17.2.1 y7.1 then
              bif eqI y18.2.1 y7.1 then
               bif y8.1 then
                some (false,())
               else bif y9.1 then
                some (false,())
               else bif eqI y10.1 0 then
                bif eqI (aB .i64 ((y11.1.length:Int)+(y18.1.length:Int))) 0 then
                 aC (iK (y12.1,())) λy19 =>
                 bif y19.1 then
                  aC (iK (y13.1,())) λy20 =>
                  bif y20.1 then
                   aC (iK (y14.1,())) λy21 =>
                   bif y21.1 then
                    aC (iK (y15.1,())) λy22 =>
                    bif y22.1 then
                     aC (iK (y16.1,())) λy23 =>
                     bif y23.1 then
                      aC (iK (y17.1,())) λy24 =>
                      some (y24.1,())
                     else some (false,())
                    else some (false,())
                   else some (false,())
                  else some (false,())
                 else some (false,())
                else some (false,())
               else some (false,())
              else some (false,())
             else some (false,())
            else some (false,())
           else some (false,())
          else some (false,())
         else some (false,())
        else some (false,())
       else some (false,())
      else some (false,())
     else some (false,())
    else some (false,())
   else aC (fC (())) λy25 =>
   some (y25.1,())
  else aC (fC (())) λy26 =>
  some (y26.1,())
theorem J8:aY tP (bZ [QN,WE,TS,KU,MS,NH,Q5,zR,OW,LD,UD,SK,SL,QP,QJ,qU,I7]):=bB ⟨Z3,aEP,aCZ,UZ,Q2,QL,aAC,CN,X8,NP,aCV,aCK,aCQ,ZK,ZP,BW,L8,trivial⟩
theorem LQ:dK tP 9 _ _ dC:=by exact bO aI J8 Tryz.func9 (c:=aQ Tryz.f9) (by kernel_rfl) (aT:=aG Tryz.f9) (lt:=λ_=>none) (aD (lt:=λ_=>none) (l:=[]) (by kernel_rfl) trivial) (by rintro⟨v0,v1,⟨⟩⟩; kernel_rfl)
end Go.PM
namespace Go.PM
open Go Go.RowKit Go.Proofs Go.Lz
theorem S6 {α:Type}(z:α):∀ {a b:List α},a.length=b.length->a≠b->∃ x,x<a.length/\(∀ y,y<x->a.getD y z=b.getD y z)/\a.getD x z≠b.getD x z
 | [],[],_,h=>absurd rfl h
 | [],_::_,h,_=>by simp at h
 | _::_,[],h,_=>by simp at h
 | s::a,t::b,hl,h=>by
  by_cases e:s=t
  ·subst e;obtain⟨x,h1,h2,h3⟩:=S6 z (a:=a) (b:=b) (by simpa using hl) (λe=>h (by rw[e]));refine⟨x+1,by simpa using h1,λy hy=>?_,by simpa using h3⟩;cases y with
   | zero=>rfl
   | succ y=>simpa using h2 y (by omega)
  ·exact⟨0,by simp,λy hy=>by omega,by simpa using e⟩
theorem aTY(a b:List Int)(ha:a.length<1048576):dA (a,b,())=some (decide (a=b),()):=by
 by_cases hl:a.length=b.length
 ·have e0:eqI (a.length:Int) (b.length:Int)=true:=by rw[fO]; exact oT (by omega)
  have step:∀ t,t<a.length->∀ c,decide (a.getD t 0=b.getD t 0)=c->eI (a,b,(a.length:Int),(t:Int),())=(bif c then some (.inl (a,b,(a.length:Int),((t+1:Nat):Int),())) else some (.inr (.inl (false,())))):=λt ht c hc=>by
   have e1:ltI (t:Int) (a.length:Int)=true:=by rw[aF]; exact oT (by omega)
   have e2:aJ (t:Int) a.length=true:=by rw[aP]; exact oT (by omega)
   have e3:aJ (t:Int) b.length=true:=by rw[aP]; exact oT (by omega)
   have e4:((t:Nat):Int).toNat=t:=oN _;have e5:=cZ t (by omega);simp only[eI,e1,e2,e3,e4,e5,oC,fO,hc];cases c <;> rfl
  by_cases he:a=b
  ·subst he;have key:=cC (step:=eI) (N:=2^64) (λt=>(a,a,(a.length:Int),(t:Int),())) a.length (.inr ()) (by omega) (λt ht=>step t ht true (by simp)) (by
    have e1:ltI (a.length:Int) (a.length:Int)=false:=by rw[aF]; exact oF (by omega)
    simp only[eI,e1,oD])
   have key:iQ (a,a,(a.length:Int),0,())=_:=key;simp only[dA,e0,Bool.not_true,oD,key,aE,kE,decide_true]
  ·obtain⟨x,h1,h2,h3⟩:=S6 0 hl he;have key:=cC (step:=eI) (N:=2^64) (λt=>(a,b,(a.length:Int),(t:Int),())) x (.inl (false,())) (by omega) (λt ht=>step t (by omega) true (oT (h2 t ht))) (step x h1 false (oF h3));have key:iQ (a,b,(a.length:Int),0,())=_:=key;simp only[dA,e0,Bool.not_true,oD,key,aE,qK,oF he]
 ·have e0:eqI (a.length:Int) (b.length:Int)=false:=by rw[fO]; exact oF (by omega)
  have he:¬ a=b:=λe=>hl (by rw[e])
  simp only[dA,e0,Bool.not_false,oC,oF he]
theorem aVX(a b:List Int)(ha:a.length<1048576):dQ (a,b,())=some (decide (a=b),()):=by
 by_cases hl:a.length=b.length
 ·have e0:eqI (a.length:Int) (b.length:Int)=true:=by rw[fO]; exact oT (by omega)
  have step:∀ t,t<a.length->∀ c,decide (a.getD t 0=b.getD t 0)=c->dF (a,b,(a.length:Int),(t:Int),())=(bif c then some (.inl (a,b,(a.length:Int),((t+1:Nat):Int),())) else some (.inr (.inl (false,())))):=λt ht c hc=>by
   have e1:ltI (t:Int) (a.length:Int)=true:=by rw[aF]; exact oT (by omega)
   have e2:aJ (t:Int) a.length=true:=by rw[aP]; exact oT (by omega)
   have e3:aJ (t:Int) b.length=true:=by rw[aP]; exact oT (by omega)
   have e4:((t:Nat):Int).toNat=t:=oN _;have e5:=cZ t (by omega);simp only[dF,e1,e2,e3,e4,e5,oC,fO,hc];cases c <;> rfl
  by_cases he:a=b
  ·subst he;have key:=cC (step:=dF) (N:=2^64) (λt=>(a,a,(a.length:Int),(t:Int),())) a.length (.inr ()) (by omega) (λt ht=>step t ht true (by simp)) (by
    have e1:ltI (a.length:Int) (a.length:Int)=false:=by rw[aF]; exact oF (by omega)
    simp only[dF,e1,oD])
   have key:gE (a,a,(a.length:Int),0,())=_:=key;simp only[dQ,e0,Bool.not_true,oD,key,aE,kE,decide_true]
  ·obtain⟨x,h1,h2,h3⟩:=S6 0 hl he;have key:=cC (step:=dF) (N:=2^64) (λt=>(a,b,(a.length:Int),(t:Int),())) x (.inl (false,())) (by omega) (λt ht=>step t (by omega) true (oT (h2 t ht))) (step x h1 false (oF h3));have key:gE (a,b,(a.length:Int),0,())=_:=key;simp only[dQ,e0,Bool.not_true,oD,key,aE,qK,oF he]
 ·have e0:eqI (a.length:Int) (b.length:Int)=false:=by rw[fO]; exact oF (by omega)
  have he:¬ a=b:=λe=>hl (by rw[e])
  simp only[dQ,e0,Bool.not_false,oC,oF he]
theorem aXL(a b:List (List Int))(ha:a.length<1048576)(hr:∀ r∈a,r.length<1048576):aZ (a,b,(),())=some (decide (a=b),()):=by
 by_cases hl:a.length=b.length
 ·have e0:eqI (a.length:Int) (b.length:Int)=true:=by rw[fO]; exact oT (by omega)
  have step:∀ t,t<a.length->∀ c,decide (a.getD t []=b.getD t [])=c->aV (b,(),a,(a.length:Int),(t:Int),())=(bif c then some (.inl (b,(),a,(a.length:Int),((t+1:Nat):Int),())) else some (.inr (.inl (false,())))):=λt ht c hc=>by
   have e1:ltI (t:Int) (a.length:Int)=true:=by rw[aF]; exact oT (by omega)
   have e2:aJ (t:Int) a.length=true:=by rw[aP]; exact oT (by omega)
   have e3:aJ (t:Int) b.length=true:=by rw[aP]; exact oT (by omega)
   have e4:((t:Nat):Int).toNat=t:=oN _;have e5:=cZ t (by omega);have e6:(a.getD t []).length<1048576:=by
    have:a.getD t []=a[t]:=by simp[List.getD,ht]
    rw[this]; exact hr _ (List.getElem_mem ht)
   have e7:=aTY (a.getD t []) (b.getD t []) e6;simp only[aV,e1,e2,e3,e4,e5,oC,aA0,e7,aE,hc]
  by_cases he:a=b
  ·subst he;have key:=cC (step:=aV) (N:=2^64) (λt=>(a,(),a,(a.length:Int),(t:Int),())) a.length (.inr ()) (by omega) (λt ht=>step t ht true (by simp)) (by
    have e1:ltI (a.length:Int) (a.length:Int)=false:=by rw[aF]; exact oF (by omega)
    simp only[aV,e1,oD])
   have key:bM (a,(),a,(a.length:Int),0,())=_:=key;simp only[aZ,e0,Bool.not_true,oD,key,aE,kE,decide_true]
  ·obtain⟨x,h1,h2,h3⟩:=S6 [] hl he;have key:=cC (step:=aV) (N:=2^64) (λt=>(b,(),a,(a.length:Int),(t:Int),())) x (.inl (false,())) (by omega) (λt ht=>step t (by omega) true (oT (h2 t ht))) (step x h1 false (oF h3));have key:bM (b,(),a,(a.length:Int),0,())=_:=key;simp only[aZ,e0,Bool.not_true,oD,key,aE,qK,oF he]
 ·have e0:eqI (a.length:Int) (b.length:Int)=false:=by rw[fO]; exact oF (by omega)
  have he:¬ a=b:=λe=>hl (by rw[e])
  simp only[aZ,e0,Bool.not_false,oC,oF he]
theorem aYA(a b:List (List Int))(ha:a.length<1048576)(hr:∀ r∈a,r.length<1048576):bA (a,b,(),())=some (decide (a=b),()):=by
 by_cases hl:a.length=b.length
 ·have e0:eqI (a.length:Int) (b.length:Int)=true:=by rw[fO]; exact oT (by omega)
  have step:∀ t,t<a.length->∀ c,decide (a.getD t []=b.getD t [])=c->aU (b,(),a,(a.length:Int),(t:Int),())=(bif c then some (.inl (b,(),a,(a.length:Int),((t+1:Nat):Int),())) else some (.inr (.inl (false,())))):=λt ht c hc=>by
   have e1:ltI (t:Int) (a.length:Int)=true:=by rw[aF]; exact oT (by omega)
   have e2:aJ (t:Int) a.length=true:=by rw[aP]; exact oT (by omega)
   have e3:aJ (t:Int) b.length=true:=by rw[aP]; exact oT (by omega)
   have e4:((t:Nat):Int).toNat=t:=oN _;have e5:=cZ t (by omega);have e6:(a.getD t []).length<1048576:=by
    have:a.getD t []=a[t]:=by simp[List.getD,ht]
    rw[this]; exact hr _ (List.getElem_mem ht)
   have e7:=aTY (a.getD t []) (b.getD t []) e6;simp only[aU,e1,e2,e3,e4,e5,oC,zS,e7,aE,hc]
  by_cases he:a=b
  ·subst he;have key:=cC (step:=aU) (N:=2^64) (λt=>(a,(),a,(a.length:Int),(t:Int),())) a.length (.inr ()) (by omega) (λt ht=>step t ht true (by simp)) (by
    have e1:ltI (a.length:Int) (a.length:Int)=false:=by rw[aF]; exact oF (by omega)
    simp only[aU,e1,oD])
   have key:bL (a,(),a,(a.length:Int),0,())=_:=key;simp only[bA,e0,Bool.not_true,oD,key,aE,kE,decide_true]
  ·obtain⟨x,h1,h2,h3⟩:=S6 [] hl he;have key:=cC (step:=aU) (N:=2^64) (λt=>(b,(),a,(a.length:Int),(t:Int),())) x (.inl (false,())) (by omega) (λt ht=>step t (by omega) true (oT (h2 t ht))) (step x h1 false (oF h3));have key:bL (b,(),a,(a.length:Int),0,())=_:=key;simp only[bA,e0,Bool.not_true,oD,key,aE,qK,oF he]
 ·have e0:eqI (a.length:Int) (b.length:Int)=false:=by rw[fO]; exact oF (by omega)
  have he:¬ a=b:=λe=>hl (by rw[e])
  simp only[bA,e0,Bool.not_false,oC,oF he]
theorem aG4(n n':Int)(a b:List (List Int))(ha:a.length<1048576)(hr:∀ r∈a,r.length<1048576):A4 ((n,a),(n',b),())=some (decide (n=n')&&decide (a=b),()):=by
 by_cases h:n=n'
 ·subst h;have e0:eqI n n=true:=by rw[fO]; exact oT rfl
  simp only[A4,e0,oC,aXL a b ha hr,aE,decide_true,Bool.true_and]
 ·have e0:eqI n n'=false:=by rw[fO]; exact oF h
  simp only[A4,e0,oD,h,decide_false,Bool.false_and]
theorem a2X(a b:List (List Int))(ha:a.length<1048576)(hr:∀ r∈a,r.length<1048576):xX (a,b,())=some (decide (a=b),()):=by simp only[xX,aYA a b ha hr,aE]
end Go.PM
namespace Go.Lz
theorem xT.back {n m k k2:Nat}{A K K2:Nat->V}(hA:∀ i,i<m->∀ c,n<=c->A i c=0)(h1:xT n m A k K)(h2:xT n k K k2 K2):xT n k2 K2 k K:=by
 intro y;rw[h1];constructor
 ·intro g;refine⟨g.1,λx hx=>?_⟩;have:=((h2 _).1 (Sp.mem hx));rw[KP];exact this.span ((h1 y).2 g)
 ·rintro⟨g1,g2⟩;refine⟨g1,λx hx=>?_⟩;have:Sp k2 K2 (A x):=(h2 _).2 ⟨hA x hx,λz hz=>by rw[KP]; exact((h1 _).1 (Sp.mem hz)).2 x hx⟩;exact Ker.span ⟨g1,g2⟩ this
theorem xT.of_same {n m m' k:Nat}{A A' K:Nat->V}(h:Same m A m' A')(h1:xT n m A k K):xT n m' A' k K:=λy=>(h1 y).trans (Ker.same h)
end Go.Lz
namespace Go.PM
open Go Go.RowKit Go.Proofs Go.Lz
structure RT (ps:List Int) (n d r:Nat) (C K:Nat->V):Prop where
 pr:pW (ps,())=some (0,())
 len:ps.length=n
 n4:n<=4
 hc:∃ q,Hn d C q
 hk:∃ p,Hn r K p
 wc:Wd d n C
 wk:Wd r n K
 bc:Big d n C 1000000000
 bk:Big r n K 1000000000
 ker:xT n d C r K
 ker2:xT n r K d C
theorem aUE {d n:Nat}{M:Nat->V}(hn:n<=4):∀ r∈Mr d n M,r.length<1048576:=λr hr=>by
 obtain⟨i,_,rfl⟩:=aP6 hr;rw[vG]; omega
theorem RT.check {ps:List Int}{n d r:Nat}{C K:Nat->V}(h:RT ps n d r C K):bG ((ps,(Mr d n C,Mr r n K)),())=some (0,()):=by
 obtain⟨q,hc⟩:=h.hc;obtain⟨p,hk⟩:=h.hk;have n4:=h.n4;have d4:=(Hn.NK hc h.wc).1;have r4:=(Hn.NK hk h.wk).1;have e0:eqI 0 0=true:=by decide
 have e1:((ps.length:Nat):Int)=(n:Int):=by rw[h.len]
 have s1:=aMG hc n4 h.wc h.bc h.ker hc h.ker2 h.bc;have s2:=aC5 hc n4 h.wc h.bc hk h.ker h.bk;have s3:=UK hc h.wc (by omega) (by omega) h.bc;have s4:=aG4 (n:Int) (n:Int) (Mr d n C) (Mr d n C) (by rw[vH]; omega) (aUE n4);have s5:=a2X (Mr r n K) (Mr r n K) (by rw[vH]; omega) (aUE n4);simp only[decide_true,Bool.and_self]at s4 s5;simp only[bG,h.pr,aE,e0,Bool.not_true,oD,e1,s3,s1,s4,oC,s2,s5]
theorem a54 {ps:List Int} {n:Nat} (hp:pW (ps,())=some (0,())) (hl:ps.length=n) (hn:n<=4) (rows:List (List Int)) (hk:rows.length<=4) (hlen:∀ r∈rows,r.length=n) (hr:∀ r∈rows,∀ a∈r,a.natAbs<=10) (vals:Bool) :
  ∃ d r C K,qJ (ps,rows,vals,())=some ((ps,(Mr d n C,Mr r n K)),0,())/\RT ps n d r C K:=by
 have hrow:∀ i,i<rows.length->∃ r,r∈rows/\P8 rows i=aJY r:=λi hi=>⟨rows[i],List.getElem_mem hi,by unfold P8; simp[List.getD,hi]⟩
 have hw:Wd rows.length n (P8 rows):=λi hi x hx=>by
  obtain⟨r,hr1,hr2⟩:=hrow i hi;rw[hr2]; unfold aJY;have:=hlen r hr1;simp[List.getD,List.getElem?_eq_none (show r.length<=x by omega)]
 have hB:Big rows.length n (P8 rows) 10:=λi hi x hx=>by
  obtain⟨r,hr1,hr2⟩:=hrow i hi;rw[hr2]; unfold aJY;have hl:=hlen r hr1;have:r.getD x 0=r[x]'(by omega):=by simp[List.getD,show x<r.length by omega]
  rw[this];exact hr r hr1 _ (List.getElem_mem _)
 have b10:4*(24*(10*10*10*10))<=1000000000:=by decide
 obtain⟨d,M,q,g1,g2,g3,g4,g5,g6⟩:=of_eq rows (n:=n) (by omega) (by omega) hlen (E:=λd=>10^dg 1 d) (T:=λd=>10^(5*dg 1 d+1)) hr (show 10^dg 1 0<=1000000000 by decide) (a3I (.inl hk) (by decide)) λd H p hd hH hs hwd i hi x hx=>by
  have hdg:=(aV8 (k:=rows.length) (M:=P8 rows) (E:=10) (by omega) hH (λj hj=>⟨1,by decide,by
   have:=(hs _).2 (Sp.mem hj);refine cast (congrArg _ ?_) this
   funext x; simp⟩) (hB.all hw)).mono λv=>(hs v).1
  exact Nat.le_trans (Nat.le_trans (Hn.a8Q hH hdg i hi x) (Nat.mul_le_mul (by omega) (aZU (by decide) (by omega)))) b10
 have hd:=(Hn.NK g3 g5).1;obtain⟨m,A,a1,a2⟩:=S3 (by omega) (by omega) g5 g6;obtain⟨m',A',J',K,p,r,k1,k2,k3,k4,k5,k6,k7⟩:=S9 (by omega) hn g5 (by rw[<- p9]; exact g6) a2;obtain⟨m2,A2,J2,S,s,t,c1,c2,c3,c4,c5,c6,c7⟩:=aHX (by omega) hn k6 k7 k2;have hI:xT n rows.length (P8 rows) r K:=k5.of_same g4.symm;have bK:Big r n K 1000000000:=λi hi x hx=>Nat.le_trans (aMF (E:=10) (D:=1) hn (by omega) hw hB (by decide) (by decide) (by decide) k4 hI i hi x) b10
 have bS:Big t n S 1000000000:=λi hi x hx=>Nat.le_trans (a41 (E:=10) (D:=1) hk hn hw hB (by decide) (by decide) (by decide) hI c4 c5 i hi x) b10
 have s1:=aMG g3 hn g5 g6 k5 c4 c5 bS;have s2:=aC5 g3 hn g5 g6 k4 k5 bK;have back:=xT.back g5 k5 c5;have e0:eqI 0 0=true:=by decide
 have e1:((ps.length:Nat):Int)=(n:Int):=by rw[hl]
 have g1':xR ((n:Int),rows,())=some (((n:Int),Mr d n M),0,()):=g1;cases vals with
 | false =>
  refine⟨t,r,S,K,?_,⟨hp,hl,hn,⟨s,c4⟩,⟨p,k4⟩,c6,k6,bS,bK,back,c5⟩⟩;simp only[qJ,hp,aE,e0,Bool.not_true,oD,e1,g1',s1,s2]
 | true =>
  refine⟨r,t,K,S,?_,⟨hp,hl,hn,⟨p,k4⟩,⟨s,c4⟩,k6,c6,bK,bS,c5,back⟩⟩;simp only[qJ,hp,aE,e0,Bool.not_true,oD,oC,e1,g1',s1,s2]
def L12:List (List Int):=[[2,3,5],[2,3,5,7],[2,3],[2,3,7],[2,5,7],[3,5,7],[2,3,5,11],[2],[2,3,7,13],[3,5,7,13]]
theorem bBA:∀ i,i<10->pW (L12.getD i [],())=some (0,())/\(L12.getD i []).length<=4:=by
 intro i hi;rcases(show i=0\/i=1\/i=2\/i=3\/i=4\/i=5\/i=6\/i=7\/i=8\/i=9 by omega)with rfl|rfl|rfl|rfl|rfl|rfl|rfl|rfl|rfl|rfl
 all_goals exact⟨by kernel_rfl,by decide⟩
theorem a3B(v:Int)(h0:0<=v)(h1:v<256):yA (v,())=some (L12.getD (v%10).toNat [],()):=by
 have e1:IntKind.wrap .i64 v=v:=aBD (by omega) (by omega);have e2:v.tmod 10=v%10:=Int.tmod_eq_emod_of_nonneg h0;have e3:aJ (v%10) 10=true:=by rw[aP]; exact oT (by omega)
 have e4:eqI 10 0=false:=by decide
 have hl:(L12.length:Int)=10:=by decide
 have hl2:L12.length=10:=by decide
 show (bif eqI (L12.length:Int) 0 then none else bif aJ ((IntKind.wrap .i64 v).tmod (L12.length:Int)) L12.length then some ((L12.getD (((IntKind.wrap .i64 v).tmod (L12.length:Int)).toNat) []),()) else none)=_;rw[e1,hl,e2,hl2,e4,e3];rfl
def P7(t:Int×Int×Int×Int):Nat->Int
 | 0=>t.1
 | 1=>t.2.1
 | 2=>t.2.2.1
 | _=>t.2.2.2
def I8(t:Int×Int×Int×Int):Prop:=∀ i,i<4->-128<=P7 t i/\P7 t i<128
theorem aZC(ps:List Int)(hl:ps.length<=4)(t:Int×Int×Int×Int)(ht:I8 t):pY (ps,t,())=some ((List.range ps.length).map (λi=>(P7 t i).tmod 10),()):=by
 have w0:IntKind.wrap .i64 t.1=t.1:=aBD (by have:=ht 0 (by omega); simp only[P7]at this; omega) (by have:=ht 0 (by omega); simp only[P7]at this; omega);have w1:IntKind.wrap .i64 t.2.1=t.2.1:=aBD (by have:=ht 1 (by omega); simp only[P7]at this; omega) (by have:=ht 1 (by omega); simp only[P7]at this; omega);have w2:IntKind.wrap .i64 t.2.2.1=t.2.2.1:=aBD (by have:=ht 2 (by omega); simp only[P7]at this; omega) (by have:=ht 2 (by omega); simp only[P7]at this; omega)
 have w3:IntKind.wrap .i64 t.2.2.2=t.2.2.2:=aBD (by have:=ht 3 (by omega); simp only[P7]at this; omega) (by have:=ht 3 (by omega); simp only[P7]at this; omega);have key:=cC (step:=lE) (N:=2^64) (λs=>(ps,(t.1,(t.2.1,(t.2.2.1,t.2.2.2))),(List.range s).map (λi=>(P7 t i).tmod 10),(s:Int),())) ps.length ((List.range ps.length).map (λi=>(P7 t i).tmod 10),()) (by omega) (λs hs=>?_) ?_
 ·have key:pE (ps,(t.1,(t.2.1,(t.2.2.1,t.2.2.2))),[],0,())=_:=key;simp only[pY,key,aE]
 ·have e1:ltI (s:Int) (ps.length:Int)=true:=by rw[aF]; exact oT (by omega)
  have e2:ltI (s:Int) 4=true:=by rw[aF]; exact oT (by omega)
  have e3:=cZ s (by omega);have e4:∀ x:Int,Nat.ble [x].length 1048576=true:=λ_=>rfl
  have e5:Nat.ble ((List.range s).map (λi=>(P7 t i).tmod 10)).length 1048576=true:=by rw[gG,List.length_map,List.length_range]; exact oT (by omega)
  have e6:(List.range (s+1)).map (λi=>(P7 t i).tmod 10)=(List.range s).map (λi=>(P7 t i).tmod 10)++[(P7 t s).tmod 10]:=by rw[List.range_succ,List.map_append]; rfl
  simp only[lE,e1,e2,oC,e4,e5,w0,w1,w2,w3,e3,e6];rcases(show s=0\/s=1\/s=2\/s=3 by omega)with rfl|rfl|rfl|rfl <;> rfl
 ·have e1:ltI (ps.length:Int) (ps.length:Int)=false:=by rw[aF]; exact oF (by omega)
  simp only[lE,e1,oD]
theorem a9W(v:Int) (h0:0<=v) (h1:v<256) (rows:List (Int×Int×Int×Int)) (hk:rows.length<=3) (hr:∀ t∈rows,I8 t) (vals:Bool) :
  ∃ d r C K,rX ((v,(rows,vals)),())=some ((L12.getD (v%10).toNat [],(Mr d (L12.getD (v%10).toNat []).length C,Mr r (L12.getD (v%10).toNat []).length K)),())/\RT (L12.getD (v%10).toNat []) (L12.getD (v%10).toNat []).length d r C K:=by
 obtain⟨hp,hl⟩:=bBA (v%10).toNat (by omega);have hP:=a3B v h0 h1;generalize L12.getD (v%10).toNat []=ps at hp hl hP ⊢;have key:=cC (step:=o5) (N:=2^64) (λs=>((v,(rows,vals)),([],([],[])),ps,(rows.take s).map (λt=>(List.range ps.length).map (λi=>(P7 t i).tmod 10)),(s:Int),())) rows.length
  ((v,(rows,vals)),([],([],[])),ps,rows.map (λt=>(List.range ps.length).map (λi=>(P7 t i).tmod 10)),()) (by omega) (λs hs=>?_) ?_
 ·have key:tQ ((v,(rows,vals)),([],([],[])),ps,[],0,())=_:=key;obtain⟨d,r,C,K,b1,b2⟩:=a54 hp rfl hl (rows.map (λt=>(List.range ps.length).map (λi=>(P7 t i).tmod 10))) (by rw[List.length_map]; omega) (λr hr=>by
   obtain⟨t,_,rfl⟩:=List.mem_map.1 hr;simp) (λr hr a ha=>by
   obtain⟨t,_,rfl⟩:=List.mem_map.1 hr;obtain⟨i,_,rfl⟩:=List.mem_map.1 ha;rw[Int.natAbs_tmod];have:=Nat.mod_lt (P7 t i).natAbs (show 0<(10:Int).natAbs by decide);have e:(10:Int).natAbs=10:=rfl;omega) vals
  refine⟨d,r,C,K,?_,b2⟩;simp only[rX,hP,aE,key,b1]
 ·have e1:ltI (s:Int) (rows.length:Int)=true:=by rw[aF]; exact oT (by omega)
  have e2:ltI (s:Int) 3=true:=by rw[aF]; exact oT (by omega)
  have e3:=cZ s (by omega);have e4:aJ (s:Int) rows.length=true:=by rw[aP]; exact oT (by omega)
  have e5:((s:Nat):Int).toNat=s:=oN _;have e6:rows.getD s (0,0,0,0)=rows[s]:=by simp[List.getD,hs]
  have e7:=aZC ps hl rows[s] (hr _ (List.getElem_mem hs));have e8:∀ x:List Int,Nat.ble [x].length 1048576=true:=λ_=>rfl
  have e9:Nat.ble ((rows.take s).map (λt=>(List.range ps.length).map (λi=>(P7 t i).tmod 10))).length 1048576=true:=by rw[gG,List.length_map,List.length_take]; exact oT (by omega)
  have e10:(rows.take (s+1)).map (λt=>(List.range ps.length).map (λi=>(P7 t i).tmod 10))=(rows.take s).map (λt=>(List.range ps.length).map (λi=>(P7 t i).tmod 10))++[(List.range ps.length).map (λi=>(P7 rows[s] i).tmod 10)]:=by rw[List.take_succ_eq_append_getElem hs,List.map_append]; rfl
  simp only[o5,e1,e2,oC,e4,e5,e6,e7,aE,e8,e9,e3,e10]
 ·have e1:ltI (rows.length:Int) (rows.length:Int)=false:=by rw[aF]; exact oF (by omega)
  simp only[o5,e1,oD,List.take_length]
def red(M:Nat->V) (p:Nat->Nat):Nat->V->V
 | 0,u=>u
 | t+1,u=>λx=>red M p t u x-(red M p t u (p t)).fdiv (M t (p t))*M t x
section
variable {d n:Nat} {M:Nat->V} {p:Nat->Nat}
end
section
variable {d n:Nat} {M:Nat->V} {p:Nat->Nat}
end
abbrev TT:=List Int×List (List Int)×List (List Int)
abbrev zT:TT:=([],([],[]))
theorem aXC(l:List TT)(hl:l.length<1048576)(hc:∀ i,i<l.length->bG (l.getD i zT,())=some (0,())):qD (l,l,(l.length:Int),0,())=some (.inr (l,())):=by
 have e0:eqI 0 0=true:=by decide
 refine cC (step:=gM) (N:=2^64) (λt=>(l,l,(l.length:Int),(t:Int),())) l.length (.inr (l,())) (by omega) (λt ht=>?_) ?_
 ·have e1:ltI (t:Int) (l.length:Int)=true:=by rw[aF]; exact oT (by omega)
  have e2:aJ (t:Int) l.length=true:=by rw[aP]; exact oT (by omega)
  have e3:((t:Nat):Int).toNat=t:=oN _;have e4:=cZ t (by omega);have e5:bG (((l.getD t zT).1,((l.getD t zT).2.1,(l.getD t zT).2.2)),())=some (0,()):=hc t ht;simp only[gM,e1,e2,e3,oC];show aC (bG (((l.getD t zT).1,((l.getD t zT).2.1,(l.getD t zT).2.2)),())) _=_;rw[e5];simp only[aE,e0,Bool.not_true,oD,e4]
 ·have e1:ltI (l.length:Int) (l.length:Int)=false:=by rw[aF]; exact oF (by omega)
  simp only[gM,e1,oD]
theorem a1O(l:List TT)(hl:l.length<1048576)(hp:∀ i,i<l.length->(l.getD i zT).1.length<1048576){t:Nat}(ht:t<l.length){c:Bool}(hc:decide ((l.getD t zT).1=(l.getD 0 zT).1)=c) :
  mP (l,l,(l.length:Int),(t:Int),())=(bif c then some (.inl (l,l,(l.length:Int),((t+1:Nat):Int),())) else some (.inr (.inl (14,())))):=by
 have e1:ltI (t:Int) (l.length:Int)=true:=by rw[aF]; exact oT (by omega)
 have e2:aJ (t:Int) l.length=true:=by rw[aP]; exact oT (by omega)
 have e3:((t:Nat):Int).toNat=t:=oN _;have e4:=cZ t (by omega);have e5:aJ 0 l.length=true:=by rw[aP]; exact oT (by omega)
 have e6:=aVX (l.getD t zT).1 (l.getD 0 zT).1 (hp t ht);simp only[mP,e1,e2,e3,e5,oC];show aC (dQ ((l.getD t zT).1,(l.getD 0 zT).1,())) _=_;rw[e6,hc];simp only[aE,e4]
theorem a4E(l:List TT)(hl:l.length<1048576)(hc:∀ i,i<l.length->bG (l.getD i zT,())=some (0,()))(hp:∀ i,i<l.length->(l.getD i zT).1.length<1048576)(he:∀ i,i<l.length->(l.getD i zT).1=(l.getD 0 zT).1):bP (l,())=some (0,()):=by
 have key:=cC (step:=mP) (N:=2^64) (λt=>(l,l,(l.length:Int),(t:Int),())) l.length (.inr ()) (by omega) (λt ht=>a1O l hl hp ht (c:=true) (oT (he t ht))) (by
  have e1:ltI (l.length:Int) (l.length:Int)=false:=by rw[aF]; exact oF (by omega)
  simp only[mP,e1,oD])
 have key:uP (l,l,(l.length:Int),0,())=_:=key;simp only[bP,aXC l hl hc,aE,kE,key]
section
variable {ps ps':List Int} {n n' d r d' r':Nat} {C K C' K':Nat->V}
theorem RT.bCQ (h:RT ps n d r C K):ps.length<1048576:=by have:=h.n4; have:=h.len; omega
end
def a6I(p:Int×List (Int×Int×Int×Int)×Bool):Prop:=(0<=p.1/\p.1<256)/\∀ t∈p.2.1,I8 t
theorem bA2(p:Int×List (Int×Int×Int×Int)×Bool):rL (p,())=some (decide (p.2.1.length<=3),()):=by
 obtain⟨a,b,c⟩:=p;have:(!(ltI 3 (b.length:Int)))=decide (b.length<=3):=by
  rw[aF]
  by_cases h:b.length<=3
  ·rw[oT h,oF (by omega)]; rfl
  ·rw[oF h,oT (by omega)]; rfl
 simp only[rL,this]
theorem wf_u8 {x:Int}(h:(Lit.int .u8 x).wf=true):0<=x/\x<256:=by
 simp only[Lit.wf,oA,decide_eq_true_eq]at h;have h1:IntKind.u8.min=0:=by decide
 have h2:IntKind.u8.max=255:=by decide
 omega
theorem wf_i8 {x:Int}(h:(Lit.int .i8 x).wf=true) : -128<=x/\x<128:=by
 simp only[Lit.wf,oA,decide_eq_true_eq]at h;have h1:IntKind.i8.min = -128:=by decide
 have h2:IntKind.i8.max=127:=by decide
 omega
theorem bBM {p:Int×List (Int×Int×Int×Int)×Bool}(h:WF (.prod (.int .u8) (.prod (.list (.prod (.int .i8) (.prod (.int .i8) (.prod (.int .i8) (.int .i8))))) .bool)) p):a6I p:=by
 obtain⟨h1,⟨_,h2⟩,_⟩:=h;refine⟨wf_u8 h1,λt ht i hi=>?_⟩;obtain⟨a1,a2,a3,a4⟩:=h2 t ht;rcases(show i=0\/i=1\/i=2\/i=3 by omega)with rfl|rfl|rfl|rfl
 ·exact wf_i8 a1
 ·exact wf_i8 a2
 ·exact wf_i8 a3
 ·exact wf_i8 a4
end Go.PM
namespace Go.Lz
structure Dw (n k:Nat) (M:Nat->V) (d:Nat) (p:Nat->Nat) (D:Int) (w:Nat->V) (W:Nat):Prop where
 D0:D≠0
 DW:D.natAbs<=W
 mem:∀ j,j<d->Sp k M (w j)
 at_:∀ j,j<d->w j (p j)=D
 off:∀ i j,i<d->j<d->i≠j->w j (p i)=0
 le:∀ j,j<d->∀ x,(w j x).natAbs<=W
 lt:∀ j,j<d->p j<n
 wide:∀ i,i<k->∀ x,n<=x->M i x=0
 full:∀ v,Sp k M v->(∀ l,l<d->v (p l)=0)->v=λ_=>0
section
variable {n k d W:Nat} {M:Nat->V} {p:Nat->Nat} {D:Int} {w:Nat->V}
theorem Dw.inj (h:Dw n k M d p D w W){i j:Nat}(hi:i<d)(hj:j<d)(e:p i=p j):i=j :=
 Classical.byContradiction λhn=>h.D0 (by rw[<- h.at_ j hj,<- e]; exact h.off i j hi hj hn)
end
end Go.Lz
