/- Texts of one proof, joined (7). -/
import Derived.Lib.AtoiAllCases
import Derived.Test.YtmghkhgpkefgeaaGreatDoorQM6
set_option linter.unusedSimpArgs false
set_option linter.unusedVariables false
set_option maxRecDepth 100000
noncomputable section
namespace Go.PM
open Go Go.RowKit Go.Proofs
set_option maxHeartbeats 4000000
def aF5(x:aK [.int .i64]):oK [.bool]:=match x with
 | (v0,()) =>
  bif !(ltI v0 (-1000000000)) then
   some (!(ltI 1000000000 v0),())
  else some (false,())
theorem aPF:aR tP (bL []):=aU trivial
abbrev aN8:Ent:=⟨146,_,_,aF5⟩
theorem aRM:Ent.OK tP aN8:=oI aPF Tryz.func146 (by kernel_rfl) (by kernel_rfl) (by rintro⟨v0,⟨⟩⟩; kernel_rfl)
def W2(x:aK [.int .i64]):oK [.bool]:=match x with
 | (v0,()) =>
  aC (aF5 (v0,())) λy1 =>
  bif y1.1 then
   some (false,())
  else some (true,())
theorem aIL:aR tP (bL [aN8]):=aU ⟨aRM,trivial⟩
abbrev aEW:Ent:=⟨145,_,_,W2⟩
theorem aII:Ent.OK tP aEW:=oI aIL Tryz.func145 (by kernel_rfl) (by kernel_rfl) (by rintro⟨v0,⟨⟩⟩; kernel_rfl)
abbrev o6:List (Nat×Kd):=[(0,.list TyE),(1,.fn 145),(7,.int .i64),(8,.int .i64)]
abbrev uY:List (Ex×List (Nat×Kd)):=[(.ret,[(4,.int .i64)]),(.exit 0,[])]
def eT(x:Shape.den o6):oS o6 uY:=match x with
 | (v0,v1,v7,v8,()) =>
  bif ltI v8 v7 then
   bif aF v8 v0.length then aC (W2 ((v0.getD v8.toNat 0),())) λy2 =>
   bif y2.1 then
    some (.inr (.inl (v8,())))
   else some (.inl (v0,(),v7,(aB .i64 (v8+1)),())) else none
  else some (.inr (.inr ((()))))
def mR(x:Shape.den o6):oX uY:=bH eT (2^64) x
def qT(x:aK [.list TyE,.fn 145]):oK [.int .i64]:=match x with
 | (v0,v1,()) =>
  aC (mR (v0,(),(v0.length:Int),0,())) λz3 =>
  yO z3 (λa4=>some (a4.1,())) λb5 =>
  some ((-1),())
abbrev KQ:Env:=bL [aEW]
theorem HS:aR tP KQ:=aU ⟨aII,trivial⟩
abbrev yZ:Ent:=⟨197,_,_,qT⟩
theorem HV:Ent.OK tP yZ:=oU HS Tryz.func197 2 (lp:=mR) rfl (by kernel_rfl) (by kernel_rfl) (by kernel_rfl) (by kernel_rfl) (by rintro⟨v0,v1,v7,v8,⟨⟩⟩; kernel_rfl) (by rintro⟨v0,v1,⟨⟩⟩; kernel_rfl)
def o7(x:aK [.list TyE,.fn 145]):oK [.bool]:=match x with
 | (v0,v1,()) =>
  aC (qT (v0,(),())) λy1 =>
  some (!(ltI y1.1 0),())
theorem E7:aR tP (bL [yZ]):=aU ⟨HV,trivial⟩
abbrev vB:Ent:=⟨144,_,_,o7⟩
theorem E6:Ent.OK tP vB:=oI E7 Tryz.func144 (by kernel_rfl) (by kernel_rfl) (by rintro⟨v0,v1,⟨⟩⟩; kernel_rfl)
def GQ(x:aK [.list TyE]):oK [.int .i64]:=match x with
 | (v0,()) =>
  bif ltI 64 (v0.length:Int) then
   some (4,())
  else aC (o7 (v0,(),())) λy1 =>
  bif y1.1 then
   some (4,())
  else some (0,())
theorem aMR:aR tP (bL [vB]):=aU ⟨E6,trivial⟩
abbrev aC8:Ent:=⟨103,_,_,GQ⟩
theorem aB9:Ent.OK tP aC8:=oI aMR Tryz.func103 (by kernel_rfl) (by kernel_rfl) (by rintro⟨v0,⟨⟩⟩; kernel_rfl)
abbrev J0:List (Nat×Kd):=[(1,.int .i64),(8,.list TyD),(9,.int .i64),(10,.int .i64)]
abbrev UJ:List (Ex×List (Nat×Kd)):=[(.ret,[(4,.int .i64)]),(.exit 0,[])]
def uU(x:Shape.den J0):oS J0 UJ:=match x with
 | (v1,v8,v9,v10,()) =>
  bif ltI v10 v9 then
   bif aF v10 v8.length then aC (GQ ((v8.getD v10.toNat []),())) λy2 =>
   bif !(eqI y2.1 0) then
    some (.inr (.inl (y2.1,())))
   else bif !(eqI ((v8.getD v10.toNat []).length:Int) v1) then
    some (.inr (.inl (5,())))
   else some (.inl (v1,v8,v9,(aB .i64 (v10+1)),())) else none
  else some (.inr (.inr ((()))))
def GO(x:Shape.den J0):oX UJ:=bH uU (2^64) x
def KX(x:aK [.list TyD,.int .i64]):oK [.int .i64]:=match x with
 | (v0,v1,()) =>
  aC (GO (v1,v0,(v0.length:Int),0,())) λz3 =>
  yO z3 (λa4=>some (a4.1,())) λb5 =>
  some (0,())
abbrev aNB:Env:=bL [aC8]
theorem aHG:aR tP aNB:=aU ⟨aB9,trivial⟩
abbrev aCC:Ent:=⟨177,_,_,KX⟩
theorem aGF:Ent.OK tP aCC:=oU aHG Tryz.func177 2 (lp:=GO) rfl (by kernel_rfl) (by kernel_rfl) (by kernel_rfl) (by kernel_rfl) (by rintro⟨v1,v8,v9,v10,⟨⟩⟩; kernel_rfl) (by rintro⟨v0,v1,⟨⟩⟩; kernel_rfl)
def DE(x:aK [.int .i64,.list TyD]):oK [.int .i64]:=match x with
 | (v0,v1,()) =>
  bif ltI v0 0 then
   some (3,())
  else bif ltI 12 v0 then
   some (3,())
  else bif ltI 12 (v1.length:Int) then
   some (4,())
  else aC (KX (v1,v0,())) λy1 =>
  some (y1.1,())
theorem aEM:aR tP (bL [aCC]):=aU ⟨aGF,trivial⟩
abbrev RE:Ent:=⟨128,_,_,DE⟩
theorem SI:Ent.OK tP RE:=oI aEM Tryz.func128 (by kernel_rfl) (by kernel_rfl) (by rintro⟨v0,v1,⟨⟩⟩; kernel_rfl)
abbrev iE:List (Nat×Kd):=[(4,.bag 98 TyE 53 TyD none),(6,.bag 98 TyE 53 TyD none),(13,.own 148 (.hnd 1)),(14,.int .i64),(15,.int .i64),(100000,.ar 110 .str)]
abbrev lJ:List (Ex×List (Nat×Kd)):=[(.ret,[(4,.bag 98 TyE 53 TyD none),(5,.int .i64),(100000,.ar 110 .str)]),(.exit 0,[(4,.bag 98 TyE 53 TyD none),(6,.bag 98 TyE 53 TyD none),(100000,.ar 110 .str)])]
def fM(x:Shape.den iE):oS iE lJ:=match x with
 | (v4,v6,v13,v14,v15,v100000,()) =>
  bif ltI v15 v14 then
   bif aF v15 v13.length then bif Nat.blt v15.toNat v13.length then aC (kA () (((v13.getD v15.toNat (0,0,0)).1,(v13.getD v15.toNat (0,0,0)).2.1,(v13.getD v15.toNat (0,0,0)).2.2),()) v100000) λy2 =>
   bif !(eqI y2.1.2.1 0) then
    some (.inr (.inl ((0,([],())),y2.1.2.1,y2.2,())))
   else bif Nat.ble [y2.1.1].length 1048576 then bif Nat.ble v6.2.1.length 1048576 then some (.inl ((v4.1,(v4.2.1,())),(v6.1,((v6.2.1++[y2.1.1]),())),v13,v14,(aB .i64 (v15+1)),y2.2,())) else none else none else none else none
  else some (.inr (.inr (((v4.1,(v4.2.1,())),(v6.1,(v6.2.1,())),v100000,()))))
def nG(x:Shape.den iE):oX lJ:=bH fM (2^64) x
def cO(v0:List (Nat×Nat×Nat))(x:aK [.int .i64])(A:List (List ByteArray)):Option ((aK [.agg TyH,.int .i64])×List (List ByteArray)):=match x with
 | (v1,()) =>
  aC (nG ((0,([],())),(v1,([],())),v0,(v0.length:Int),0,A,())) λz3 =>
  yO z3 (λa4=>some (((a4.1.1,a4.1.2.1),a4.2.1,()),a4.2.2.1)) λb5 =>
  some (((b5.2.1.1,b5.2.1.2.1),0,()),b5.2.2.1)
def sK:Code:=eA Tryz.f123
abbrev zJ:Env:=ME [] [JF]
theorem DZ:aR tP zJ:=nI trivial ⟨TS,trivial⟩
def vP:Code:=inLoop (aSL sK 0)
def xH(id:Nat):Option cG:=bif Nat.beq id 3 then some ⟨iE,lJ,nG⟩ else none
def xL(id:Nat):Option cG:=none
theorem L6:∀ x,aPK tP zJ 36 (aB2 Tryz.f123) xH xL false [] vP iE lJ x=fM x:=by
 rintro⟨v4,v6,v13,v14,v15,v100000,⟨⟩⟩
 kernel_rfl
theorem ND:UE tP 36 false [] (.loop vP) ⟨iE,lJ,nG⟩:=aKJ DZ.callee bC.mixed _ (W7 (l:=[]) (by kernel_rfl) trivial) L6
theorem O1:iG sK=[.loop vP]:=by kernel_rfl
theorem P3:∀ l x A,aVH tP zJ Tryz.f123 (aB2 Tryz.f123) xH xL sK 110 .str (.own 148 (.hnd 1)) [.int .i64] (.data [.agg TyH,.int .i64]) l x A=cO l x A:=by
 rintro u0 ⟨v1,⟨⟩⟩ A
 kernel_rfl
theorem TP:LX tP 123 110 .str (.own 148 (.hnd 1)) [.int .i64] (.data [.agg TyH,.int .i64]) cO:=a3G bC DZ Tryz.func123 (c:=sK) (by kernel_rfl) (bV:=aB2 Tryz.f123) (lt:=xH) (rt:=xL) (by rfl) (W7 O1 ⟨aKM (i:=3) (by kernel_rfl) rfl ND,trivial⟩) P3
abbrev kZ:Shr:=(123,RL 1 (arH 110 .str (.own 148 (.hnd 1)) [.int .i64] (.data [.agg TyH,.int .i64]) cO))
theorem lP:vA tP kZ:=rG (g:=123) (f:=arH 110 .str (.own 148 (.hnd 1)) [.int .i64] (.data [.agg TyH,.int .i64]) cO) (DC TP)
def DY(x:aK [.int .i64,.list TyD]):oK [.agg TyH,.int .i64]:=match x with
 | (v0,v1,()) =>
  aC (DE (v0,v1,())) λy1 =>
  bif !(eqI y1.1 0) then
   some ((0,[]),y1.1,())
  else aC (cN () (v1,()) []) λy2 =>
  aC (cP y2.1 (v0,()) y2.2) λy3 =>
  aC (cO y3.1 (v0,()) y3.2) λy4 =>
  some (y4.1.1,y4.1.2.1,())
def ZJ:Code:=eA Tryz.f86
abbrev aIG:Env:=ME [RE] [sV,kX,kZ]
theorem aL2:aR tP aIG:=nI ⟨SI,trivial⟩ ⟨tM,lI,lP,trivial⟩
def aFP(id:Nat):Option cG:=none
theorem aIU:bF ZJ=[]:=by kernel_rfl
theorem aKN:∀ x,aCF tP aIG Tryz.f86 (aN Tryz.f86) aFP ZJ 110 .str _ _ x=DY x:=by
 rintro⟨v0,v1,⟨⟩⟩
 kernel_rfl
abbrev aAY:Ent:=⟨86,_,_,DY⟩
theorem Y8:Ent.OK tP aAY:=aH6 bC aL2 Tryz.func86 (c:=ZJ) (by kernel_rfl) (bV:=aN Tryz.f86) (lt:=aFP) (aO aIU trivial) aKN
end Go.PM
namespace Go.PM
open Go Go.RowKit Go.Proofs Go.Lz
def vG(r:List Int):V:=λx=>r.getD x 0
def J3(m:List (List Int)):Nat->V:=λi=>vG (m.getD i [])
def Vr(n:Nat) (v:V):List Int:=(List.range n).map v
theorem a3H(r:List Int):Zr r.length (vG r)=r.map Zn:=by
 refine List.ext_getElem? λi=>?_
 simp only[Zr,List.getElem?_map]
 by_cases h:i<r.length
 ·rw[List.getElem?_range h,List.getElem?_eq_getElem h];simp[vG,List.getD,h]
 ·have h1:(List.range r.length)[i]?=none:=by simp; omega
  rw[h1,List.getElem?_eq_none (by omega)]; rfl
theorem a4R {n:Nat}{v:V}(hw:∀ x,n<=x->v x=0):vG (Vr n v)=v:=by
 funext x
 unfold vG Vr
 by_cases h:x<n
 ·simp[List.getD,h]
 ·have h1:(List.range n)[x]?=none:=by simp; omega
  simp[List.getD,h1,hw x (by omega)]
theorem aUH(n:Int)(h:Lib.nDigits n.natAbs<=18):OY (Zn n,())=some (n,true,()):=by
 have hl:=aAI h;have hs:(Zn n).size<=1000000000:=by
  rcases(by omega:n<0\/0<=n)with g|g
  ·rw[HO g]; omega
  ·rw[T6 g,D9]; omega
 have e1:Nat.ble (Zn n).size 1000000000=true:=by rw[dM]; simpa using hs
 have e2:eqI 10 10=true:=by decide
 have e3:eqI 64 64=true:=by decide
 have e4:Lib.parseIntB 64 (Zn n).data.toList=.ok n:=by
  have hne:∀ c r,Lib.decDigits n.natAbs=c::r->c.toNat≠43/\c.toNat≠45:=λc r he=>by
   have:=K1 n.natAbs c (by rw[he]; simp);omega
  have hmag:=aO2 n.natAbs;rw[BB]at hmag;have hlen:(Lib.decDigits n.natAbs).length<=18:=by rw[Lib.decDigits_length]; exact h
  rw[Lib.parseIntB_64];rcases(by omega:n<0\/0<=n)with g|g
  ·have hn : -(n.natAbs:Int)=n:=by omega
   rw[WT g,Lib.atoiAll_minus,Lib.signed_short hlen,hmag];simp only[Option.map_some,hn];rfl
  ·have hn:(n.natAbs:Int)=n:=by omega
   rw[T6 g,BB];cases he:Lib.decDigits n.natAbs with
   | nil=>exact absurd he (I4 _)
   | cons c r =>
    obtain⟨h1,h2⟩:=hne c r he;rw[Lib.atoiAll_plain c r h1 h2,<- he,Lib.signless_short hlen,hmag];simp only[Option.map_some,hn];rfl
 unfold OY wP;simp only[e1,e2,e3,Bool.and_self,oC,e4,aE]
theorem aHP(r:List Int)(hl:r.length<=1048576)(hr:∀ a∈r,-9223372036854775808<=a/\a<9223372036854775808) :
  uX ([],r,(r.length:Int),0,())=some (r.map Zn,()):=by
 have key:=aV (step:=qK) (N:=2^64) (λt=>((r.take t).map Zn,r,(r.length:Int),(t:Int),())) r.length (r.map Zn,()) (by omega) (λt ht=>?_) ?_
 ·exact key
 ·have e1:ltI (t:Int) (r.length:Int)=true:=by rw[aD]; exact oT (by omega)
  have e2:aF (t:Int) r.length=true:=by rw[aM]; exact oT (by omega)
  have e3:((t:Nat):Int).toNat=t:=oN _;have e4:r.getD t 0=r[t]:=by simp[List.getD,ht]
  obtain⟨b1,b2⟩:=hr r[t] (List.getElem_mem ht);have e5:=uG r[t] b1 b2;have e6:Nat.ble [Zn r[t]].length 1048576=true:=rfl;have e7:Nat.ble ((r.take t).map Zn).length 1048576=true:=by rw[dM,List.length_map,List.length_take]; exact oT (by omega)
  have e8:=cC t (by omega);have e9:(r.take t).map Zn++[Zn r[t]]=(r.take (t+1)).map Zn:=by rw[List.take_succ_eq_append_getElem ht,List.map_append]; rfl
  simp only[qK,e1,e2,e3,e4,e5,aE,e6,e7,oC,e8,e9]
 ·have e1:ltI (r.length:Int) (r.length:Int)=false:=by rw[aD]; exact oF (by omega)
  simp only[qK,e1,oD,List.take_length]
theorem aGG(r:List Int)(hl:r.length<=1048576)(hr:∀ a∈r,-9223372036854775808<=a/\a<9223372036854775808):nX (r,())=some (r.map Zn):=by
 have e1:ltI (r.length:Int) 0=false:=by rw[aD]; exact oF (by omega)
 have e2:ltI 1048576 (r.length:Int)=false:=by rw[aD]; exact oF (by omega)
 unfold nX;simp only[e1,e2,Bool.not_false,oC,List.replicate_zero,aHP r hl hr,aE]
theorem aL4(rows:List (List Int)) {n:Nat} (hk:rows.length<1048576) (hn:n<1048576) (hlen:∀ r∈rows,r.length=n) (hr:∀ r∈rows,∀ a∈r,-9223372036854775808<=a/\a<9223372036854775808) :
  ∃ m A,cN () (rows,()) []=some (m,A)/\lT 0 rows.length n m A (λi=>i) (J3 rows):=by
 have key:=aV (step:=dJ) (N:=2^64)
  (λt=>((List.range t).map (λi=>(i,0,n)),rows,(rows.length:Int),(t:Int),(rows.take t).map (·.map Zn),())) rows.length ((List.range rows.length).map (λi=>(i,0,n)),rows.map (·.map Zn),()) (by omega) (λt ht=>?_) ?_
 ·refine⟨(List.range rows.length).map (λi=>(i,0,n)),rows.map (·.map Zn),?_,rfl,λi hi=>⟨[],rfl,?_⟩,λi j _ _ h=>h⟩
  ·unfold cN mU;have key:bH dJ (2^64) ([],rows,(rows.length:Int),0,[],())=_:=key;simp only[key,aE]
  ·rw[List.getElem?_map,List.getElem?_eq_getElem hi];simp only[Option.map_some,List.nil_append]
   congr 1
   have h1:J3 rows i=vG rows[i]:=by unfold J3; simp[List.getD,hi]
   rw[h1,<- a3H,hlen rows[i] (List.getElem_mem hi)]
 ·have e1:ltI (t:Int) (rows.length:Int)=true:=by rw[aD]; exact oT (by omega)
  have e2:aF (t:Int) rows.length=true:=by rw[aM]; exact oT (by omega)
  have e3:((t:Nat):Int).toNat=t:=oN _;have e4:rows.getD t []=rows[t]:=by simp[List.getD,ht]
  have hm:=List.getElem_mem ht;have e5:=aGG rows[t] (by rw[hlen _ hm]; omega) (hr _ hm);have e6:((rows.take t).map (·.map Zn)).length=t:=by rw[List.length_map,List.length_take]; omega
  have e7:Nat.ble [(t,0,n)].length 1048576=true:=rfl;have e8:Nat.ble ((List.range t).map (λi=>(i,0,n))).length 1048576=true:=by rw[dM,List.length_map,List.length_range]; exact oT (by omega)
  have e9:=cC t (by omega);have e10:(rows[t].map Zn).length=n:=by rw[List.length_map,hlen _ hm]
  have e11:(rows.take t).map (·.map Zn)++[rows[t].map Zn]=(rows.take (t+1)).map (·.map Zn):=by rw[List.take_succ_eq_append_getElem ht,List.map_append]; rfl
  have e12:(List.range t).map (λi=>(i,0,n))++[(t,0,n)]=(List.range (t+1)).map (λi=>(i,0,n)):=by rw[List.range_succ,List.map_append]; rfl
  simp only[dJ,e1,e2,e3,e4,e5,aE,e6,e7,e8,e9,e10,e11,e12,oC]
 ·have e1:ltI (rows.length:Int) (rows.length:Int)=false:=by rw[aD]; exact oF (by omega)
  simp only[dJ,e1,oD,List.take_length]
theorem aYG {A:List (List ByteArray)} {J o n:Nat} {v:V} {pre:List ByteArray} (hn:n<1048576) (hp:pre.length=o) (hJ:A[J]?=some (pre++Zr n v)) (ok:∀ x,x<n->(v x).natAbs<=1000000000) :
  kA () ((J,o,n),()) A=some ((Vr n v,0,()),A):=by
 have key:=aV (step:=gX) (N:=2^64) (λt=>(Vr t v,(J,o,n),(n:Int),(t:Int),A,())) n (.inr (Vr n v,A,())) (by omega) (λt ht=>?_) ?_
 ·have e1:ltI (n:Int) 0=false:=by rw[aD]; exact oF (by omega)
  have e2:ltI 1048576 (n:Int)=false:=by rw[aD]; exact oF (by omega)
  have key:bH gX (2^64) ([],(J,o,n),(n:Int),0,A,())=_:=key;unfold kA pL;simp only[e1,e2,Bool.not_false,oC,List.replicate_zero,key,aE,mP]
 ·have b1:=ok t ht;have e1:ltI (t:Int) (n:Int)=true:=by rw[aD]; exact oT (by omega)
  have e2:aF (t:Int) n=true:=by rw[aM]; exact oT (by omega)
  have e3:(o+((t:Nat):Int).toNat)*1=o+t:=by simp
  have e4:cS A J=o+n:=by rw[cS,aE1 _ hJ,List.length_append,mQ,hp]
  have e6:Nat.blt (o+t) (o+n)=true:=by rw[cD]; simpa using ht
  have e7:dH A J (o+t) ByteArray.empty=Zn (v t):=by rw[dH,aE1 _ hJ,ZX hp,aLR _ ht]
  have e8:=aUH (v t) (by have:=uF (u:=(v t).natAbs) (k:=17) (by omega); omega);have e9:ltI 1000000000 (v t)=false:=by rw[aD]; exact oF (by omega)
  have e10:ltI (v t) (-1000000000)=false:=by rw[aD]; exact oF (by omega)
  have e11:Nat.ble [v t].length 1048576=true:=rfl;have e12:Nat.ble (Vr t v).length 1048576=true:=by rw[dM]; unfold Vr; rw[List.length_map,List.length_range]; exact oT (by omega)
  have e13:=cC t (by omega);have e14:Vr t v++[v t]=Vr (t+1) v:=by unfold Vr; rw[List.range_succ,List.map_append]; rfl
  simp only[gX,e1,e2,e3,e4,e6,e7,e8,e9,e10,e11,e12,e13,e14,aE,oC,oD]
 ·have e1:ltI (n:Int) (n:Int)=false:=by rw[aD]; exact oF (by omega)
  simp only[gX,e1,oD]
theorem aAK {o k d n:Nat} {m:List (Nat×Nat×Nat)} {A:List (List ByteArray)} {J:Nat->Nat} {M:Nat->V} (h:lT o k n m A J M) (hd:d<=k) (hk:k<1048576) (hn:n<1048576) (ok:∀ i,i<d->∀ x,x<n->(M i x).natAbs<=1000000000) (cols:Int) :
  cO (m.take d) (cols,()) A=some (((cols,(List.range d).map λi=>Vr n (M i)),0,()),A):=by
 have hl:(m.take d).length=d:=by rw[List.length_take,h.len]; omega
 have hg:∀ t,t<d->(m.take d).getD t (0,0,0)=(J t,o,n):=λt ht=>by
  rw[<- h.get (show t<k by omega)];simp[List.getD,List.getElem?_take,ht]
 have key:=aV (step:=fM) (N:=2^64)
  (λt=>((0,([],())),(cols,((List.range t).map (λi=>Vr n (M i)),())),m.take d,((m.take d).length:Int),(t:Int),A,())) d (.inr ((0,([],())),(cols,((List.range d).map (λi=>Vr n (M i)),())),A,())) (by omega) (λt ht=>?_) ?_
 ·have key:bH fM (2^64) ((0,([],())),(cols,([],())),m.take d,((m.take d).length:Int),0,A,())=_:=key;unfold cO nG;simp only[key,aE,mP]
 ·rw[hl];obtain⟨pre,h1,h2⟩:=h.at_ t (by omega);have e1:ltI (t:Int) (d:Int)=true:=by rw[aD]; exact oT (by omega)
  have e2:aF (t:Int) d=true:=by rw[aM]; exact oT (by omega)
  have e3:((t:Nat):Int).toNat=t:=oN _;have e4:Nat.blt t d=true:=by rw[cD]; simpa using ht
  have e5:=aYG hn h1 h2 (ok t ht);have e6:eqI 0 0=true:=by decide
  have e7:Nat.ble [Vr n (M t)].length 1048576=true:=rfl;have e8:Nat.ble ((List.range t).map (λi=>Vr n (M i))).length 1048576=true:=by rw[dM,List.length_map,List.length_range]; exact oT (by omega)
  have e9:=cC t (by omega);have e10:(List.range t).map (λi=>Vr n (M i))++[Vr n (M t)]=(List.range (t+1)).map (λi=>Vr n (M i)):=by rw[List.range_succ,List.map_append]; rfl
  simp only[fM,hl,e1,e2,e3,e4,hg t ht,e5,e6,e7,e8,e9,e10,aE,oC,Bool.not_true,oD]
 ·rw[hl];have e1:ltI (d:Int) (d:Int)=false:=by rw[aD]; exact oF (by omega)
  simp only[fM,e1,oD]
theorem aEB(r:List Int) (hl:r.length<=64) (hr:∀ a∈r,a.natAbs<=1000000000):GQ (r,())=some (0,()):=by
 have key:=aV (step:=eT) (N:=2^64) (λt=>(r,(),(r.length:Int),(t:Int),())) r.length (.inr ()) (by omega) (λt ht=>?_) ?_
 ·have key:bH eT (2^64) (r,(),(r.length:Int),0,())=some (.inr ()):=key;have e1:ltI 64 (r.length:Int)=false:=by rw[aD]; exact oF (by omega)
  have e2:ltI (-1) 0=true:=by decide
  simp only[GQ,e1,oD,o7,qT,mR,key,aE,mP,e2,Bool.not_true]
 ·have e1:ltI (t:Int) (r.length:Int)=true:=by rw[aD]; exact oT (by omega)
  have e2:aF (t:Int) r.length=true:=by rw[aM]; exact oT (by omega)
  have e3:((t:Nat):Int).toNat=t:=oN _;have e4:r.getD t 0=r[t]:=by simp[List.getD,ht]
  have b:=hr r[t] (List.getElem_mem ht);have e5:ltI r[t] (-1000000000)=false:=by rw[aD]; exact oF (by omega)
  have e6:ltI 1000000000 r[t]=false:=by rw[aD]; exact oF (by omega)
  have e7:=cC t (by omega);simp only[eT,e1,e2,e3,e4,W2,aF5,e5,e6,aE,Bool.not_false,oC,oD,e7]
 ·have e1:ltI (r.length:Int) (r.length:Int)=false:=by rw[aD]; exact oF (by omega)
  simp only[eT,e1,oD]
theorem aTF(rows:List (List Int)){n:Nat}(hk:rows.length<1048576)(hn:n<=64)(hlen:∀ r∈rows,r.length=n)(hr:∀ r∈rows,∀ a∈r,a.natAbs<=1000000000):KX (rows,(n:Int),())=some (0,()):=by
 have key:=aV (step:=uU) (N:=2^64) (λt=>((n:Int),rows,(rows.length:Int),(t:Int),())) rows.length (.inr ()) (by omega) (λt ht=>?_) ?_
 ·have key:bH uU (2^64) ((n:Int),rows,(rows.length:Int),0,())=some (.inr ()):=key;simp only[KX,GO,key,aE,mP]
 ·have e1:ltI (t:Int) (rows.length:Int)=true:=by rw[aD]; exact oT (by omega)
  have e2:aF (t:Int) rows.length=true:=by rw[aM]; exact oT (by omega)
  have e3:((t:Nat):Int).toNat=t:=oN _;have e4:rows.getD t []=rows[t]:=by simp[List.getD,ht]
  have hm:=List.getElem_mem ht;have e5:=aEB rows[t] (by rw[hlen _ hm]; exact hn) (hr _ hm);have e6:eqI 0 0=true:=by decide
  have e7:eqI (rows[t].length:Int) (n:Int)=true:=by rw[iL,hlen _ hm]; exact oT rfl
  have e8:=cC t (by omega);simp only[uU,e1,e2,e3,e4,e5,aE,e6,e7,e8,Bool.not_true,oC,oD]
 ·have e1:ltI (rows.length:Int) (rows.length:Int)=false:=by rw[aD]; exact oF (by omega)
  simp only[uU,e1,oD]
theorem aSU(rows:List (List Int)){n:Nat}(hk:rows.length<=12)(hn:n<=12)(hlen:∀ r∈rows,r.length=n)(hr:∀ r∈rows,∀ a∈r,a.natAbs<=1000000000):DE ((n:Int),rows,())=some (0,()):=by
 have e1:ltI (n:Int) 0=false:=by rw[aD]; exact oF (by omega)
 have e2:ltI 12 (n:Int)=false:=by rw[aD]; exact oF (by omega)
 have e3:ltI 12 (rows.length:Int)=false:=by rw[aD]; exact oF (by omega)
 simp only[DE,e1,e2,e3,oD,aTF rows (by omega) (by omega) hlen hr,aE]
theorem of_eq(rows:List (List Int)) {n:Nat} (hk:rows.length<=12) (hn:n<=12) (hlen:∀ r∈rows,r.length=n) {E T:Nat->Nat} (hr:∀ r∈rows,∀ a∈r,a.natAbs<=E 0) (hE:E 0<=1000000000) (hb:Bds rows.length n E T)
  (hfin:∀ d M p,d<=rows.length->Hn d M p->Same rows.length (J3 rows) d M->(∀ i,i<d->∀ x,n<=x->M i x=0)->∀ i,i<d->∀ x,x<n->(M i x).natAbs<=1000000000) :
  ∃ d M p,DY ((n:Int),rows,())=some (((n:Int),(List.range d).map λi=>Vr n (M i)),0,())/\d<=rows.length/\Hn d M p/\Same rows.length (J3 rows) d M/\(∀ i,i<d->∀ x,n<=x->M i x=0)/\∀ i,i<d->∀ x,x<n->(M i x).natAbs<=1000000000:=by
 obtain⟨m,A,h1,h2⟩:=aL4 rows (n:=n) (by omega) (by omega) hlen (λr h a ha=>by have:=hr r h a ha; omega);have hrow:∀ i,i<rows.length->∃ r,r∈rows/\J3 rows i=vG r:=λi hi=>⟨rows[i],List.getElem_mem hi,by unfold J3; simp[List.getD,hi]⟩
 have hw:Wd rows.length n (J3 rows):=λi hi x hx=>by
  obtain⟨r,hr1,hr2⟩:=hrow i hi;rw[hr2]; unfold vG;have:=hlen r hr1;simp[List.getD,List.getElem?_eq_none (show r.length<=x by omega)]
 have hB:Big rows.length n (J3 rows) (E 0):=λi hi x hx=>by
  obtain⟨r,hr1,hr2⟩:=hrow i hi;rw[hr2]; unfold vG;have hl:=hlen r hr1;have:r.getD x 0=r[x]'(by omega):=by simp[List.getD,show x<r.length by omega]
  rw[this];exact hr r hr1 _ (List.getElem_mem _)
 obtain⟨m',A',J',M',d,p,g1,g2,g3,g4,g5,g6,g7⟩:=WN (by omega) (by omega) h2 hw hB hb;have hwd:∀ i,i<d->∀ x,n<=x->M' i x=0:=λi hi x hx=>g6 i (by omega) x hx
 have hf:=hfin d M' p g2 g4 g5 hwd;refine⟨d,M',p,?_,g2,g4,g5,hwd,hf⟩;have e0:eqI 0 0=true:=by decide
 simp only[DY,aSU rows hk hn hlen (λr h a ha=>Nat.le_trans (hr r h a ha) hE),aE,e0,Bool.not_true,oD,h1,g1,aAK g3 g2 (by omega) (by omega) hf (n:Int)]
end Go.PM
namespace Go.PM
open Go Go.RowKit Go.Proofs
set_option maxHeartbeats 4000000
abbrev FE:List (Nat×Kd):=[(3,.own 110 .str),(9,.list TyE),(10,.int .i64),(11,.int .i64)]
abbrev NS:List (Ex×List (Nat×Kd)):=[(.exit 0,[(3,.own 110 .str)])]
def YH(x:Shape.den FE):oS FE NS:=match x with
 | (v3,v9,v10,v11,()) =>
  bif ltI v11 v10 then
   bif aF v11 v9.length then aC (j8 ((v9.getD v11.toNat 0),())) λy2 =>
   bif Nat.ble [y2.1].length 1048576 then bif Nat.ble v3.length 1048576 then some (.inl ((v3++[y2.1]),v9,v10,(aB .i64 (v11+1)),())) else none else none else none
  else some (.inr ((v3,())))
def CC(x:Shape.den FE):oX NS:=bH YH (2^64) x
def oB(x:aK [.list TyE]):oK [.list .str]:=match x with
 | (v0,()) =>
  bif !(ltI (v0.length:Int) 0) then bif !(ltI 1048576 (v0.length:Int)) then aC (CC ((List.replicate 0 ByteArray.empty),v0,(v0.length:Int),0,())) λz3 =>
  some (z3.1,()) else none else none
abbrev aG6:Env:=bL [J5]
theorem aBM:aR tP aG6:=aU ⟨EH,trivial⟩
abbrev JW:Ent:=⟨119,_,_,oB⟩
theorem N3:Ent.OK tP JW:=oU aBM Tryz.func119 3 (lp:=CC) rfl (by kernel_rfl) (by kernel_rfl) (by kernel_rfl) (by kernel_rfl) (by rintro⟨v3,v9,v10,v11,⟨⟩⟩; kernel_rfl) (by rintro⟨v0,⟨⟩⟩; kernel_rfl)
abbrev fG:List (Nat×Kd):=[(0,.val),(7,.list TyD),(8,.int .i64),(9,.int .i64)]
abbrev iT:List (Ex×List (Nat×Kd)):=[(.exit 0,[])]
def gO(x:Shape.den fG):Option (List (Value×aK [.int .i64,.list .str])×(Shape.den fG⊕qD iT)):=match x with
 | (v0,v7,v8,v9,()) =>
  bif ltI v9 v8 then
   bif aF v9 v7.length then aC (oB ((v7.getD v9.toNat []),())) λy3 =>
   aC (AQ (y3.1,())) λy4 =>
   outs [(v0,(y4.1,y3.1,()))] (some ([],.inl (v0,v7,v8,(aB .i64 (v9+1)),()))) else none
  else some ([],.inr ((())))
def lC(x:Shape.den fG):Option (List (Value×aK [.int .i64,.list .str])×qD iT):=aHV gO (2^64) x
def uC(v0:Value)(x:RU [TyH]):Option (List (Value×aK [.int .i64,.list .str])):=match x with
 | (v1,()) =>
  a4G (aX2 (lC (v0,v1.2,(v1.2.length:Int),0,())) λz5 =>
  some ([],()))
def pB:Code:=eA Tryz.f239
abbrev uM:Env:=ME [JW,GI] []
theorem AB:aR tP uM:=nI ⟨N3,JI,trivial⟩ trivial
def jQ:Code:=inLoop (aSL pB 0)
def tC(id:Nat):Option cG:=none
def tD(id:Nat):Option (VO (Value×aK [.int .i64,.list .str])):=bif Nat.beq id 1 then some ⟨fG,iT,lC⟩ else none
theorem IV:bW jQ=1:=by kernel_rfl
theorem LG:iG jQ=[]:=by kernel_rfl
theorem IT:∀ x,a2W tP uM 22 (aN Tryz.f239) tC [.int .i64,.list .str] tD jQ fG iT x=gO x:=by
 rintro⟨v0,v7,v8,v9,⟨⟩⟩
 kernel_rfl
theorem JB:aWZ tP 22 [.int .i64,.list .str] jQ ⟨fG,iT,lC⟩:=a1O AB.callee bC.mixed _ (aUE LG trivial) IT
theorem JZ:iG pB=[.loop jQ]:=by kernel_rfl
theorem K4:∀ v0 x,a2T tP uM Tryz.f239 (aN Tryz.f239) tC [.int .i64,.list .str] tD pB [TyH] v0 x=uC v0 x:=by
 rintro v0 ⟨v1,⟨⟩⟩
 kernel_rfl
theorem MA {f:RU [TyH]->Option (List (aK [.int .i64,.list .str]))}(h:∀ yv x all,f x=some all->uC yv x=some (all.map λe=>(yv,e))):aKZ tP 239 [TyH] [.int .i64,.list .str] f:=a3K bC AB Tryz.func239 (c:=pB) (by kernel_rfl) (by kernel_rfl) (bV:=aN Tryz.f239) (lt:=tC) (li:=tD) (aUE JZ ⟨a00 IV rfl rfl JB,trivial⟩) (λyv x all hx=>(K4 yv x).trans (h yv x all hx))
def aWJ:List (List Int)->Option (List (aK [.int .i64,.list .str]))
 | []=>some []
 | r::l=>aC (oB (r,())) λy=>aC (AQ (y.1,())) λz=>aC (aWJ l) λrest=>some ((z.1,y.1,())::rest)
def aPW(x:RU [TyH]):Option (List (aK [.int .i64,.list .str])):=match x with
 | ((_,b),())=>bif Nat.ble b.length 1048576 then aWJ b else none
theorem aH0(yv:Value)(l:List (List Int))(hl:l.length<=1048576):∀ (rest pre:List (List Int)) (all:List (aK [.int .i64,.list .str])) (N:Nat),aWJ rest=some all->pre++rest=l->rest.length<N ->
  aHV gO N (yv,l,(l.length:Int),(pre.length:Int),())=some (all.map λe=>(yv,e),())
 | [],pre,all,N+1,h,hp,_=>by
  obtain rfl:=Option.some.inj h;rw[List.append_nil]at hp;subst hp;have h1:ltI (pre.length:Int) (pre.length:Int)=false:=by simp[aD]
  simp only[aHV,gO,h1,oD];rfl
 | r::rest,pre,all,N+1,h,hp,hN=>by
  obtain⟨y,hy,h⟩:=zA h;obtain⟨z,hz,h⟩:=zA h;obtain⟨all',ha,h⟩:=zA h;obtain rfl:=Option.some.inj h;have hlen:l.length=pre.length+(rest.length+1):=by rw[<- hp]; simp
  have h1:ltI (pre.length:Int) (l.length:Int)=true:=by simp[aD]; omega
  have h2:aF (pre.length:Int) l.length=true:=by simp[aM]; omega
  have h3:l.getD ((pre.length:Int)).toNat []=r:=by rw[<- hp]; simp
  have h4:=aH0 yv l hl rest (pre++[r]) all' N ha (by rw[<- hp]; simp) (by simp at hN; omega);have h5:aB .i64 ((pre.length:Int)+1)=((pre++[r]).length:Int):=by rw[wrap64 (by omega) (by omega)]; simp
  simp only[aHV,gO,h1,oC,h2,h3,hy,aE,hz,outs,h5];rw[h4];rfl
theorem aZN:aKZ tP 239 [TyH] [.int .i64,.list .str] aPW:=by
 refine MA ?_;rintro yv ⟨⟨n,b⟩,⟨⟩⟩ all h;unfold aPW at h;dsimp only at h;obtain⟨hb,h⟩:=aI h;have hb:=oL hb;have:=aH0 yv b hb b [] all (2^64) h rfl (by omega);unfold uC;dsimp only;unfold lC;have h0:((([]:List (List Int)).length:Nat):Int)=0:=rfl;rw[h0]at this;rw[this];simp[aX2,outs,a4G]
end Go.PM
namespace Go.PM
open Go Go.RowKit Go.Proofs
set_option maxHeartbeats 4000000
def XD(x:aK [.int .i64]):oK [.bool]:=match x with
 | (v0,()) =>
  bif ltI 1000000000 v0 then
   some (true,())
  else some (ltI v0 (-1000000000),())
theorem aI2:aR tP (bL []):=aU trivial
abbrev aFI:Ent:=⟨172,_,_,XD⟩
theorem aIT:Ent.OK tP aFI:=oI aI2 Tryz.func172 (by kernel_rfl) (by kernel_rfl) (by rintro⟨v0,⟨⟩⟩; kernel_rfl)
abbrev o8:List (Nat×Kd):=[(0,.list TyE),(1,.fn 172),(7,.int .i64),(8,.int .i64)]
abbrev uZ:List (Ex×List (Nat×Kd)):=[(.ret,[(4,.int .i64)]),(.exit 0,[])]
def eR(x:Shape.den o8):oS o8 uZ:=match x with
 | (v0,v1,v7,v8,()) =>
  bif ltI v8 v7 then
   bif aF v8 v0.length then aC (XD ((v0.getD v8.toNat 0),())) λy2 =>
   bif y2.1 then
    some (.inr (.inl (v8,())))
   else some (.inl (v0,(),v7,(aB .i64 (v8+1)),())) else none
  else some (.inr (.inr ((()))))
def mS(x:Shape.den o8):oX uZ:=bH eR (2^64) x
def qU(x:aK [.list TyE,.fn 172]):oK [.int .i64]:=match x with
 | (v0,v1,()) =>
  aC (mS (v0,(),(v0.length:Int),0,())) λz3 =>
  yO z3 (λa4=>some (a4.1,())) λb5 =>
  some ((-1),())
abbrev KE:Env:=bL [aFI]
theorem HX:aR tP KE:=aU ⟨aIT,trivial⟩
abbrev zI:Ent:=⟨197,_,_,qU⟩
theorem HR:Ent.OK tP zI:=oU HX Tryz.func197 2 (lp:=mS) rfl (by kernel_rfl) (by kernel_rfl) (by kernel_rfl) (by kernel_rfl) (by rintro⟨v0,v1,v7,v8,⟨⟩⟩; kernel_rfl) (by rintro⟨v0,v1,⟨⟩⟩; kernel_rfl)
def jY(x:aK [.list TyE,.fn 172]):oK [.bool]:=match x with
 | (v0,v1,()) =>
  aC (qU (v0,(),())) λy1 =>
  some (!(ltI y1.1 0),())
theorem FD:aR tP (bL [zI]):=aU ⟨HR,trivial⟩
abbrev u7:Ent:=⟨144,_,_,jY⟩
theorem FA:Ent.OK tP u7:=oI FD Tryz.func144 (by kernel_rfl) (by kernel_rfl) (by rintro⟨v0,v1,⟨⟩⟩; kernel_rfl)
abbrev NL:List (Nat×Kd):=[(0,.list TyD),(8,.list TyD),(9,.int .i64),(10,.int .i64)]
abbrev XX:List (Ex×List (Nat×Kd)):=[(.ret,[(2,.int .i64)]),(.exit 0,[])]
def wQ(x:Shape.den NL):oS NL XX:=match x with
 | (v0,v8,v9,v10,()) =>
  bif ltI v10 v9 then
   bif aF v10 v8.length then bif ltI 12 ((v8.getD v10.toNat []).length:Int) then
    some (.inr (.inl (4,())))
   else bif aF 0 v0.length then bif !(eqI ((v8.getD v10.toNat []).length:Int) ((v0.getD 0 []).length:Int)) then
    some (.inr (.inl (5,())))
   else aC (jY ((v8.getD v10.toNat []),(),())) λy2 =>
   bif y2.1 then
    some (.inr (.inl (4,())))
   else some (.inl (v0,v8,v9,(aB .i64 (v10+1)),())) else none else none
  else some (.inr (.inr ((()))))
def II(x:Shape.den NL):oX XX:=bH wQ (2^64) x
def N9(x:aK [.list TyD]):oK [.int .i64]:=match x with
 | (v0,()) =>
  bif ltI 12 (v0.length:Int) then
   some (4,())
  else aC (II (v0,v0,(v0.length:Int),0,())) λz3 =>
  yO z3 (λa4=>some (a4.1,())) λb5 =>
  some (0,())
abbrev aRG:Env:=bL [u7]
theorem aI6:aR tP aRG:=aU ⟨FA,trivial⟩
abbrev aD5:Ent:=⟨125,_,_,N9⟩
theorem aI8:Ent.OK tP aD5:=oU aI6 Tryz.func125 4 (lp:=II) rfl (by kernel_rfl) (by kernel_rfl) (by kernel_rfl) (by kernel_rfl) (by rintro⟨v0,v8,v9,v10,⟨⟩⟩; kernel_rfl) (by rintro⟨v0,⟨⟩⟩; kernel_rfl)
def EM(x:aK [.int .i64]):oK [.bool]:=match x with
 | (v0,()) =>
  some (!(eqI v0 0),())
theorem aBT:aR tP (bL []):=aU trivial
abbrev UH:Ent:=⟨211,_,_,EM⟩
theorem aBJ:Ent.OK tP UH:=oI aBT Tryz.func211 (by kernel_rfl) (by kernel_rfl) (by rintro⟨v0,⟨⟩⟩; kernel_rfl)
abbrev o4:List (Nat×Kd):=[(0,.list TyE),(1,.fn 211),(7,.int .i64),(8,.int .i64)]
abbrev u9:List (Ex×List (Nat×Kd)):=[(.ret,[(4,.int .i64)]),(.exit 0,[])]
def eS(x:Shape.den o4):oS o4 u9:=match x with
 | (v0,v1,v7,v8,()) =>
  bif ltI v8 v7 then
   bif aF v8 v0.length then aC (EM ((v0.getD v8.toNat 0),())) λy2 =>
   bif y2.1 then
    some (.inr (.inl (v8,())))
   else some (.inl (v0,(),v7,(aB .i64 (v8+1)),())) else none
  else some (.inr (.inr ((()))))
def mX(x:Shape.den o4):oX u9:=bH eS (2^64) x
def qW(x:aK [.list TyE,.fn 211]):oK [.int .i64]:=match x with
 | (v0,v1,()) =>
  aC (mX (v0,(),(v0.length:Int),0,())) λz3 =>
  yO z3 (λa4=>some (a4.1,())) λb5 =>
  some ((-1),())
abbrev KG:Env:=bL [UH]
theorem HW:aR tP KG:=aU ⟨aBJ,trivial⟩
abbrev zL:Ent:=⟨197,_,_,qW⟩
theorem HT:Ent.OK tP zL:=oU HW Tryz.func197 2 (lp:=mX) rfl (by kernel_rfl) (by kernel_rfl) (by kernel_rfl) (by kernel_rfl) (by rintro⟨v0,v1,v7,v8,⟨⟩⟩; kernel_rfl) (by rintro⟨v0,v1,⟨⟩⟩; kernel_rfl)
def I0(x:aK [.list TyE]):oK [.int .i64]:=match x with
 | (v0,()) =>
  aC (qW (v0,(),())) λy1 =>
  some (y1.1,())
theorem aEQ:aR tP (bL [zL]):=aU ⟨HT,trivial⟩
abbrev Y7:Ent:=⟨173,_,_,I0⟩
theorem aFO:Ent.OK tP Y7:=oI aEQ Tryz.func173 (by kernel_rfl) (by kernel_rfl) (by rintro⟨v0,⟨⟩⟩; kernel_rfl)
def GK(x:aK [.list TyE,.ptr TyE,.ptr TyD]):oK [.bool]:=match x with
 | (v0,v1,v2,()) =>
  bif aF v1 v0.length then bif ltI (v0.getD v1.toNat 0) 0 then
   some (true,())
  else bif aF v1 v0.length then bif aF v1 v2.length then some (!(ltI (v0.getD v1.toNat 0) (v2.getD v1.toNat 0)),()) else none else none else none
theorem YW:aR tP (bL []):=aU trivial
abbrev QR:Ent:=⟨174,_,_,GK⟩
theorem YE:Ent.OK tP QR:=oI YW Tryz.func174 (by kernel_rfl) (by kernel_rfl) (by rintro⟨v0,v1,v2,⟨⟩⟩; kernel_rfl)
abbrev kD:List (Nat×Kd):=[(0,.list TyD),(1,.clo 174 [TyE,TyD]),(7,.int .i64),(8,.int .i64)]
abbrev qA:List (Ex×List (Nat×Kd)):=[(.ret,[(4,.int .i64)]),(.exit 0,[])]
def cV(x:Shape.den kD):oS kD qA:=match x with
 | (v0,v1,v7,v8,()) =>
  bif ltI v8 v7 then
   bif aF v8 v0.length then aC (GK ((v0.getD v8.toNat []),v1.1,v1.2.1,())) λy2 =>
   bif y2.1 then
    some (.inr (.inl (v8,())))
   else some (.inl (v0,(v1.1,v1.2.1,()),v7,(aB .i64 (v8+1)),())) else none
  else some (.inr (.inr ((()))))
def jP(x:Shape.den kD):oX qA:=bH cV (2^64) x
def lY(x:aK [.list TyD,.clo 174 [TyE,TyD]]):oK [.int .i64]:=match x with
 | (v0,v1,()) =>
  aC (jP (v0,(v1.1,v1.2.1,()),(v0.length:Int),0,())) λz3 =>
  yO z3 (λa4=>some (a4.1,())) λb5 =>
  some ((-1),())
abbrev EJ:Env:=bL [QR]
theorem B6:aR tP EJ:=aU ⟨YE,trivial⟩
abbrev r9:Ent:=⟨100,_,_,lY⟩
theorem B5:Ent.OK tP r9:=oU B6 Tryz.func100 2 (lp:=jP) rfl (by kernel_rfl) (by kernel_rfl) (by kernel_rfl) (by kernel_rfl) (by rintro⟨v0,v1,v7,v8,⟨⟩⟩; kernel_rfl) (by rintro⟨v0,v1,⟨⟩⟩; kernel_rfl)
def fB(x:aK [.list TyD,.clo 174 [TyE,TyD]]):oK [.bool]:=match x with
 | (v0,v1,()) =>
  aC (lY (v0,(v1.1,v1.2.1,()),())) λy1 =>
  some (!(ltI y1.1 0),())
theorem zU:aR tP (bL [r9]):=aU ⟨B5,trivial⟩
abbrev qF:Ent:=⟨43,_,_,fB⟩
theorem zN:Ent.OK tP qF:=oI zU Tryz.func43 (by kernel_rfl) (by kernel_rfl) (by rintro⟨v0,v1,⟨⟩⟩; kernel_rfl)
abbrev GG:List (Nat×Kd):=[(0,.list TyD),(3,.int .i64),(7,.list TyD),(8,.int .i64),(9,.int .i64)]
abbrev QJ:List (Ex×List (Nat×Kd)):=[(.ret,[(2,.bool)]),(.exit 0,[])]
def rQ(x:Shape.den GG):oS GG QJ:=match x with
 | (v0,v3,v7,v8,v9,()) =>
  bif ltI v9 v8 then
   bif aF v9 v7.length then aC (I0 ((v7.getD v9.toNat []),())) λy3 =>
   bif !(ltI v3 y3.1) then
    some (.inr (.inl (false,())))
   else bif aF y3.1 (v7.getD v9.toNat []).length then bif ltI ((v7.getD v9.toNat []).getD y3.1.toNat 0) 0 then
    some (.inr (.inl (false,())))
   else bif !(ltI v9 0) then bif Nat.ble 0 v9.toNat then bif Nat.ble v9.toNat v0.length then aC (fB (((v0.drop 0).take (v9.toNat-0)),(y3.1,(v7.getD v9.toNat []),()),())) λy4 =>
   bif y4.1 then
    some (.inr (.inl (false,())))
   else some (.inl (v0,y3.1,v7,v8,(aB .i64 (v9+1)),())) else none else none else none else none else none
  else some (.inr (.inr ((()))))
def DS(x:Shape.den GG):oX QJ:=bH rQ (2^64) x
def F7(x:aK [.list TyD]):oK [.bool]:=match x with
 | (v0,()) =>
  aC (DS (v0,(-1),v0,(v0.length:Int),0,())) λz5 =>
  yO z5 (λa6=>some (a6.1,())) λb7 =>
  some (true,())
abbrev aIV:Env:=bL [Y7,qF]
theorem aDA:aR tP aIV:=aU ⟨aFO,zN,trivial⟩
abbrev XS:Ent:=⟨126,_,_,F7⟩
theorem aDH:Ent.OK tP XS:=oU aDA Tryz.func126 3 (lp:=DS) rfl (by kernel_rfl) (by kernel_rfl) (by kernel_rfl) (by kernel_rfl) (by rintro⟨v0,v3,v7,v8,v9,⟨⟩⟩; kernel_rfl) (by rintro⟨v0,⟨⟩⟩; kernel_rfl)
def MY(x:aK [.list TyD]):oK [.bool,.int .i64]:=match x with
 | (v0,()) =>
  aC (N9 (v0,())) λy1 =>
  bif !(eqI y1.1 0) then
   some (false,y1.1,())
  else aC (F7 (v0,())) λy2 =>
  some (y2.1,0,())
theorem aCI:aR tP (bL [XS,aD5]):=aU ⟨aDH,aI8,trivial⟩
abbrev XZ:Ent:=⟨71,_,_,MY⟩
theorem aDD:Ent.OK tP XZ:=oI aCI Tryz.func71 (by kernel_rfl) (by kernel_rfl) (by rintro⟨v0,⟨⟩⟩; kernel_rfl)
def mY(x:aK [.agg TyH]):oK [.int .i64]:=match x with
 | (v0,()) =>
  aC (DE (v0.1,v0.2,())) λy1 =>
  bif !(eqI y1.1 0) then
   some (y1.1,())
  else aC (MY (v0.2,())) λy2 =>
  bif !(eqI y2.2.1 0) then
   some (7,())
  else bif y2.1 then
   some (0,())
  else some (7,())
theorem aFW:aR tP (bL [XZ,RE]):=aU ⟨aDD,SI,trivial⟩
abbrev C8:Ent:=⟨73,_,_,mY⟩
theorem CS:Ent.OK tP C8:=oI aFW Tryz.func73 (by kernel_rfl) (by kernel_rfl) (by rintro⟨v0,⟨⟩⟩; kernel_rfl)
def aXT(x:aK [.agg TyH,.list TyE]):oK [.int .i64]:=match x with
 | (v0,v1,()) =>
  aC (mY (v0,())) λy1 =>
  bif !(eqI y1.1 0) then
   some (y1.1,())
  else aC (GQ (v1,())) λy2 =>
  bif !(eqI y2.1 0) then
   some (y2.1,())
  else bif !(eqI (v1.length:Int) v0.1) then
   some (5,())
  else some (0,())
def GZ(x:aK [.agg TyH]):oK [.clo 239 [TyH]]:=match x with
 | (v0,()) =>
  some ((v0,()),())
theorem QU:aR tP (bL []):=aU trivial
abbrev HQ:Ent:=⟨225,_,_,GZ⟩
theorem QN:Ent.OK tP HQ:=oI QU Tryz.func225 (by kernel_rfl) (by kernel_rfl) (by rintro⟨v0,⟨⟩⟩; kernel_rfl)
abbrev cU:List (Nat×Kd):=[(4,.bown 148 110 .str),(5,.bown 148 110 .str),(14,.clo 239 [TyH])]
abbrev iH:List (Ex×List (Nat×Kd)):=[(.normal,[(4,.bown 148 110 .str),(5,.bown 148 110 .str)])]
def BN(x:Shape.den cU)(e:aK [.int .i64,.list .str]):oS cU iH:=match x,e with
 | (v4,v5,v14,()),(e0,e1,()) =>
  bif aF e0 v4.length then bif Nat.blt e0.toNat v4.length then bif aF e0 e1.length then aC (BV ((v4.getD e0.toNat ByteArray.empty),(e1.getD e0.toNat ByteArray.empty),())) λy3 =>
  aC (TM (t:=.str) rU v4 (y3.1,e1,())) λy4 =>
  bif Nat.ble [y3.1].length 1048576 then bif Nat.ble v5.length 1048576 then some (.inl (y4,(v5++[y3.1]),(v14.1,()),())) else none else none else none else none else none
def CR(x:Shape.den cU):RU [TyH]:=match x with
 | (v4,v5,v14,())=>(v14.1,())
def sP(x:Shape.den cU):oX iH:=a3O cU iH (λx=>aPW (CR x)) BN x
def zF(x:aK [.agg TyH,.list TyE]):oK [.list .str,.list .str]:=match x with
 | (v0,v1,()) =>
  aC (nX (v1,())) λy1 =>
  aC (GZ (v0,())) λy2 =>
  aC (sP (y1,[],(y2.1.1,()),())) λz5 =>
  some (z5.1,z5.2.1,())
def sL:Code:=eA Tryz.f196
abbrev yR:Env:=ME [HQ,TC] [EA,JK]
theorem D7:aR tP yR:=nI ⟨QN,VF,trivial⟩ ⟨FH,S5,trivial⟩
def bT:Code:=aSL sL 0
def RY:Code:=inLoop bT
def xF(id:Nat):Option cG:=none
def xE(id:Nat):Option cG:=bif Nat.beq id 5 then some ⟨cU,iH,sP⟩ else none
theorem MD:bW RY=5:=by kernel_rfl
theorem BL:bT=.rangeFunc (aOG bT) (aX6 bT) (PO bT) (inLoop bT):=by kernel_rfl
theorem LM:∀ y e,aPX tP yR 40 (aB2 Tryz.f196) xF xE (aX6 bT).toList (PO bT) (inLoop bT) [.int .i64,.list .str] cU iH y e=BN y e:=by
 rintro⟨v4,v5,v14,⟨⟩⟩ ⟨e0,e1,⟨⟩⟩
 kernel_rfl
theorem OO:∀ x,a0U 239 [TyH] cU (aOG bT) x=some (CR x):=by
 rintro⟨v4,v5,v14,⟨⟩⟩
 kernel_rfl
theorem MT:UE tP 40 false [] bT ⟨cU,iH,sP⟩:=aYC D7 bC BL Tryz.func239 (c:=eA Tryz.f239) (by kernel_rfl) aZN (by kernel_rfl) (W7 (l:=[]) (by kernel_rfl) trivial) OO LM
theorem OZ:iG sL=[bT]:=by kernel_rfl
theorem RB:∀ x,a2M tP yR Tryz.f196 (aB2 Tryz.f196) xF xE sL [.agg TyH,.list TyE] [.list .str,.list .str] x=zF x:=by
 rintro⟨v0,v1,⟨⟩⟩
 kernel_rfl
abbrev HH:Ent:=⟨196,_,_,zF⟩
theorem RC:Ent.OK tP HH:=a4L bC D7 Tryz.func196 (c:=sL) (by kernel_rfl) (bV:=aB2 Tryz.f196) (lt:=xF) (rt:=xE) (W7 OZ ⟨aWI BL MD rfl MT,trivial⟩) RB
end Go.PM
namespace Go.PM
open Go Go.RowKit Go.Proofs
set_option maxHeartbeats 4000000
def mK(u0:Unit) (x:aK [.int .i64]) (A:List (List ByteArray)):Option ((List ByteArray)×List (List ByteArray)):=match x with
 | (v0,()) =>
  bif !(ltI v0 0) then bif !(ltI v0 v0) then bif !(ltI 1048576 v0) then aC (nX ((List.replicate v0.toNat 0),())) λy1 =>
  some (y1,A) else none else none else none
def IX:Code:=eA Tryz.f120
abbrev SB:Env:=ME [] [EA]
theorem aA0:aR tP SB:=nI trivial ⟨FH,trivial⟩
def QD(id:Nat):Option cG:=none
theorem X9:bF IX=[]:=by kernel_rfl
theorem aAD:∀ l x A,E0 tP SB Tryz.f120 (aN Tryz.f120) QD IX 110 .str .none [.int .i64] (.own 110 .str) l x A=mK l x A:=by
 rintro u0 ⟨v0,⟨⟩⟩ A
 kernel_rfl
theorem aDX:LX tP 120 110 .str .none [.int .i64] (.own 110 .str) mK:=yP bC aA0 Tryz.func120 (c:=IX) (by kernel_rfl) (bV:=aN Tryz.f120) (lt:=QD) (by rfl) (aO X9 trivial) aAD
abbrev IA:Shr:=(120,RL 0 (arH 110 .str .none [.int .i64] (.own 110 .str) mK))
theorem L5:vA tP IA:=rG (g:=120) (f:=arH 110 .str .none [.int .i64] (.own 110 .str) mK) (DC aDX)
abbrev gM:List (Nat×Kd):=[(1,.int .i64),(2,.int .i64),(7,.own 148 (.hnd 1)),(10,.list (.hnd 1)),(11,.int .i64),(12,.int .i64),(100000,.ar 110 .str)]
abbrev kH:List (Ex×List (Nat×Kd)):=[(.exit 0,[(2,.int .i64),(7,.own 148 (.hnd 1)),(100000,.ar 110 .str)])]
def fH(x:Shape.den gM):oS gM kH:=match x with
 | (v1,v2,v7,v10,v11,v12,v100000,()) =>
  bif ltI v12 v11 then
   bif aF v12 v10.length then aC (iM () (((v10.getD v12.toNat (0,0,0)).1,(v10.getD v12.toNat (0,0,0)).2.1,(v10.getD v12.toNat (0,0,0)).2.2),()) v100000) λy2 =>
   bif !(ltI y2.1.1 v1) then
    bif !(ltI v1 0) then bif Nat.ble v1.toNat ((v10.getD v12.toNat (0,0,0)).2.2) then bif Nat.ble ((v10.getD v12.toNat (0,0,0)).2.2) ((v10.getD v12.toNat (0,0,0)).2.2) then bif Nat.ble [((v10.getD v12.toNat (0,0,0)).1,((v10.getD v12.toNat (0,0,0)).2.1+v1.toNat),((v10.getD v12.toNat (0,0,0)).2.2-v1.toNat))].length 1048576 then bif Nat.ble v7.length 1048576 then some (.inl (v1,v2,(v7++[((v10.getD v12.toNat (0,0,0)).1,((v10.getD v12.toNat (0,0,0)).2.1+v1.toNat),((v10.getD v12.toNat (0,0,0)).2.2-v1.toNat))]),v10,v11,(aB .i64 (v12+1)),y2.2,())) else none else none else none else none else none
   else some (.inl (v1,v2,v7,v10,v11,(aB .i64 (v12+1)),y2.2,())) else none
  else some (.inr ((v2,v7,v100000,())))
def iR(x:Shape.den gM):oX kH:=bH fH (2^64) x
def dK(u0:Unit)(x:aK [.list (.hnd 1),.int .i64,.int .i64])(A:List (List ByteArray)):Option ((List (Nat×Nat×Nat))×List (List ByteArray)):=match x with
 | (v0,v1,v2,()) =>
  aC (iR (v1,v2,[],v0,(v0.length:Int),0,A,())) λz3 =>
  aC (cP z3.2.1 (z3.1,()) z3.2.2.1) λy4 =>
  some y4
def rA:Code:=eA Tryz.f122
abbrev xU:Env:=ME [] [LR,kX]
theorem CQ:aR tP xU:=nI trivial ⟨UD,lI,trivial⟩
def uQ:Code:=gQ rA 0
def vK(id:Nat):Option cG:=bif Nat.beq id 3 then some ⟨gM,kH,iR⟩ else none
theorem KH:∀ x,iK tP xU 30 (aN Tryz.f122) vK uQ gM kH x=fH x:=by
 rintro⟨v1,v2,v7,v10,v11,v12,v100000,⟨⟩⟩
 kernel_rfl
theorem MB:eG tP 30 uQ ⟨gM,kH,iR⟩:=eN CQ.callee bC.mixed _ (aO (l:=[]) (by kernel_rfl) trivial) KH
theorem M9:bF rA=[uQ]:=by kernel_rfl
theorem OS:∀ l x A,E0 tP xU Tryz.f122 (aN Tryz.f122) vK rA 110 .str .none [.list (.hnd 1),.int .i64,.int .i64] (.own 148 (.hnd 1)) l x A=dK l x A:=by
 rintro u0 ⟨v0,v1,v2,⟨⟩⟩ A
 kernel_rfl
theorem R6:LX tP 122 110 .str .none [.list (.hnd 1),.int .i64,.int .i64] (.own 148 (.hnd 1)) dK:=yP bC CQ Tryz.func122 (c:=rA) (by kernel_rfl) (bV:=aN Tryz.f122) (lt:=vK) (by rfl) (aO M9 ⟨eL (i:=3) (by kernel_rfl) rfl MB,trivial⟩) OS
abbrev xI:Shr:=(122,RL 0 (arH 110 .str .none [.list (.hnd 1),.int .i64,.int .i64] (.own 148 (.hnd 1)) dK))
theorem CW:vA tP xI:=rG (g:=122) (f:=arH 110 .str .none [.list (.hnd 1),.int .i64,.int .i64] (.own 148 (.hnd 1)) dK) (DC R6)
abbrev gF:List (Nat×Kd):=[(0,.list (.hnd 1)),(1,.int .i64),(5,.own 148 (.hnd 1)),(6,.int .i64),(7,.own 110 .str),(11,.int .i64),(12,.int .i64),(15,.list (.hnd 1)),(16,.int .i64),(17,.int .i64),(100000,.ar 110 .str)]
abbrev kJ:List (Ex×List (Nat×Kd)):=[(.exit 2,[(0,.list (.hnd 1)),(1,.int .i64),(5,.own 148 (.hnd 1)),(6,.int .i64),(7,.own 110 .str),(11,.int .i64),(12,.int .i64),(100000,.ar 110 .str)])]
def iX(x:Shape.den gF):oS gF kJ:=match x with
 | (v0,v1,v5,v6,v7,v11,v12,v15,v16,v17,v100000,()) =>
  bif ltI v17 v16 then
   bif aF v17 v15.length then bif aF v6 ((v15.getD v17.toNat (0,0,0)).2.2) then bif Nat.blt (((v15.getD v17.toNat (0,0,0)).2.1+v6.toNat)*1) (cS v100000 ((v15.getD v17.toNat (0,0,0)).1)) then bif Nat.ble [(dH v100000 ((v15.getD v17.toNat (0,0,0)).1) (((v15.getD v17.toNat (0,0,0)).2.1+v6.toNat)*1) ByteArray.empty)].length 1048576 then bif Nat.ble v7.length 1048576 then some (.inl (v0,v1,v5,v6,(v7++[(dH v100000 ((v15.getD v17.toNat (0,0,0)).1) (((v15.getD v17.toNat (0,0,0)).2.1+v6.toNat)*1) ByteArray.empty)]),v11,v12,v15,v16,(aB .i64 (v17+1)),v100000,())) else none else none else none else none else none
  else some (.inr ((v0,v1,v5,v6,v7,v11,v12,v100000,())))
def mH(x:Shape.den gF):oX kJ:=bH iX (2^64) x
abbrev gI:List (Nat×Kd):=[(0,.list (.hnd 1)),(1,.int .i64),(5,.own 148 (.hnd 1)),(11,.int .i64),(12,.int .i64),(100000,.ar 110 .str)]
abbrev kK:List (Ex×List (Nat×Kd)):=[(.exit 0,[(0,.list (.hnd 1)),(1,.int .i64),(5,.own 148 (.hnd 1)),(100000,.ar 110 .str)])]
def iP(x:Shape.den gI):oS gI kK:=match x with
 | (v0,v1,v5,v11,v12,v100000,()) =>
  bif ltI v12 v11 then
   aC (mH (v0,v1,v5,v12,[],v11,v12,v0,(v0.length:Int),0,v100000,())) λz3 =>
   aC (mK () (z3.2.1,()) z3.2.2.2.2.2.2.2.1) λy4 =>
   bif aF z3.2.2.2.1 y4.1.length then bif Nat.blt z3.2.2.2.1.toNat y4.1.length then bif Nat.ble (y4.1.set z3.2.2.2.1.toNat (ByteArray.mk #[49])).length 1048576 then bif Nat.ble z3.2.2.2.2.1.length 1048576 then bif Nat.ble [(y4.2.length,0,(z3.2.2.2.2.1++(y4.1.set z3.2.2.2.1.toNat (ByteArray.mk #[49]))).length)].length 1048576 then bif Nat.ble z3.2.2.1.length 1048576 then some (.inl (z3.1,z3.2.1,(z3.2.2.1++[(y4.2.length,0,(z3.2.2.2.2.1++(y4.1.set z3.2.2.2.1.toNat (ByteArray.mk #[49]))).length)]),z3.2.2.2.2.2.1,(aB .i64 (z3.2.2.2.2.2.2.1+1)),(y4.2++[(z3.2.2.2.2.1++(y4.1.set z3.2.2.2.1.toNat (ByteArray.mk #[49])))]),())) else none else none else none else none else none else none
  else some (.inr ((v0,v1,v5,v100000,())))
def iU(x:Shape.den gI):oX kK:=bH iP (2^64) x
def cH(u0:Unit)(x:aK [.list (.hnd 1),.int .i64])(A:List (List ByteArray)):Option ((List (Nat×Nat×Nat))×List (List ByteArray)):=match x with
 | (v0,v1,()) =>
  aC (iU (v0,v1,[],v1,0,A,())) λz5 =>
  aC (cP z5.2.2.1 ((aB .i64 ((z5.1.length:Int)+z5.2.1)),()) z5.2.2.2.1) λy6 =>
  aC (dK () (y6.1,(z5.1.length:Int),z5.2.1,()) y6.2) λy7 =>
  some y7
def rH:Code:=eA Tryz.f130
abbrev rL:Env:=ME [] [xI,kX,IA]
theorem tJ:aR tP rL:=nI trivial ⟨CW,lI,L5,trivial⟩
def lH:Code:=gQ rH 0
def uP:Code:=gQ lH 0
def p6(id:Nat):Option cG:=bif Nat.beq id 7 then some ⟨gF,kJ,mH⟩ else bif Nat.beq id 3 then some ⟨gI,kK,iU⟩ else none
theorem KI:∀ x,iK tP rL 51 (aN Tryz.f130) p6 uP gF kJ x=iX x:=by
 rintro⟨v0,v1,v5,v6,v7,v11,v12,v15,v16,v17,v100000,⟨⟩⟩
 kernel_rfl
theorem LU:eG tP 51 uP ⟨gF,kJ,mH⟩:=eN tJ.callee bC.mixed _ (aO (l:=[]) (by kernel_rfl) trivial) KI
theorem JY:∀ x,iK tP rL 51 (aN Tryz.f130) p6 lH gI kK x=iP x:=by
 rintro⟨v0,v1,v5,v11,v12,v100000,⟨⟩⟩
 kernel_rfl
theorem OC:bF lH=[uP]:=by kernel_rfl
theorem LF:eG tP 51 lH ⟨gI,kK,iU⟩:=eN tJ.callee bC.mixed _ (aO OC ⟨eL (i:=7) (by kernel_rfl) rfl LU,trivial⟩) JY
theorem M5:bF rH=[lH]:=by kernel_rfl
theorem N7:∀ l x A,E0 tP rL Tryz.f130 (aN Tryz.f130) p6 rH 110 .str .none [.list (.hnd 1),.int .i64] (.own 148 (.hnd 1)) l x A=cH l x A:=by
 rintro u0 ⟨v0,v1,⟨⟩⟩ A
 kernel_rfl
theorem RZ:LX tP 130 110 .str .none [.list (.hnd 1),.int .i64] (.own 148 (.hnd 1)) cH:=yP bC tJ Tryz.func130 (c:=rH) (by kernel_rfl) (bV:=aN Tryz.f130) (lt:=p6) (by rfl) (aO M5 ⟨eL (i:=3) (by kernel_rfl) rfl LF,trivial⟩) N7
abbrev xB:Shr:=(130,RL 0 (arH 110 .str .none [.list (.hnd 1),.int .i64] (.own 148 (.hnd 1)) cH))
theorem CL:vA tP xB:=rG (g:=130) (f:=arH 110 .str .none [.list (.hnd 1),.int .i64] (.own 148 (.hnd 1)) cH) (DC RZ)
def pK(x:aK [.agg TyH]):oK [.agg TyH,.int .i64]:=match x with
 | (v0,()) =>
  aC (mY (v0,())) λy1 =>
  bif !(eqI y1.1 0) then
   some ((0,[]),y1.1,())
  else aC (cN () (v0.2,()) []) λy2 =>
  aC (cH () (y2.1,v0.1,()) y2.2) λy3 =>
  aC (cH () (y3.1,v0.1,()) y3.2) λy4 =>
  aC (cO y4.1 (v0.1,()) y4.2) λy5 =>
  some (y5.1.1,y5.1.2.1,())
def IP:Code:=eA Tryz.f74
abbrev SY:Env:=ME [C8] [sV,xB,kZ]
theorem Y5:aR tP SY:=nI ⟨CS,trivial⟩ ⟨tM,CL,lP,trivial⟩
def PI(id:Nat):Option cG:=none
theorem YO:bF IP=[]:=by kernel_rfl
theorem aAT:∀ x,aCF tP SY Tryz.f74 (aN Tryz.f74) PI IP 110 .str _ _ x=pK x:=by
 rintro⟨v0,⟨⟩⟩
 kernel_rfl
abbrev CU:Ent:=⟨74,_,_,pK⟩
theorem DA:Ent.OK tP CU:=aH6 bC Y5 Tryz.func74 (c:=IP) (by kernel_rfl) (bV:=aN Tryz.f74) (lt:=PI) (aO YO trivial) aAT
def lO(x:aK [.agg TyH]):oK [.agg TyH,.int .i64]:=match x with
 | (v0,()) =>
  aC (mY (v0,())) λy1 =>
  bif !(eqI y1.1 0) then
   some ((0,[]),y1.1,())
  else aC (cN () (v0.2,()) []) λy2 =>
  aC (cH () (y2.1,v0.1,()) y2.2) λy3 =>
  aC (cO y3.1 (v0.1,()) y3.2) λy4 =>
  some (y4.1.1,y4.1.2.1,())
def DO:Code:=eA Tryz.f76
abbrev LV:Env:=ME [C8] [sV,xB,kZ]
theorem T9:aR tP LV:=nI ⟨CS,trivial⟩ ⟨tM,CL,lP,trivial⟩
def JJ(id:Nat):Option cG:=none
theorem TI:bF DO=[]:=by kernel_rfl
theorem U1:∀ x,aCF tP LV Tryz.f76 (aN Tryz.f76) JJ DO 110 .str _ _ x=lO x:=by
 rintro⟨v0,⟨⟩⟩
 kernel_rfl
abbrev wT:Ent:=⟨76,_,_,lO⟩
theorem zM:Ent.OK tP wT:=aH6 bC T9 Tryz.func76 (c:=DO) (by kernel_rfl) (bV:=aN Tryz.f76) (lt:=JJ) (aO TI trivial) U1
end Go.PM
namespace Go.Lz
def d2(a b:V)(x y:Nat):Int:=a x*b y-a y*b x
def d3(a b c:V)(x y z:Nat):Int:=d2 a b x y*c z-d2 a b x z*c y+d2 a b y z*c x
def d4(a b c d:V)(x y z u:Nat):Int:=d3 a b c x y z*d u-d3 a b c x y u*d z+d3 a b c x z u*d y-d3 a b c y z u*d x
structure Lin (f:V->Int):Prop where
 zero:f (λ_=>0)=0
 add:∀ u t m,f (λi=>u i+t*m i)=f u+t*f m
theorem Lin.sp {f:V->Int}(h:Lin f){k:Nat}{M:Nat->V}(hz:∀ j,j<k->f (M j)=0){v:V}(hv:Sp k M v):f v=0:=by
 induction hv with
 | zero=>exact h.zero
 | add j t hj _ ih=>rw[h.add,ih,hz j hj]; simp
theorem Lin.pick {f:V->Int} (h:Lin f) {k:Nat} {M:Nat->V} {u:V} {t:Int} (ht:t≠0) (hs:Sp k M (λi=>t*u i)) (hu:f u≠0):∃ j,j<k/\f (M j)≠0:=by
 refine Classical.byContradiction λhn=>?_
 have hz:∀ j,j<k->f (M j)=0:=λj hj=>Classical.byContradiction λh0=>hn ⟨j,hj,h0⟩
 have h1:=h.sp hz hs;have h2:=h.add (λ_=>0) t u;have e:(λi=>(0:Int)+t*u i)=λi=>t*u i:=by funext i; simp
 rw[e,h1,h.zero,Int.zero_add]at h2;rcases Int.mul_eq_zero.1 h2.symm with h3|h3
 ·exact ht h3
 ·exact hu h3
theorem L3 {x y:Int}{A B:Nat}(hx:x.natAbs<=A)(hy:y.natAbs<=B):(x*y).natAbs<=A*B:=by rw[Int.natAbs_mul]; exact Nat.mul_le_mul hx hy
theorem d2B {a b:V}{E:Nat}(ha:∀ x,(a x).natAbs<=E)(hb:∀ x,(b x).natAbs<=E)(x y:Nat):(d2 a b x y).natAbs<=2*(E*E):=by
 have h1:=L3 (ha x) (hb y);have h2:=L3 (ha y) (hb x);unfold d2;omega
theorem d3B {a b c:V}{E:Nat}(ha:∀ x,(a x).natAbs<=E)(hb:∀ x,(b x).natAbs<=E)(hc:∀ x,(c x).natAbs<=E)(x y z:Nat):(d3 a b c x y z).natAbs<=6*(E*E*E):=by
 have h1:=L3 (d2B ha hb x y) (hc z);have h2:=L3 (d2B ha hb x z) (hc y);have h3:=L3 (d2B ha hb y z) (hc x);have e:2*(E*E)*E=2*(E*E*E):=by grind
 rw[e]at h1 h2 h3;unfold d3;omega
theorem d4B {a b c d:V}{E:Nat}(ha:∀ x,(a x).natAbs<=E)(hb:∀ x,(b x).natAbs<=E)(hc:∀ x,(c x).natAbs<=E)(hd:∀ x,(d x).natAbs<=E)(x y z u:Nat):(d4 a b c d x y z u).natAbs<=24*(E*E*E*E):=by
 have h1:=L3 (d3B ha hb hc x y z) (hd u);have h2:=L3 (d3B ha hb hc x y u) (hd z);have h3:=L3 (d3B ha hb hc x z u) (hd y);have h4:=L3 (d3B ha hb hc y z u) (hd x);have e:6*(E*E*E)*E=6*(E*E*E*E):=by grind
 rw[e]at h1 h2 h3 h4;unfold d4;omega
def Dg(k:Nat) (M:Nat->V) (r:Nat) (p:Nat->Nat) (W:Nat):Prop :=
 ∃ (D:Int) (w:Nat->V),D≠0/\∀ j,j<r->Sp k M (w j)/\w j (p j)=D/\(∀ i,i<r->i≠j->w j (p i)=0)/\∀ x,(w j x).natAbs<=W
theorem Dg.mono {k k':Nat}{M M':Nat->V}{r:Nat}{p:Nat->Nat}{W:Nat}(h:Dg k M r p W)(hs:∀ v,Sp k M v->Sp k' M' v):Dg k' M' r p W:=by
 obtain⟨D,w,h0,h1⟩:=h;exact⟨D,w,h0,λj hj=>⟨hs _ (h1 j hj).1,(h1 j hj).2⟩⟩
section
variable {k:Nat} {M:Nat->V}
theorem Sp.a6R {a b:Nat}(ha:a<k)(hb:b<k)(s t:Int):Sp k M (λi=>s*M a i+t*M b i):=Sp.comb t (Sp.smul s (Sp.mem ha)) (Sp.mem hb)
theorem Sp.a4M {a b c:Nat}(ha:a<k)(hb:b<k)(hc:c<k)(s t u:Int):Sp k M (λi=>s*M a i+t*M b i+u*M c i):=Sp.comb u (Sp.a6R ha hb s t) (Sp.mem hc)
theorem Sp.a4K {a b c d:Nat}(ha:a<k)(hb:b<k)(hc:c<k)(hd:d<k)(s t u v:Int):Sp k M (λi=>s*M a i+t*M b i+u*M c i+v*M d i):=Sp.comb v (Sp.a4M ha hb hc s t u) (Sp.mem hd)
theorem aBZ {u:V} {p0:Nat} {t:Int} (ht:t≠0) (hs:Sp k M (λi=>t*u i)) (h0:u p0≠0):∃ a,a<k/\M a p0≠0 :=
 Lin.pick (f:=λv=>v p0) ⟨rfl,λ_ _ _=>rfl⟩ ht hs h0
theorem aHS {u:V}{a p0 p1:Nat}{t:Int}(ht:t≠0)(hs:Sp k M (λi=>t*u i))(h0:u p0=0)(h1:u p1≠0)(ha:M a p0≠0):∃ b,b<k/\d2 (M a) (M b) p0 p1≠0:=by
 refine Lin.pick (f:=λv=>d2 (M a) v p0 p1) ⟨by simp[d2],λu t m=>by simp only[d2]; grind⟩ ht hs ?_;simp only[d2,h0,Int.mul_zero,Int.sub_zero];exact λh=>(Int.mul_eq_zero.1 h).elim ha h1
theorem aST {u:V}{a b p0 p1 p2:Nat}{t:Int}(ht:t≠0)(hs:Sp k M (λi=>t*u i))(h0:u p0=0)(h1:u p1=0)(h2:u p2≠0)(ha:d2 (M a) (M b) p0 p1≠0):∃ c,c<k/\d3 (M a) (M b) (M c) p0 p1 p2≠0:=by
 refine Lin.pick (f:=λv=>d3 (M a) (M b) v p0 p1 p2) ⟨by simp[d3],λu t m=>by simp only[d3]; grind⟩ ht hs ?_;simp only[d3,h0,h1,Int.mul_zero,Int.sub_zero,Int.add_zero];exact λh=>(Int.mul_eq_zero.1 h).elim ha h2
theorem a0J {u:V}{a b c p0 p1 p2 p3:Nat}{t:Int}(ht:t≠0)(hs:Sp k M (λi=>t*u i))(h0:u p0=0)(h1:u p1=0)(h2:u p2=0)(h3:u p3≠0)(ha:d3 (M a) (M b) (M c) p0 p1 p2≠0):∃ d,d<k/\d4 (M a) (M b) (M c) (M d) p0 p1 p2 p3≠0:=by
 refine Lin.pick (f:=λv=>d4 (M a) (M b) (M c) v p0 p1 p2 p3) ⟨by simp[d4],λu t m=>by simp only[d4]; grind⟩ ht hs ?_;simp only[d4,h0,h1,h2,Int.mul_zero,Int.sub_zero,Int.add_zero];exact λh=>(Int.mul_eq_zero.1 h).elim ha h3
theorem a8J {p:Nat->Nat}{W a:Nat}(hB:∀ x,(M a x).natAbs<=W)(ha:a<k)(h:M a (p 0)≠0):Dg k M 1 p W :=
 ⟨_,λ_=>M a,h,λj hj=>by
  obtain rfl:j=0:=by omega
  exact⟨Sp.mem ha,rfl,λi hi hne=>by omega,hB⟩⟩
theorem a7X {p:Nat->Nat}{W a b:Nat}(hB:∀ x y,(d2 (M a) (M b) x y).natAbs<=W)(ha:a<k)(hb:b<k)(h:d2 (M a) (M b) (p 0) (p 1)≠0):Dg k M 2 p W:=by
 refine⟨_,λj=>if j=0 then (λx=>d2 (M a) (M b) x (p 1)) else λx=>d2 (M a) (M b) (p 0) x,h,λj hj=>?_⟩;rcases(show j=0\/j=1 by omega)with rfl|rfl
 ·refine⟨?_,rfl,λi hi hne=>?_,λx=>hB _ _⟩
  ·refine cast (congrArg (Sp k M) ?_) (Sp.a6R ha hb (M b (p 1)) (-(M a (p 1))))
   funext x
   simp only[if_true,d2]; grind
  ·obtain rfl:i=1:=by omega
   simp only[if_true,d2]; grind
 ·refine⟨?_,rfl,λi hi hne=>?_,λx=>hB _ _⟩
  ·refine cast (congrArg (Sp k M) ?_) (Sp.a6R ha hb (-(M b (p 0))) (M a (p 0)))
   funext x
   simp only[d2,Nat.one_ne_zero,if_false]; grind
  ·obtain rfl:i=0:=by omega
   simp only[d2,Nat.one_ne_zero,if_false]; grind
theorem a71 {p:Nat->Nat}{W a b c:Nat}(hB:∀ x y z,(d3 (M a) (M b) (M c) x y z).natAbs<=W)(ha:a<k)(hb:b<k)(hc:c<k)(h:d3 (M a) (M b) (M c) (p 0) (p 1) (p 2)≠0):Dg k M 3 p W:=by
 refine⟨_,λj=>if j=0 then (λx=>d3 (M a) (M b) (M c) x (p 1) (p 2)) else if j=1 then (λx=>d3 (M a) (M b) (M c) (p 0) x (p 2)) else λx=>d3 (M a) (M b) (M c) (p 0) (p 1) x,h,λj hj=>?_⟩;rcases(show j=0\/j=1\/j=2 by omega)with rfl|rfl|rfl
 ·refine⟨?_,rfl,λi hi hne=>?_,λx=>hB _ _ _⟩
  ·refine cast (congrArg (Sp k M) ?_) (Sp.a4M ha hb hc (d2 (M b) (M c) (p 1) (p 2)) (-(d2 (M a) (M c) (p 1) (p 2))) (d2 (M a) (M b) (p 1) (p 2)))
   funext x
   show _=d3 (M a) (M b) (M c) x (p 1) (p 2);simp only[d3,d2]; grind
  ·show (λx=>d3 (M a) (M b) (M c) x (p 1) (p 2)) (p i)=0;rcases(show i=1\/i=2 by omega)with rfl|rfl
   ·simp only[d3,d2]; grind
   ·simp only[d3,d2]; grind
 ·refine⟨?_,rfl,λi hi hne=>?_,λx=>hB _ _ _⟩
  ·refine cast (congrArg (Sp k M) ?_) (Sp.a4M ha hb hc (-(d2 (M b) (M c) (p 0) (p 2))) (d2 (M a) (M c) (p 0) (p 2)) (-(d2 (M a) (M b) (p 0) (p 2))))
   funext x
   show _=d3 (M a) (M b) (M c) (p 0) x (p 2);simp only[d3,d2]; grind
  ·show (λx=>d3 (M a) (M b) (M c) (p 0) x (p 2)) (p i)=0;rcases(show i=0\/i=2 by omega)with rfl|rfl
   ·simp only[d3,d2]; grind
   ·simp only[d3,d2]; grind
 ·refine⟨?_,rfl,λi hi hne=>?_,λx=>hB _ _ _⟩
  ·refine cast (congrArg (Sp k M) ?_) (Sp.a4M ha hb hc (d2 (M b) (M c) (p 0) (p 1)) (-(d2 (M a) (M c) (p 0) (p 1))) (d2 (M a) (M b) (p 0) (p 1)))
   funext x
   show _=d3 (M a) (M b) (M c) (p 0) (p 1) x;simp only[d3,d2]; grind
  ·show (λx=>d3 (M a) (M b) (M c) (p 0) (p 1) x) (p i)=0;rcases(show i=0\/i=1 by omega)with rfl|rfl
   ·simp only[d3,d2]; grind
   ·simp only[d3,d2]; grind
theorem a8C {p:Nat->Nat}{W a b c d:Nat}(hB:∀ x y z u,(d4 (M a) (M b) (M c) (M d) x y z u).natAbs<=W)(ha:a<k)(hb:b<k)(hc:c<k)(hd:d<k)(h:d4 (M a) (M b) (M c) (M d) (p 0) (p 1) (p 2) (p 3)≠0):Dg k M 4 p W:=by
 refine⟨_,λj=>if j=0 then (λx=>d4 (M a) (M b) (M c) (M d) x (p 1) (p 2) (p 3)) else if j=1 then (λx=>d4 (M a) (M b) (M c) (M d) (p 0) x (p 2) (p 3)) else if j=2 then (λx=>d4 (M a) (M b) (M c) (M d) (p 0) (p 1) x (p 3)) else λx=>d4 (M a) (M b) (M c) (M d) (p 0) (p 1) (p 2) x,h,λj hj=>?_⟩;rcases(show j=0\/j=1\/j=2\/j=3 by omega)with rfl|rfl|rfl|rfl
 ·refine⟨?_,rfl,λi hi hne=>?_,λx=>hB _ _ _ _⟩
  ·refine cast (congrArg (Sp k M) ?_) (Sp.a4K ha hb hc hd (d3 (M b) (M c) (M d) (p 1) (p 2) (p 3)) (-(d3 (M a) (M c) (M d) (p 1) (p 2) (p 3))) (d3 (M a) (M b) (M d) (p 1) (p 2) (p 3)) (-(d3 (M a) (M b) (M c) (p 1) (p 2) (p 3))))
   funext x
   show _=d4 (M a) (M b) (M c) (M d) x (p 1) (p 2) (p 3);simp only[d4,d3,d2]; grind
  ·show (λx=>d4 (M a) (M b) (M c) (M d) x (p 1) (p 2) (p 3)) (p i)=0;rcases(show i=1\/i=2\/i=3 by omega)with rfl|rfl|rfl
   ·simp only[d4,d3,d2]; grind
   ·simp only[d4,d3,d2]; grind
   ·simp only[d4,d3,d2]; grind
 ·refine⟨?_,rfl,λi hi hne=>?_,λx=>hB _ _ _ _⟩
  ·refine cast (congrArg (Sp k M) ?_) (Sp.a4K ha hb hc hd (-(d3 (M b) (M c) (M d) (p 0) (p 2) (p 3))) (d3 (M a) (M c) (M d) (p 0) (p 2) (p 3)) (-(d3 (M a) (M b) (M d) (p 0) (p 2) (p 3))) (d3 (M a) (M b) (M c) (p 0) (p 2) (p 3)))
   funext x
   show _=d4 (M a) (M b) (M c) (M d) (p 0) x (p 2) (p 3);simp only[d4,d3,d2]; grind
  ·show (λx=>d4 (M a) (M b) (M c) (M d) (p 0) x (p 2) (p 3)) (p i)=0;rcases(show i=0\/i=2\/i=3 by omega)with rfl|rfl|rfl
   ·simp only[d4,d3,d2]; grind
   ·simp only[d4,d3,d2]; grind
   ·simp only[d4,d3,d2]; grind
 ·refine⟨?_,rfl,λi hi hne=>?_,λx=>hB _ _ _ _⟩
  ·refine cast (congrArg (Sp k M) ?_) (Sp.a4K ha hb hc hd (d3 (M b) (M c) (M d) (p 0) (p 1) (p 3)) (-(d3 (M a) (M c) (M d) (p 0) (p 1) (p 3))) (d3 (M a) (M b) (M d) (p 0) (p 1) (p 3)) (-(d3 (M a) (M b) (M c) (p 0) (p 1) (p 3))))
   funext x
   show _=d4 (M a) (M b) (M c) (M d) (p 0) (p 1) x (p 3);simp only[d4,d3,d2]; grind
  ·show (λx=>d4 (M a) (M b) (M c) (M d) (p 0) (p 1) x (p 3)) (p i)=0;rcases(show i=0\/i=1\/i=3 by omega)with rfl|rfl|rfl
   ·simp only[d4,d3,d2]; grind
   ·simp only[d4,d3,d2]; grind
   ·simp only[d4,d3,d2]; grind
 ·refine⟨?_,rfl,λi hi hne=>?_,λx=>hB _ _ _ _⟩
  ·refine cast (congrArg (Sp k M) ?_) (Sp.a4K ha hb hc hd (-(d3 (M b) (M c) (M d) (p 0) (p 1) (p 2))) (d3 (M a) (M c) (M d) (p 0) (p 1) (p 2)) (-(d3 (M a) (M b) (M d) (p 0) (p 1) (p 2))) (d3 (M a) (M b) (M c) (p 0) (p 1) (p 2)))
   funext x
   show _=d4 (M a) (M b) (M c) (M d) (p 0) (p 1) (p 2) x;simp only[d4,d3,d2]; grind
  ·show (λx=>d4 (M a) (M b) (M c) (M d) (p 0) (p 1) (p 2) x) (p i)=0;rcases(show i=0\/i=1\/i=2 by omega)with rfl|rfl|rfl
   ·simp only[d4,d3,d2]; grind
   ·simp only[d4,d3,d2]; grind
   ·simp only[d4,d3,d2]; grind
def fac(E:Nat):Nat->Nat
 | 0=>1
 | 1=>E
 | 2=>2*(E*E)
 | 3=>6*(E*E*E)
 | _=>24*(E*E*E*E)
theorem aP9 {r E:Nat}{H:Nat->V}{p:Nat->Nat}(hr:r<=4)(hH:Hn r H p)(hs:∀ j,j<r->∃ t:Int,t≠0/\Sp k M (λi=>t*H j i))(hE:∀ j,j<k->∀ x,(M j x).natAbs<=E):Dg k M r p (fac E r):=by
 have pv:∀ j,j<r->H j (p j)≠0:=λj hj=>by have:=hH.pos j hj; omega
 have lo:∀ i j,i<j->j<r->H j (p i)=0:=λi j hij hj=>hH.low j hj _ (hH.inc i j hij hj)
 rcases(show r=0\/r=1\/r=2\/r=3\/r=4 by omega)with rfl|rfl|rfl|rfl|rfl
 ·exact⟨1,λ_ _=>0,by decide,λj hj=>by omega⟩
 ·obtain⟨t,ht,h0⟩:=hs 0 (by omega);obtain⟨a,ha,q0⟩:=aBZ ht h0 (pv 0 (by omega));exact a8J (hE a ha) ha q0
 ·obtain⟨t,ht,h0⟩:=hs 0 (by omega);obtain⟨a,ha,q0⟩:=aBZ ht h0 (pv 0 (by omega));obtain⟨t,ht,h0⟩:=hs 1 (by omega);obtain⟨b,hb,q1⟩:=aHS ht h0 (lo 0 1 (by omega) (by omega)) (pv 1 (by omega)) q0;exact a7X (d2B (hE a ha) (hE b hb)) ha hb q1
 ·obtain⟨t,ht,h0⟩:=hs 0 (by omega);obtain⟨a,ha,q0⟩:=aBZ ht h0 (pv 0 (by omega));obtain⟨t,ht,h0⟩:=hs 1 (by omega);obtain⟨b,hb,q1⟩:=aHS ht h0 (lo 0 1 (by omega) (by omega)) (pv 1 (by omega)) q0;obtain⟨t,ht,h0⟩:=hs 2 (by omega);obtain⟨c,hc,q2⟩:=aST ht h0 (lo 0 2 (by omega) (by omega)) (lo 1 2 (by omega) (by omega)) (pv 2 (by omega)) q1;exact a71 (d3B (hE a ha) (hE b hb) (hE c hc)) ha hb hc q2
 ·obtain⟨t,ht,h0⟩:=hs 0 (by omega);obtain⟨a,ha,q0⟩:=aBZ ht h0 (pv 0 (by omega));obtain⟨t,ht,h0⟩:=hs 1 (by omega);obtain⟨b,hb,q1⟩:=aHS ht h0 (lo 0 1 (by omega) (by omega)) (pv 1 (by omega)) q0;obtain⟨t,ht,h0⟩:=hs 2 (by omega);obtain⟨c,hc,q2⟩:=aST ht h0 (lo 0 2 (by omega) (by omega)) (lo 1 2 (by omega) (by omega)) (pv 2 (by omega)) q1;obtain⟨t,ht,h0⟩:=hs 3 (by omega);obtain⟨d,hd,q3⟩:=a0J ht h0 (lo 0 3 (by omega) (by omega)) (lo 1 3 (by omega) (by omega)) (lo 2 3 (by omega) (by omega)) (pv 3 (by omega)) q2
  exact a8C (d4B (hE a ha) (hE b hb) (hE c hc) (hE d hd)) ha hb hc hd q3
end
theorem Hn.zero {k:Nat} {M:Nat->V} {c:Nat->Nat} (h:Hn k M c) {v:V} (hv:Sp k M v) (hz:∀ i,i<k->v (c i)=0):v=λ_=>0 :=
 h.small hv λi hi=>by have:=h.pos i hi; rw[hz i hi]; constructor <;> omega
theorem Hn.aV6:∀ {k:Nat} {M:Nat->V} {c:Nat->Nat},Hn k M c->∀ {v:V},Sp k M v->∀ j,j<k->(∀ i,i<j->v (c i)=0)->M j (c j) ∣ v (c j)
 | 0,_,_,_,_,_,j,hj,_=>by omega
 | k+1,M,c,h,v,hv,j,hj,hz=>by
  obtain⟨t,u,hu,rfl⟩:=hv.first;have h0:=h.aI3 hu (Nat.le_refl _);cases j with
  | zero=>exact⟨t,by simp only[h0,Int.zero_add]; exact Int.mul_comm _ _⟩
  | succ j =>
   have h1:=hz 0 (by omega);have hp:=h.pos 0 (by omega);simp only[h0,Int.zero_add]at h1;have ht:t=0:=by
    rcases Int.mul_eq_zero.1 h1 with h2|h2
    ·exact h2
    ·omega
   subst ht;have:=Hn.aV6 h.tail hu j (by omega) λi hi=>by have:=hz (i+1) (by omega); simpa using this
   simpa using this
def sm(f:Nat->Int):Nat->Int
 | 0=>0
 | n+1=>sm f n+f n
theorem KY {f:Nat->Int}:∀ {n:Nat},(∀ i,i<n->f i=0)->sm f n=0
 | 0,_=>rfl
 | n+1,h=>by rw[sm,KY λi hi=>h i (by omega),h n (by omega)]; rfl
theorem TX {f:Nat->Int}{j:Nat}:∀ {n:Nat},j<n->(∀ i,i<n->i≠j->f i=0)->sm f n=f j
 | 0,h,_=>by omega
 | n+1,h,hz=>by
  rw[sm]
  by_cases hj:j=n
  ·subst hj;rw[KY λi hi=>hz i (by omega) (by omega),Int.zero_add]
  ·rw[TX (by omega) λi hi=>hz i (by omega),hz n (by omega) (Ne.symm hj),Int.add_zero]
theorem aU9 {f:Nat->Int}{B:Nat}:∀ {n:Nat},(∀ i,i<n->(f i).natAbs<=B)->(sm f n).natAbs<=n*B
 | 0,_=>by simp[sm]
 | n+1,h=>by
  have h1:=aU9 (n:=n) λi hi=>h i (by omega)
  have h2:=h n (by omega);rw[Nat.succ_mul];show (sm f n+f n).natAbs<=_;omega
theorem Sp.sm {k:Nat}{M:Nat->V}{w:Nat->V}{s:Nat->Int}:∀ {n:Nat},(∀ j,j<n->Sp k M (w j))->Sp k M (λx=>Lz.sm (λj=>s j*w j x) n)
 | 0,_=>Sp.zero
 | n+1,h=>Sp.comb (s n) (Sp.sm λj hj=>h j (by omega)) (h n (by omega))
theorem Hn.aFK {r W:Nat} {H:Nat->V} {p:Nat->Nat} (h:Hn r H p) (hd:Dg r H r p W):∀ i,i<r->∀ x,(H i x).natAbs<=r*W:=by
 obtain⟨D,w,hD,hw⟩:=hd;intro i hi x;have hz:(λy=>D*H i y-Lz.sm (λj=>H i (p j)*w j y) r)=λ_=>0:=by
  refine h.zero (Sp.sub (Sp.smul D (Sp.mem hi)) (Sp.sm λj hj=>(hw j hj).1)) λl hl=>?_
  rw[TX (f:=λj=>H i (p j)*w j (p l)) hl λj hj hne=>by rw[(hw j hj).2.2.1 l hl (Ne.symm hne),Int.mul_zero]];rw[(hw l hl).2.1];grind
 have h1:=congrFun hz x;have h2:D*H i x=Lz.sm (λj=>H i (p j)*w j x) r:=by
  have:D*H i x-Lz.sm (λj=>H i (p j)*w j x) r=0:=h1;omega
 have h3:(Lz.sm (λj=>H i (p j)*w j x) r).natAbs<=r*(D.natAbs*W):=by
  refine aU9 λj hj=>L3 ?_ ((hw j hj).2.2.2 x)
  have e1:H j (p j) ∣ D:=by
   have:=h.aV6 (hw j hj).1 j hj λl hl=>(hw j hj).2.2.1 l (by omega) (by omega)
   rwa[(hw j hj).2.1]at this
  have e2:=Int.natAbs_dvd_natAbs.2 e1;have e3:=Nat.le_of_dvd (by omega) e2;rcases Nat.lt_trichotomy i j with g|g|g
  ·have:=h.red i j g hj;omega
  ·subst g; exact e3
  ·rw[h.low i hi _ (h.inc j i g hi)]; simp
 rw[<- h2,Int.natAbs_mul]at h3;have e:r*(D.natAbs*W)=D.natAbs*(r*W):=by grind
 rw[e]at h3;exact Nat.le_of_mul_le_mul_left h3 (by omega)
end Go.Lz
namespace Go.PM
open Go Go.RowKit Go.Proofs Go.Lz
theorem aP6(a n:Nat)(v:V):Zr (a+n) v=Zr a v++Zr n (λy=>v (a+y)):=by
 unfold Zr;rw[List.range_add,List.map_append,List.map_map];rfl
theorem a6Y:Zn 1=ByteArray.mk #[49]:=by kernel_rfl
def aB0(J:Nat->Nat) (i o n:Nat) (A:List (List ByteArray)) (t:Nat):=bD ((J i,o,n),(),(n:Int),(t:Int),A,())
section
variable {o k n:Nat} {m:List (Nat×Nat×Nat)} {A:List (List ByteArray)} {J:Nat->Nat} {M:Nat->V}
theorem lT.ext (h:lT o k n m A J M)(R:List (List ByteArray)):lT o k n m (A++R) J M :=
 ⟨h.ml,λi hi=>by
  obtain⟨pre,h1,h2⟩:=h.at_ i hi;refine⟨pre,h1,?_⟩;have:=(List.getElem?_eq_some_iff.1 h2).1;rw[List.getElem?_append_left this]; exact h2,h.inj⟩
theorem lT.take (h:lT o k n m A J M){d:Nat}(hd:d<=k):lT o d n (m.take d) A J M :=
 ⟨by rw[h.ml,<- List.map_take,List.take_range,Nat.min_eq_left hd],λi hi=>h.at_ i (by omega),λi j hi hj=>h.inj i j (by omega) (by omega)⟩
theorem a2R(h:lT o k n m A J M) (hn:n<1048576) {i:Nat} (hi:i<k) :
  ∃ L:Int,iM () ((J i,o,n),()) A=some ((L,()),A)/\((L = -1/\∀ x,x<n->M i x=0)\/∃ x,x<n/\L=(x:Int)/\M i x≠0/\∀ y,y<x->M i y=0):=by
 have hg:∀ t,t<n->PM.cS A (J i)=o+n/\PM.dH A (J i) ((o+t)*1) ByteArray.empty=Zn (M i t):=λt ht=>⟨h.cS hi,by rw[Nat.mul_one]; exact h.dH hi ht⟩
 have step1:∀ t,t<n->∀ b,decide (M i t=0)=b->aB0 J i o n A t=(bif b then some (.inl ((J i,o,n),(),(n:Int),((t+1:Nat):Int),A,())) else some (.inr (.inl ((t:Int),A,())))):=λt ht b hb=>by
  have e1:ltI (t:Int) (n:Int)=true:=by rw[aD]; exact oT (by omega)
  have e2:aF (t:Int) n=true:=by rw[aM]; exact oT (by omega)
  have e3:((t:Nat):Int).toNat=t:=oN _;have e4:Nat.blt ((o+t)*1) (o+n)=true:=by rw[cD]; exact oT (by omega)
  have e5:=cC t (by omega);unfold aB0;simp only[bD,e1,e2,e3,(hg t ht).1,e4,(hg t ht).2,oC,wW,OL,aE,hb,e5];cases b <;> rfl
 by_cases hz:∀ x,x<n->M i x=0
 ·refine⟨-1,?_,.inl ⟨rfl,hz⟩⟩;have key:=aV (step:=bD) (N:=2^64) (λt=>((J i,o,n),(),(n:Int),(t:Int),A,())) n (.inr (A,())) (by omega) (λt ht=>step1 t ht true (oT (hz t ht))) (by
   have e1:ltI (n:Int) (n:Int)=false:=by rw[aD]; exact oF (by omega)
   simp only[bD,e1,oD])
  have key:cM ((J i,o,n),(),((n:Nat):Int),0,A,())=_:=key;simp only[iM,bQ,key,aE,mP]
 ·obtain⟨x,hx1,hx2,hx3⟩:∃ x,x<n/\M i x≠0/\∀ y,y<x->M i y=0:=by
   obtain⟨x0,h1⟩:=Classical.not_forall.1 hz;obtain⟨h1,h2⟩:=Classical.not_imp.1 h1;have:∀ N x0,x0<N->x0<n->M i x0≠0->∃ x,x<n/\M i x≠0/\∀ y,y<x->M i y=0:=by
    intro N
    induction N with
    | zero=>intro x0 h; omega
    | succ N ih =>
     intro x0 h0 h1 h2
     by_cases hy:∀ y,y<x0->M i y=0
     ·exact⟨x0,h1,h2,hy⟩
     ·obtain⟨y,g1⟩:=Classical.not_forall.1 hy;obtain⟨g1,g2⟩:=Classical.not_imp.1 g1;exact ih y (by omega) (by omega) g2
   exact this (x0+1) x0 (by omega) h1 h2
  refine⟨(x:Int),?_,.inr ⟨x,hx1,rfl,hx2,hx3⟩⟩;have key:=aV (step:=bD) (N:=2^64) (λt=>((J i,o,n),(),(n:Int),(t:Int),A,())) x (.inl ((x:Int),A,())) (by omega) (λt ht=>step1 t (by omega) true (oT (hx3 t ht))) (step1 x hx1 false (oF hx2));have key:cM ((J i,o,n),(),((n:Nat):Int),0,A,())=_:=key;simp only[iM,bQ,key,aE,HK]
theorem aS6(hn:n<1048576) (A:List (List ByteArray)):mK () ((n:Int),()) A=some (Zr n (λ_=>0),A):=by
 have e1:ltI (n:Int) 0=false:=by rw[aD]; exact oF (by omega)
 have e2:ltI (n:Int) (n:Int)=false:=by rw[aD]; exact oF (by omega)
 have e3:ltI 1048576 (n:Int)=false:=by rw[aD]; exact oF (by omega)
 have e4:((n:Nat):Int).toNat=n:=oN _;have e5:=aGG (List.replicate n 0) (by simp; omega) (λa ha=>by have:=List.eq_of_mem_replicate ha; omega);have e6:(List.replicate n (0:Int)).map Zn=Zr n (λ_=>0):=by
  unfold Zr;rw[List.map_replicate];refine List.ext_getElem (by simp) λi h1 h2=>by simp
 rw[e6]at e5;simp only[mK,e1,e2,e3,e4,e5,aE,Bool.not_false,oC]
theorem a07(M:Nat->V) {c:Nat} (hc:c<n):(List.range k).map (λi=>Zn (M i c))++(Zr n (λ_=>0)).set c (ByteArray.mk #[49])=Zr (k+n) (wide n k M c):=by
 rw[aP6]
 congr 1
 ·unfold Zr;refine List.map_congr_left λi hi=>?_
  have:=List.mem_range.1 hi;simp only[wide,this,if_true]
 ·refine List.ext_getElem (by simp[mQ]) λi h1 h2=>?_
  rw[mQ]at h2;rw[List.getElem_set];have e1:¬ k+i<k:=by omega
  by_cases hic:c=i
  ·subst hic;simp only[if_true,Zr,List.getElem_map,List.getElem_range,wide,e1,if_false];exact a6Y.symm
  ·have e2:¬ k+i=k+c:=by omega
   simp only[hic,if_false,Zr,List.getElem_map,List.getElem_range,wide,e1,e2]
theorem aYA(hk:k<1048576) (hn:n<1048576) (hkn:k+n<1048576) (h:lT o k n m A J M) :
  iU (m,(n:Int),[],(n:Int),0,A,())=some (m,(n:Int),(List.range n).map (λc=>(A.length+c,0,k+n)),A++(List.range n).map (λc=>Zr (k+n) (wide n k M c)),()):=by
 have key:=aV (step:=iP) (N:=2^64)
  (λt=>(m,(n:Int),(List.range t).map (λc=>(A.length+c,0,k+n)),(n:Int),(t:Int),A++(List.range t).map (λc=>Zr (k+n) (wide n k M c)),())) n
  (m,(n:Int),(List.range n).map (λc=>(A.length+c,0,k+n)),A++(List.range n).map (λc=>Zr (k+n) (wide n k M c)),()) (by omega) (λt ht=>?_) ?_
 ·have e0:A++(List.range 0).map (λc=>Zr (k+n) (wide n k M c))=A:=by simp
  have key:iU (m,(n:Int),[],(n:Int),0,A++(List.range 0).map (λc=>Zr (k+n) (wide n k M c)),())=_:=key;rwa[e0]at key
 ·generalize hR:(List.range t).map (λc=>Zr (k+n) (wide n k M c))=R;have h':=h.ext R;generalize hB:A++R=B at h' ⊢;have hlen:B.length=A.length+t:=by rw[<- hB,<- hR]; simp
  have col:=aV (step:=iX) (N:=2^64)
   (λs=>(m,(n:Int),(List.range t).map (λc=>(A.length+c,0,k+n)),(t:Int),(List.range s).map (λi=>Zn (M i t)),(n:Int),(t:Int),m,(m.length:Int),(s:Int),B,())) k
   (m,(n:Int),(List.range t).map (λc=>(A.length+c,0,k+n)),(t:Int),(List.range k).map (λi=>Zn (M i t)),(n:Int),(t:Int),B,()) (by omega) (λs hs=>?_) ?_
  ·have col:mH (m,(n:Int),(List.range t).map (λc=>(A.length+c,0,k+n)),(t:Int),[],(n:Int),(t:Int),m,(m.length:Int),0,B,())=_:=col;have e1:ltI (t:Int) (n:Int)=true:=by rw[aD]; exact oT (by omega)
   have e2:aF (t:Int) n=true:=by rw[aM]; exact oT (by omega)
   have e3:((t:Nat):Int).toNat=t:=oN _;have e4:Nat.blt t n=true:=by rw[cD]; exact oT ht
   have e5:(Zr n (λ_=>0)).length=n:=mQ _ _;have e6:Nat.ble n 1048576=true:=by rw[dM]; exact oT (by omega)
   have e7:Nat.ble ((List.range k).map (λi=>Zn (M i t))).length 1048576=true:=by rw[dM,List.length_map,List.length_range]; exact oT (by omega)
   have e8:=a07 (n:=n) (k:=k) M ht;have e9:(Zr (k+n) (wide n k M t)).length=k+n:=mQ _ _;have e10:Nat.ble [(A.length+t,0,k+n)].length 1048576=true:=rfl;have e11:Nat.ble ((List.range t).map (λc=>(A.length+c,0,k+n))).length 1048576=true:=by rw[dM,List.length_map,List.length_range]; exact oT (by omega)
   have e12:=cC t (by omega);have e13:(List.range t).map (λc=>(A.length+c,0,k+n))++[(A.length+t,0,k+n)]=(List.range (t+1)).map (λc=>(A.length+c,0,k+n)):=by rw[List.range_succ,List.map_append]; rfl
   have e14:B++[Zr (k+n) (wide n k M t)]=A++(List.range (t+1)).map (λc=>Zr (k+n) (wide n k M c)):=by rw[<- hB,<- hR,List.range_succ,List.map_append,List.append_assoc]; rfl
   have e15:((Zr n (λ_=>0)).set t (ByteArray.mk #[49])).length=n:=by rw[List.length_set,mQ]
   simp only[iP,e1,oC,col,aE,aS6 hn,e5,e2,e3,e4,e15,e6,e7,e8,e9,hlen,e10,e11,e12,e13,e14]
  ·have e1:ltI (s:Int) (k:Int)=true:=by rw[aD]; exact oT (by omega)
   have e2:aF (s:Int) k=true:=by rw[aM]; exact oT (by omega)
   have e3:((s:Nat):Int).toNat=s:=oN _;have e4:aF (t:Int) n=true:=by rw[aM]; exact oT (by omega)
   have e5:((t:Nat):Int).toNat=t:=oN _;have e6:Nat.blt ((o+t)*1) (o+n)=true:=by rw[cD]; exact oT (by omega)
   have e7:PM.dH B (J s) ((o+t)*1) ByteArray.empty=Zn (M s t):=by rw[Nat.mul_one]; exact h'.dH hs ht
   have e8:Nat.ble [Zn (M s t)].length 1048576=true:=rfl;have e9:Nat.ble ((List.range s).map (λi=>Zn (M i t))).length 1048576=true:=by rw[dM,List.length_map,List.length_range]; exact oT (by omega)
   have e10:=cC s (by omega);have e11:(List.range s).map (λi=>Zn (M i t))++[Zn (M s t)]=(List.range (s+1)).map (λi=>Zn (M i t)):=by rw[List.range_succ,List.map_append]; rfl
   simp only[iX,h.len,e1,e2,e3,h'.get hs,e4,e5,h'.cS hs,e6,e7,e8,e9,e10,e11,oC]
  ·have e1:ltI (k:Int) (k:Int)=false:=by rw[aD]; exact oF (by omega)
   simp only[iX,h.len,e1,oD]
 ·have e1:ltI (n:Int) (n:Int)=false:=by rw[aD]; exact oF (by omega)
  simp only[iP,e1,oD]
end
theorem Hn.split {d:Nat}{W:Nat->V}{p:Nat->Nat}(h:Hn d W p)(k:Nat):∃ j,j<=d/\(∀ i,i<j->p i<k)/\∀ i,j<=i->i<d->k<=p i:=by
 have:∀ t,t<=d->∃ j,j<=t/\(∀ i,i<j->p i<k)/\∀ i,j<=i->i<t->k<=p i:=by
  intro t
  induction t with
  | zero=>exact λ_=>⟨0,Nat.le_refl _,λi hi=>by omega,λi _ hi=>by omega⟩
  | succ t ih =>
   intro ht;obtain⟨j,h1,h2,h3⟩:=ih (by omega)
   by_cases hj:j=t
   ·by_cases hp:p t<k
    ·exact⟨t+1,by omega,λi hi=>by
      by_cases e:i=t
      ·subst e; exact hp
      ·exact h2 i (by omega),λi g1 g2=>by omega⟩
    ·exact⟨j,by omega,h2,λi g1 g2=>by
      have:i=t:=by omega
      subst this; omega⟩
   ·exact⟨j,by omega,h2,λi g1 g2=>by
     by_cases e:i=t
     ·subst e;have a1:=h3 j (Nat.le_refl _) (by omega);have a2:=h.inc j i (by omega) (by omega);omega
     ·exact h3 i g1 (by omega)⟩
 exact this d (Nat.le_refl _)
section
variable {o k n d:Nat} {m:List (Nat×Nat×Nat)} {A:List (List ByteArray)} {J:Nat->Nat} {M:Nat->V}
theorem lT.behind (h:lT o d (k+n) m A J M){j:Nat}(hj:j<=d):lT (o+k) (d-j) n ((List.range (d-j)).map λi=>(J (j+i),o+k,n)) A (λi=>J (j+i)) (λi y=>M (j+i) (k+y)) :=
 ⟨rfl,λi hi=>by
  obtain⟨pre,h1,h2⟩:=h.at_ (j+i) (by omega);refine⟨pre++Zr k (M (j+i)),by rw[List.length_append,mQ,h1],?_⟩;rw[h2,aP6,List.append_assoc],λa b ha hb e=>by
  have:=h.inj (j+a) (j+b) (by omega) (by omega) e;omega⟩
theorem aH4(hkn:k+n<1048576) (hd:d<1048576) (h:lT o d (k+n) m A J M) {p:Nat->Nat} (hH:Hn d M p) (hw:Wd d (k+n) M) {j:Nat} (hj:j<=d) (h1:∀ i,i<j->p i<k) (h2:∀ i,j<=i->i<d->k<=p i) :
  iR ((k:Int),(n:Int),[],m,(m.length:Int),0,A,())=some ((n:Int),(List.range (d-j)).map (λi=>(J (j+i),o+k,n)),A,()):=by
 have key:=aV (step:=fH) (N:=2^64)
  (λt=>((k:Int),(n:Int),(List.range (t-j)).map (λi=>(J (j+i),o+k,n)),m,(m.length:Int),(t:Int),A,())) d
  ((n:Int),(List.range (d-j)).map (λi=>(J (j+i),o+k,n)),A,()) (by omega) (λt ht=>?_) ?_
 ·have key:iR ((k:Int),(n:Int),(List.range (0-j)).map (λi=>(J (j+i),o+k,n)),m,(m.length:Int),0,A,())=_:=key;rwa[Nat.zero_sub]at key
 ·have e1:ltI (t:Int) (d:Int)=true:=by rw[aD]; exact oT (by omega)
  have e2:aF (t:Int) d=true:=by rw[aM]; exact oT (by omega)
  have e3:((t:Nat):Int).toNat=t:=oN _;obtain⟨L,q1,q2⟩:=a2R h (by omega) ht;have hp:=hH.pos t ht;have hpl:p t<k+n:=by
   refine Classical.byContradiction λhc=>?_
   have:=hw t ht (p t) (by omega);omega
  have hL:L=(p t:Int):=by
   rcases q2 with ⟨_,q3⟩|⟨x,g1,g2,g3,g4⟩
   ·have:=q3 (p t) hpl; omega
   ·rw[g2]
    congr 1
    rcases Nat.lt_trichotomy x (p t)with g|g|g
    ·exact absurd (hH.low t ht x g) g3
    ·exact g
    ·have:=g4 (p t) g; omega
  subst hL;have e4:=cC t (by omega)
  by_cases htj:t<j
  ·have e5:ltI (p t:Int) (k:Int)=true:=by rw[aD]; exact oT (by have:=h1 t htj; omega)
   have e6:t+1-j=0:=by omega
   have e7:t-j=0:=by omega
   simp only[fH,h.len,e1,e2,e3,h.get ht,q1,aE,e5,e4,e6,e7,oC,oD,Bool.not_true]
  ·have e5:ltI (p t:Int) (k:Int)=false:=by rw[aD]; exact oF (by have:=h2 t (by omega) ht; omega)
   have e6:ltI (k:Int) 0=false:=by rw[aD]; exact oF (by omega)
   have e7:((k:Nat):Int).toNat=k:=oN _;have e8:Nat.ble k (k+n)=true:=by rw[dM]; exact oT (by omega)
   have e9:Nat.ble (k+n) (k+n)=true:=by rw[dM]; exact oT (by omega)
   have e10:k+n-k=n:=by omega
   have e11:Nat.ble [(J t,o+k,n)].length 1048576=true:=rfl;have e12:Nat.ble ((List.range (t-j)).map (λi=>(J (j+i),o+k,n))).length 1048576=true:=by rw[dM,List.length_map,List.length_range]; exact oT (by omega)
   have e13:(List.range (t-j)).map (λi=>(J (j+i),o+k,n))++[(J t,o+k,n)]=(List.range (t+1-j)).map (λi=>(J (j+i),o+k,n)):=by
    rw[show t+1-j=(t-j)+1 by omega,List.range_succ,List.map_append];have:j+(t-j)=t:=by omega
    simp only[List.map_cons,List.map_nil,this]
   simp only[fH,h.len,e1,e2,e3,h.get ht,q1,aE,e5,e4,e6,e7,e8,e9,e10,e11,e12,e13,oC,oD,Bool.not_false]
 ·have e1:ltI (d:Int) (d:Int)=false:=by rw[aD]; exact oF (by omega)
  simp only[fH,h.len,e1,oD]
theorem Wd.wide (hw:Wd k n M):Wd n (k+n) (wide n k M):=λi hi x hx=>by
 have e1:¬ x<k:=by omega
 have e2:¬ x=k+i:=by omega
 simp only[Lz.wide,e1,e2,if_false]
theorem Big.wide {E:Nat}(hE:Big k n M E)(h1:1<=E):Big n (k+n) (wide n k M) E:=λi hi x hx=>by
 simp only[Lz.wide];split
 ·rename_i hk; exact hE x hk i hi
 ·split
  ·simpa using h1
  ·simp
theorem Z5 {W:Nat->V} {p:Nat->Nat} (hH:Hn d W p) (hs:Same n (wide n k M) d W) {j:Nat} (hj:j<=d) (h1:∀ i,i<j->p i<k) (h2:∀ i,j<=i->i<d->k<=p i) :
  Hn (d-j) (λi y=>W (j+i) (k+y)) (λi=>p (j+i)-k)/\kM n k M (d-j) (λi y=>W (j+i) (k+y)):=by
 refine⟨⟨λa b hab hb=>?_,λi hi x hx=>?_,λi hi=>?_,λa b hab hb=>?_⟩,aZF hH hs hj h1 h2⟩
 ·have g1:=h2 (j+a) (by omega) (by omega);have g2:=hH.inc (j+a) (j+b) (by omega) (by omega);show p (j+a)-k<p (j+b)-k;omega
 ·exact hH.low (j+i) (by omega) (k+x) (by have:x<p (j+i)-k:=hx; omega)
 ·have g1:=h2 (j+i) (by omega) (by omega);show 0<W (j+i) (k+(p (j+i)-k));rw[show k+(p (j+i)-k)=p (j+i)by omega];exact hH.pos (j+i) (by omega)
 ·have g1:=h2 (j+b) (by omega) (by omega);show 0<=W (j+a) (k+(p (j+b)-k))/\W (j+a) (k+(p (j+b)-k))<W (j+b) (k+(p (j+b)-k));rw[show k+(p (j+b)-k)=p (j+b)by omega];exact hH.red (j+a) (j+b) (by omega) (by omega)
theorem aOV {E T:Nat->Nat} (hk:k<1048576) (hn:n<1048576) (hkn:k+n<1048576) (h:lT o k n m A J M) (hw:Wd k n M) (hE:Big k n M (E 0)) (h1E:1<=E 0) (hb:Bds n (k+n) E T)
  (hK:∀ r K p,r<=n->Hn r K p->kM n k M r K->∃ E2 T2:Nat->Nat,Big r n K (E2 0)/\Bds r n E2 T2) :
  ∃ m' A' J' K p r,cH () (m,(n:Int),()) A=some (m',A')/\lT k r n m' A' J' K/\r<=n/\Hn r K p/\kM n k M r K/\Wd r n K:=by
 have hl:=aYA hk hn hkn h;have hL:lT 0 n (k+n) ((List.range n).map λc=>(A.length+c,0,k+n)) (A++(List.range n).map λc=>Zr (k+n) (wide n k M c)) (λc=>A.length+c) (wide n k M) :=
  ⟨rfl,λi hi=>⟨[],rfl,by
   rw[List.getElem?_append_right (by omega),show A.length+i-A.length=i by omega,List.getElem?_map,List.getElem?_range hi];rfl⟩,λi j _ _ e=>by omega⟩
 obtain⟨m1,A1,J1,W,d,p,g1,g2,g3,g4,g5,g6,g7⟩:=WN hn hkn hL hw.wide (hE.wide h1E) hb;obtain⟨j,b1,b2,b3⟩:=Hn.split g4 k;have hL2:=g3.take g2;have hwd:Wd d (k+n) W:=λi hi x hx=>g6 i (by omega) x hx
 have hbl:=aH4 hkn (by omega) hL2 g4 hwd b1 b2 b3;obtain⟨c1,c2⟩:=Z5 g4 g5 b1 b2 b3;have hL3:=hL2.behind b1;have hwK:Wd (d-j) n (λi y=>W (j+i) (k+y)):=λi hi x hx=>hwd (j+i) (by omega) (k+x) (by omega)
 obtain⟨E2,T2,k1,k2⟩:=hK _ _ _ (by omega) c1 c2;obtain⟨m2,A2,J2,K,r,p2,f1,f2,f3,f4,f5,f6,f7⟩:=WN (show d-j<1048576 by omega) hn hL3 hwK k1 k2;rw[Nat.zero_add]at f3;refine⟨m2.take r,A2,J2,K,p2,r,?_,f3.take f2,by omega,f4,?_,λi hi x hx=>f6 i (by omega) x hx⟩
 ·have e1:aB .i64 ((k:Int)+(n:Int))=((k+n:Nat):Int):=by rw[wrap64 (by omega) (by omega)]; omega
  have hml:=h.len;simp only[cH,hl,aE,hml,e1,g1,dK,hbl,f1]
 ·intro y;rw[<- f5 y];exact c2 y
end
theorem vU(n:Nat)(v:V):(Vr n v).length=n:=by simp[Vr]
theorem aG2 {n i:Nat}(v:V)(h:i<n):(Vr n v).getD i 0=v i:=by simp[Vr,List.getD,h]
theorem aHE {n:Nat}{v:V}{B:Nat}(h:∀ x,x<n->(v x).natAbs<=B):∀ a∈Vr n v,a.natAbs<=B:=by
 intro a ha;obtain⟨x,hx,rfl⟩:=List.mem_map.1 ha;exact h x (List.mem_range.1 hx)
def Mr(d n:Nat) (M:Nat->V):List (List Int):=(List.range d).map λi=>Vr n (M i)
theorem eJ(d n:Nat)(M:Nat->V):(Mr d n M).length=d:=by simp[Mr]
theorem Z8 {d n i:Nat}(M:Nat->V)(h:i<d)(z:List Int):(Mr d n M).getD i z=Vr n (M i):=by simp[Mr,List.getD,h]
theorem aDM {d n:Nat}{M:Nat->V}{r:List Int}(h:r∈Mr d n M):∃ i,i<d/\r=Vr n (M i):=by
 obtain⟨i,hi,rfl⟩:=List.mem_map.1 h;exact⟨i,List.mem_range.1 hi,rfl⟩
theorem a2J(r:List Int)(hl:r.length<1048576)(hr:∀ a∈r,a.natAbs<=1000000000):jY (r,(),())=some (false,()):=by
 have key:=aV (step:=eR) (N:=2^64) (λt=>(r,(),(r.length:Int),(t:Int),())) r.length (.inr ()) (by omega) (λt ht=>?_) ?_
 ·have key:bH eR (2^64) (r,(),(r.length:Int),0,())=some (.inr ()):=key;have e2:ltI (-1) 0=true:=by decide
  simp only[jY,qU,mS,key,aE,mP,e2,Bool.not_true]
 ·have e1:ltI (t:Int) (r.length:Int)=true:=by rw[aD]; exact oT (by omega)
  have e2:aF (t:Int) r.length=true:=by rw[aM]; exact oT (by omega)
  have e3:((t:Nat):Int).toNat=t:=oN _;have e4:r.getD t 0=r[t]:=by simp[List.getD,ht]
  have b:=hr r[t] (List.getElem_mem ht);have e5:ltI r[t] (-1000000000)=false:=by rw[aD]; exact oF (by omega)
  have e6:ltI 1000000000 r[t]=false:=by rw[aD]; exact oF (by omega)
  have e7:=cC t (by omega);simp only[eR,e1,e2,e3,e4,XD,e5,e6,aE,oC,oD,e7]
 ·have e1:ltI (r.length:Int) (r.length:Int)=false:=by rw[aD]; exact oF (by omega)
  simp only[eR,e1,oD]
theorem aLD(rows:List (List Int)){n:Nat}(hk:rows.length<=12)(hn:n<=12)(hlen:∀ r∈rows,r.length=n)(hr:∀ r∈rows,∀ a∈r,a.natAbs<=1000000000):N9 (rows,())=some (0,()):=by
 have key:=aV (step:=wQ) (N:=2^64) (λt=>(rows,rows,(rows.length:Int),(t:Int),())) rows.length (.inr ()) (by omega) (λt ht=>?_) ?_
 ·have key:bH wQ (2^64) (rows,rows,(rows.length:Int),0,())=some (.inr ()):=key;have e1:ltI 12 (rows.length:Int)=false:=by rw[aD]; exact oF (by omega)
  simp only[N9,II,e1,oD,key,aE,mP]
 ·have e1:ltI (t:Int) (rows.length:Int)=true:=by rw[aD]; exact oT (by omega)
  have e2:aF (t:Int) rows.length=true:=by rw[aM]; exact oT (by omega)
  have e3:((t:Nat):Int).toNat=t:=oN _;have e4:rows.getD t []=rows[t]:=by simp[List.getD,ht]
  have e4':rows.getD 0 []=rows[0]:=by simp[List.getD,show 0<rows.length by omega]
  have hm:=List.getElem_mem ht;have hm0:=List.getElem_mem (show 0<rows.length by omega);have e5:ltI 12 (rows[t].length:Int)=false:=by rw[aD,hlen _ hm]; exact oF (by omega)
  have e6:aF 0 rows.length=true:=by rw[aM]; exact oT (by omega)
  have e7:eqI (rows[t].length:Int) (rows[0].length:Int)=true:=by rw[iL,hlen _ hm,hlen _ hm0]; exact oT rfl
  have e8:=a2J rows[t] (by rw[hlen _ hm]; omega) (hr _ hm);have e9:=cC t (by omega);simp only[wQ,e1,e2,e3,e4,e4',e5,e6,e7,e8,e9,aE,Bool.not_true,oC,oD]
 ·have e1:ltI (rows.length:Int) (rows.length:Int)=false:=by rw[aD]; exact oF (by omega)
  simp only[wQ,e1,oD]
theorem a0Y {n c:Nat} {v:V} (hn:n<1048576) (hc:c<n) (hz:∀ x,x<c->v x=0) (hp:v c≠0):I0 (Vr n v,())=some ((c:Int),()):=by
 have hl:=vU n v;have key:=aV (step:=eS) (N:=2^64) (λt=>(Vr n v,(),(n:Int),(t:Int),())) c (.inl ((c:Int),())) (by omega) (λt ht=>?_) ?_
 ·have key:bH eS (2^64) (Vr n v,(),(n:Int),0,())=some (.inl ((c:Int),())):=key;simp only[I0,qW,mX,hl,key,aE,HK]
 ·have e1:ltI (t:Int) (n:Int)=true:=by rw[aD]; exact oT (by omega)
  have e2:aF (t:Int) n=true:=by rw[aM]; exact oT (by omega)
  have e3:((t:Nat):Int).toNat=t:=oN _;have e4:(Vr n v).getD t 0=0:=by rw[aG2 v (by omega)]; exact hz t ht
  have e5:eqI 0 0=true:=by decide
  have e9:=cC t (by omega);simp only[eS,hl,e1,e2,e3,e4,EM,e5,e9,aE,Bool.not_true,oC,oD]
 ·have e1:ltI (c:Int) (n:Int)=true:=by rw[aD]; exact oT (by omega)
  have e2:aF (c:Int) n=true:=by rw[aM]; exact oT (by omega)
  have e3:((c:Nat):Int).toNat=c:=oN _;have e4:eqI ((Vr n v).getD c 0) 0=false:=by rw[aG2 v hc,iL]; exact oF hp
  simp only[eS,hl,e1,e2,e3,EM,e4,aE,Bool.not_false,oC]
theorem Hn.aVK {d n:Nat} {M:Nat->V} {p:Nat->Nat} (h:Hn d M p) (hw:∀ i,i<d->∀ x,n<=x->M i x=0) {i:Nat} (hi:i<d):p i<n:=by
 rcases Nat.lt_or_ge (p i) n with g|g
 ·exact g
 ·have:=hw i hi _ g;have:=h.pos i hi;omega
theorem a2L {d n t:Nat}{M:Nat->V}{p:Nat->Nat}(h:Hn d M p)(hw:∀ i,i<d->∀ x,n<=x->M i x=0)(hd:d<1048576)(hn:n<1048576)(ht:t<d) :
  fB (Mr t n M,((p t:Int),Vr n (M t),()),())=some (false,()):=by
 have hl:=eJ t n M;have hp:=Hn.aVK h hw ht;have key:=aV (step:=cV) (N:=2^64) (λs=>(Mr t n M,((p t:Int),Vr n (M t),()),(t:Int),(s:Int),())) t (.inr ()) (by omega) (λs hs=>?_) ?_
 ·have key:bH cV (2^64) (Mr t n M,((p t:Int),Vr n (M t),()),(t:Int),0,())=some (.inr ()):=key;have e2:ltI (-1) 0=true:=by decide
  simp only[fB,lY,jP,hl,key,aE,mP,e2,Bool.not_true]
 ·have e1:ltI (s:Int) (t:Int)=true:=by rw[aD]; exact oT (by omega)
  have e2:aF (s:Int) t=true:=by rw[aM]; exact oT (by omega)
  have e3:∀ a:Nat,((a:Nat):Int).toNat=a:=λa=>oN _
  have e4:=Z8 (n:=n) M hs [];have e5:aF (p t:Int) n=true:=by rw[aM]; exact oT (by omega)
  obtain⟨r1,r2⟩:=h.red s t hs ht;have e6:ltI (M s (p t)) 0=false:=by rw[aD]; exact oF (by omega)
  have e7:ltI (M s (p t)) (M t (p t))=true:=by rw[aD]; exact oT r2
  have e9:=cC s (by omega);simp only[cV,hl,e1,e2,e3,e4,GK,vU,e5,aG2 _ hp,e6,e7,e9,aE,Bool.not_true,oC,oD]
 ·have e1:ltI (t:Int) (t:Int)=false:=by rw[aD]; exact oF (by omega)
  simp only[cV,e1,oD]
theorem aYI {d n:Nat}{M:Nat->V}{p:Nat->Nat}(h:Hn d M p)(hw:∀ i,i<d->∀ x,n<=x->M i x=0)(hd:d<1048576)(hn:n<1048576):F7 (Mr d n M,())=some (true,()):=by
 have hl:=eJ d n M;obtain⟨q,hq⟩:∃ q:Nat->Int,q=λt=>if t=0 then -1 else (p (t-1):Int):=⟨_,rfl⟩
 have key:=aV (step:=rQ) (N:=2^64) (λt=>(Mr d n M,q t,Mr d n M,(d:Int),(t:Int),())) d (.inr ()) (by omega) (λt ht=>?_) ?_
 ·have q0:q 0 = -1:=by rw[hq]; rfl
  rw[q0]at key;have key:bH rQ (2^64) (Mr d n M,-1,Mr d n M,(d:Int),0,())=some (.inr ()):=key;simp only[F7,DS,hl,key,aE,mP]
 ·have hp:=Hn.aVK h hw ht;have e1:ltI (t:Int) (d:Int)=true:=by rw[aD]; exact oT (by omega)
  have e2:aF (t:Int) d=true:=by rw[aM]; exact oT (by omega)
  have e3:∀ a:Nat,((a:Nat):Int).toNat=a:=λa=>oN _
  have e4:=Z8 (n:=n) M ht [];have e5:=a0Y hn hp (h.low t ht) (by have:=h.pos t ht; omega);have e6:ltI (q t) (p t:Int)=true:=by
   rw[aD,hq];dsimp only;split
   ·exact oT (by omega)
   ·have:=h.inc (t-1) t (by omega) ht;exact oT (by omega)
  have e7:aF (p t:Int) n=true:=by rw[aM]; exact oT (by omega)
  have e8:ltI (M t (p t)) 0=false:=by rw[aD]; exact oF (by have:=h.pos t ht; omega)
  have e9:ltI (t:Int) 0=false:=by rw[aD]; exact oF (by omega)
  have e10:Nat.ble 0 t=true:=rfl;have e11:Nat.ble t d=true:=by rw[dM]; exact oT (by omega)
  have e12:((Mr d n M).drop 0).take (t-0)=Mr t n M:=by
   rw[List.drop_zero,Nat.sub_zero];unfold Mr;rw[<- List.map_take,List.take_range,Nat.min_eq_left (by omega)]
  have e13:=a2L h hw hd hn ht;have e14:=cC t (by omega);have e15:q (t+1)=(p t:Int):=by rw[hq]; simp
  simp only[rQ,hl,e1,e2,e3,e4,e5,aE,e6,vU,e7,aG2 _ hp,e8,e9,e10,e11,e12,e13,e14,e15,Bool.not_true,Bool.not_false,oC,oD]
 ·have e1:ltI (d:Int) (d:Int)=false:=by rw[aD]; exact oF (by omega)
  simp only[rQ,e1,oD]
theorem ZT {d n:Nat} {M:Nat->V} {p:Nat->Nat} (h:Hn d M p) (hw:∀ i,i<d->∀ x,n<=x->M i x=0) (hd:d<=12) (hn:n<=12) (hM:∀ i,i<d->∀ x,x<n->(M i x).natAbs<=1000000000):mY (((n:Int),Mr d n M),())=some (0,()):=by
 have hlen:∀ r∈Mr d n M,r.length=n:=λr hr=>by
  obtain⟨i,_,rfl⟩:=aDM hr;exact vU _ _
 have hr:∀ r∈Mr d n M,∀ a∈r,a.natAbs<=1000000000:=λr hr=>by
  obtain⟨i,hi,rfl⟩:=aDM hr;exact aHE (hM i hi)
 have e0:eqI 0 0=true:=by decide
 have c1:=aSU (Mr d n M) (n:=n) (by rw[eJ]; exact hd) hn hlen hr;have c2:=aLD (Mr d n M) (n:=n) (by rw[eJ]; exact hd) hn hlen hr;simp only[mY,c1,aE,e0,Bool.not_true,oD,MY,c2,aYI h hw (by omega) (by omega),oC]
end Go.PM
namespace Go.Lz
theorem aVT {E d:Nat}(h:1<=E)(hd:d<=4):fac E d<=24*(E*E*E*E):=by
 have h1:E<=E*E:=Nat.le_mul_of_pos_left E h;have h2:E*E<=E*E*E:=Nat.le_mul_of_pos_right _ h;have h3:E*E*E<=E*E*E*E:=Nat.le_mul_of_pos_right _ h;rcases(show d=0\/d=1\/d=2\/d=3\/d=4 by omega)with rfl|rfl|rfl|rfl|rfl <;> simp only[fac] <;> omega
def un(q:Nat):V:=λc=>if c=q then 1 else 0
theorem aDW(b:V){q:Nat}:∀ {n:Nat},(q<n->dot n (un q) b=b q)/\(n<=q->dot n (un q) b=0)
 | 0=>⟨λh=>by omega,λ_=>rfl⟩
 | n+1=>by
  have ih:=aDW b (q:=q) (n:=n);refine⟨λh=>?_,λh=>?_⟩
  ·show dot n (un q) b+un q n*b n=b q
   by_cases hq:q=n
   ·subst hq;rw[ih.2 (Nat.le_refl _)];simp[un]
   ·rw[ih.1 (by omega)];have:¬ n=q:=λe=>hq e.symm
    simp[un,this]
  ·show dot n (un q) b+un q n*b n=0;have:¬ n=q:=by omega
   rw[ih.2 (by omega)];simp[un,this]
theorem aO8 {n:Nat}(b:V)(s:Nat->Int)(U:Nat->V):∀ d,dot n (λc=>sm (λj=>s j*U j c) d) b=sm (λj=>s j*dot n (U j) b) d
 | 0=>IB b n
 | d+1=>by
  show dot n (λc=>sm (λj=>s j*U j c) d+s d*U d c) b=_;rw[wO,aO8 b s U d];rfl
theorem aKP {n k r r2 d W:Nat} {M K S H:Nat->V} {p:Nat->Nat} (hw:∀ i,i<k->∀ x,n<=x->M i x=0) (hH:Hn d H p) (hs:Same k M d H) (hp:∀ j,j<d->p j<n) (hd:Dg k M d p W) (h1:kM n k M r K) (h2:kM n r K r2 S) :
  ∃ D:Int,D≠0/\∀ v,Sp r2 S v->Sp k M (λx=>D*v x):=by
 obtain⟨D,w,h0,hw'⟩:=hd;refine⟨D,h0,λv hv=>?_⟩;have hwid:∀ {b:V},Sp k M b->∀ x,n<=x->b x=0:=λhb x hx=>Sp.lM (λj hj=>hw j hj x hx) hb
 -- what the rows of the lattice are
 have comb:∀ b,Sp k M b->∀ x,D*b x=sm (λj=>b (p j)*w j x) d:=λb hb x=>by
  have hz:(λy=>D*b y-sm (λj=>b (p j)*w j y) d)=λ_=>0:=by
   refine hH.zero ((hs _).1 (Sp.sub (Sp.smul D hb) (Sp.sm λj hj=>(hw' j hj).1))) λl hl=>?_
   rw[TX (f:=λj=>b (p j)*w j (p l)) hl λj hj hne=>by rw[(hw' j hj).2.2.1 l hl (Ne.symm hne),Int.mul_zero]];rw[(hw' l hl).2.1];grind
  have:=congrFun hz x;have:D*b x-sm (λj=>b (p j)*w j x) d=0:=this;omega
 have main:∀ x,D*v x=sm (λj=>v (p j)*w j x) d:=λx=>by
  by_cases hx:x<n
  ·-- a row of the kernel
   have hy:∀ b:V,dot n (λc=>sm (λj=>-(w j x)*un (p j) c) d+D*un x c) b=D*b x-sm (λj=>b (p j)*w j x) d:=λb=>by
    rw[wO,aO8,(aDW b).1 hx];have:sm (λj=>-(w j x)*dot n (un (p j)) b) d = -(sm (λj=>b (p j)*w j x) d):=by
     have:∀ e,e<=d->sm (λj=>-(w j x)*dot n (un (p j)) b) e = -(sm (λj=>b (p j)*w j x) e):=by
      intro e
      induction e with
      | zero=>exact λ_=>rfl
      | succ e ih =>
       intro he;rw[sm,sm,ih (by omega),(aDW b).1 (hp e (by omega))];grind
     exact this d (Nat.le_refl _)
    rw[this];omega
   have hk:Ker n k M (λc=>sm (λj=>-(w j x)*un (p j) c) d+D*un x c):=by
    refine⟨λc hc=>?_,λi hi=>?_⟩
    ·have e1:¬ c=x:=by omega
     show sm (λj=>-(w j x)*un (p j) c) d+D*un x c=0;rw[KY λj hj=>by
      have:=hp j hj;have e2:¬ c=p j:=by omega
      simp[un,e2]]
     simp[un,e1]
    ·rw[hy,comb _ (Sp.mem hi) x]; omega
   have hv2:=(h2 v).1 hv;have:=hv2.span ((h1 _).2 hk);rw[n7,hy]at this;omega
  ·have g1:=((h2 v).1 hv).1 x (by omega);rw[g1,KY λj hj=>by rw[hwid (hw' j hj).1 x (by omega),Int.mul_zero],Int.mul_zero]
 have:=Sp.sm (k:=k) (M:=M) (w:=w) (s:=λj=>v (p j)) (n:=d) λj hj=>(hw' j hj).1
 refine cast (congrArg _ ?_) this
 funext x
 exact(main x).symm
theorem d2W {a b:V}{A B:Nat}(ha:∀ x,(a x).natAbs<=A)(hb:∀ x,(b x).natAbs<=B)(x y:Nat):(d2 a b x y).natAbs<=2*(A*B):=by
 have h1:=L3 (ha x) (hb y);have h2:=L3 (ha y) (hb x);unfold d2;omega
theorem sg3 {x y z s t u:Int}{B:Nat}(b1:x.natAbs<=B)(b2:y.natAbs<=B)(b3:z.natAbs<=B)(hs:s=1\/s = -1)(ht:t=1\/t = -1)(hu:u=1\/u = -1):(s*y+t*z).natAbs+(u*z-s*x).natAbs+(t*x+u*y).natAbs<=4*B:=by rcases hs with rfl|rfl <;> rcases ht with rfl|rfl <;> rcases hu with rfl|rfl <;> (simp only[Int.one_mul,Int.neg_mul]; omega)
theorem m3s {a b:V} {A B:Nat} (ha:∀ x,(a x).natAbs<=A) (hb:∀ x,(b x).natAbs<=B) (x y z:Nat) {s t u:Int} (hs:s=1\/s = -1) (ht:t=1\/t = -1) (hu:u=1\/u = -1) :
  (s*d2 a b x y+t*d2 a b x z+u*d2 a b y z).natAbs<=4*(A*B):=by
 have e:s*d2 a b x y+t*d2 a b x z+u*d2 a b y z=a x*(s*b y+t*b z)+a y*(u*b z-s*b x)-a z*(t*b x+u*b y):=by simp only[d2]; grind
 have h1:=L3 (ha x) (Nat.le_refl (s*b y+t*b z).natAbs);have h2:=L3 (ha y) (Nat.le_refl (u*b z-s*b x).natAbs);have h3:=L3 (ha z) (Nat.le_refl (t*b x+u*b y).natAbs);have h4:=sg3 (hb x) (hb y) (hb z) hs ht hu;have h5:=Nat.mul_le_mul_left A h4;rw[Nat.mul_add,Nat.mul_add]at h5;have e2:A*(4*B)=4*(A*B):=by grind
 rw[e];omega
theorem m3 {a b:V}{A B:Nat}(ha:∀ x,(a x).natAbs<=A)(hb:∀ x,(b x).natAbs<=B)(x y z:Nat):(d2 a b x y).natAbs+(d2 a b x z).natAbs+(d2 a b y z).natAbs<=4*(A*B):=by
 have sg:∀ v:Int,∃ s:Int,(s=1\/s = -1)/\s*v=(v.natAbs:Int):=λv=>by
  rcases(by omega:0<=v\/v<0)with h|h
  ·exact⟨1,.inl rfl,by omega⟩
  ·exact⟨-1,.inr rfl,by omega⟩
 obtain⟨s,hs,e1⟩:=sg (d2 a b x y);obtain⟨t,ht,e2⟩:=sg (d2 a b x z);obtain⟨u,hu,e3⟩:=sg (d2 a b y z);have:=m3s ha hb x y z hs ht hu;rw[e1,e2,e3]at this;omega
theorem d3W {a b c:V}{A B C:Nat}(ha:∀ x,(a x).natAbs<=A)(hb:∀ x,(b x).natAbs<=B)(hc:∀ x,(c x).natAbs<=C)(x y z:Nat):(d3 a b c x y z).natAbs<=4*(A*B*C):=by
 have h:=Nat.mul_le_mul_right C (m3 ha hb x y z);have h1:=L3 (Nat.le_refl (d2 a b x y).natAbs) (hc z);have h2:=L3 (Nat.le_refl (d2 a b x z).natAbs) (hc y);have h3:=L3 (Nat.le_refl (d2 a b y z).natAbs) (hc x);rw[Nat.add_mul,Nat.add_mul]at h;have e:4*(A*B)*C=4*(A*B*C):=by grind
 unfold d3;omega
theorem d4W {a b c d:V}{A B C D:Nat}(ha:∀ x,(a x).natAbs<=A)(hb:∀ x,(b x).natAbs<=B)(hc:∀ x,(c x).natAbs<=C)(hd:∀ x,(d x).natAbs<=D)(x y z u:Nat):(d4 a b c d x y z u).natAbs<=16*(A*B*C*D):=by
 have h1:=L3 (d3W ha hb hc x y z) (hd u);have h2:=L3 (d3W ha hb hc x y u) (hd z);have h3:=L3 (d3W ha hb hc x z u) (hd y);have h4:=L3 (d3W ha hb hc y z u) (hd x);have e:4*(A*B*C)*D=4*(A*B*C*D):=by grind
 rw[e]at h1 h2 h3 h4;unfold d4;omega
def aJW(k:Nat) (B:Nat->Nat) (W:Nat):Nat->Prop
 | 0=>1<=W
 | 1=>∀ a,a<k->B a<=W
 | 2=>∀ a b,a<k->b<k->a≠b->2*(B a*B b)<=W
 | 3=>∀ a b c,a<k->b<k->c<k->a≠b->a≠c->b≠c->4*(B a*B b*B c)<=W
 | _=>∀ a b c d,a<k->b<k->c<k->d<k->a≠b->a≠c->a≠d->b≠c->b≠d->c≠d->16*(B a*B b*B c*B d)<=W
def a06(k:Nat) (M:Nat->V) (r:Nat) (p:Nat->Nat):Prop:=∀ i,i<r->∃ u:V,(∃ t:Int,t≠0/\Sp k M (λx=>t*u x))/\(∀ l,l<i->u (p l)=0)/\u (p i)≠0
theorem Hn.chain {r k:Nat}{H M:Nat->V}{p:Nat->Nat}(hH:Hn r H p)(hs:∀ j,j<r->∃ t:Int,t≠0/\Sp k M (λi=>t*H j i)):a06 k M r p:=λi hi =>
 ⟨H i,hs i hi,λl hl=>hH.low i hi _ (hH.inc l i hl hi),by have:=hH.pos i hi; omega⟩
section
variable {k:Nat} {M:Nat->V}
theorem XG {r W:Nat}{p:Nat->Nat}{B:Nat->Nat}(hr:r<=4)(hC:a06 k M r p)(hE:∀ j,j<k->∀ x,(M j x).natAbs<=B j)(hP:aJW k B W r) :
  ∃ (D:Int) (w:Nat->V),D≠0/\D.natAbs<=W/\∀ j,j<r->Sp k M (w j)/\w j (p j)=D/\(∀ i,i<r->i≠j->w j (p i)=0)/\∀ x,(w j x).natAbs<=W:=by
 have fin:0<r->Dg k M r p W->∃ (D:Int) (w:Nat->V),D≠0/\D.natAbs<=W/\∀ j,j<r->Sp k M (w j)/\w j (p j)=D/\(∀ i,i<r->i≠j->w j (p i)=0)/\∀ x,(w j x).natAbs<=W:=λh0 ⟨D,w,h1,h2⟩ =>
  ⟨D,w,h1,by have:=(h2 0 h0).2.2.2 (p 0); rwa[(h2 0 h0).2.1]at this,h2⟩
 have ne2:∀ {a b:Nat} {x y:Nat},d2 (M a) (M b) x y≠0->a≠b:=λh e=>h (by subst e; simp only[d2]; grind)
 have ne3:∀ {a b c:Nat} {x y z:Nat},d3 (M a) (M b) (M c) x y z≠0->a≠b/\a≠c/\b≠c:=λh=>⟨λe=>h (by subst e; simp only[d3,d2]; grind),λe=>h (by subst e; simp only[d3,d2]; grind),λe=>h (by subst e; simp only[d3,d2]; grind)⟩
 rcases(show r=0\/r=1\/r=2\/r=3\/r=4 by omega)with rfl|rfl|rfl|rfl|rfl
 ·have:1<=W:=hP;exact⟨1,λ_ _=>0,by decide,this,λj hj=>by omega⟩
 ·obtain⟨u,⟨t,ht,h0⟩,z0,n0⟩:=hC 0 (by omega);obtain⟨a,ha,q0⟩:=aBZ ht h0 n0;exact fin (by omega) (a8J (λx=>Nat.le_trans (hE a ha x) (hP a ha)) ha q0)
 ·obtain⟨u,⟨t,ht,h0⟩,z0,n0⟩:=hC 0 (by omega);obtain⟨a,ha,q0⟩:=aBZ ht h0 n0;obtain⟨u,⟨t,ht,h0⟩,z1,n1⟩:=hC 1 (by omega);obtain⟨b,hb,q1⟩:=aHS ht h0 (z1 0 (by omega)) n1 q0;exact fin (by omega) (a7X (λx y=>Nat.le_trans (d2W (hE a ha) (hE b hb) x y) (hP a b ha hb (ne2 q1))) ha hb q1)
 ·obtain⟨u,⟨t,ht,h0⟩,z0,n0⟩:=hC 0 (by omega);obtain⟨a,ha,q0⟩:=aBZ ht h0 n0;obtain⟨u,⟨t,ht,h0⟩,z1,n1⟩:=hC 1 (by omega);obtain⟨b,hb,q1⟩:=aHS ht h0 (z1 0 (by omega)) n1 q0;obtain⟨u,⟨t,ht,h0⟩,z2,n2⟩:=hC 2 (by omega);obtain⟨c,hc,q2⟩:=aST ht h0 (z2 0 (by omega)) (z2 1 (by omega)) n2 q1;obtain⟨a1,a2,a3⟩:=ne3 q2;exact fin (by omega) (a71 (λx y z=>Nat.le_trans (d3W (hE a ha) (hE b hb) (hE c hc) x y z) (hP a b c ha hb hc a1 a2 a3)) ha hb hc q2)
 ·obtain⟨u,⟨t,ht,h0⟩,z0,n0⟩:=hC 0 (by omega);obtain⟨a,ha,q0⟩:=aBZ ht h0 n0;obtain⟨u,⟨t,ht,h0⟩,z1,n1⟩:=hC 1 (by omega);obtain⟨b,hb,q1⟩:=aHS ht h0 (z1 0 (by omega)) n1 q0;obtain⟨u,⟨t,ht,h0⟩,z2,n2⟩:=hC 2 (by omega);obtain⟨c,hc,q2⟩:=aST ht h0 (z2 0 (by omega)) (z2 1 (by omega)) n2 q1;obtain⟨u,⟨t,ht,h0⟩,z3,n3⟩:=hC 3 (by omega);obtain⟨d,hd,q3⟩:=a0J ht h0 (z3 0 (by omega)) (z3 1 (by omega)) (z3 2 (by omega)) n3 q2
  obtain⟨a1,a2,a3⟩:=ne3 q2;have ne4:a≠d/\b≠d/\c≠d:=⟨λe=>q3 (by subst e; simp only[d4,d3,d2]; grind),λe=>q3 (by subst e; simp only[d4,d3,d2]; grind),λe=>q3 (by subst e; simp only[d4,d3,d2]; grind)⟩;exact fin (by omega) (a8C (λx y z u=>Nat.le_trans (d4W (hE a ha) (hE b hb) (hE c hc) (hE d hd) x y z u) (hP a b c d ha hb hc hd a1 a2 ne4.1 a3 ne4.2.1 ne4.2.2)) ha hb hc hd q3)
end
theorem aR0 {k r W:Nat}{M:Nat->V}{p:Nat->Nat}(h:∃ (D:Int) (w:Nat->V),D≠0/\D.natAbs<=W/\∀ j,j<r->Sp k M (w j)/\w j (p j)=D/\(∀ i,i<r->i≠j->w j (p i)=0)/\∀ x,(w j x).natAbs<=W):Dg k M r p W:=by
 obtain⟨D,w,h1,_,h2⟩:=h;exact⟨D,w,h1,h2⟩
theorem vX {f g:Nat->Int}:∀ {n:Nat},(∀ i,i<n->f i=g i)->sm f n=sm g n
 | 0,_=>rfl
 | n+1,h=>by rw[sm,sm,vX λi hi=>h i (by omega),h n (by omega)]
theorem a1G(f g:Nat->Int):∀ n,sm (λi=>f i+g i) n=sm f n+sm g n
 | 0=>rfl
 | n+1=>by rw[sm,sm,sm,a1G f g n]; omega
theorem aPN(t:Int)(f:Nat->Int):∀ n,sm (λi=>t*f i) n=t*sm f n
 | 0=>by simp[sm]
 | n+1=>by rw[sm,sm,aPN t f n,Int.mul_add]
def skip(j i:Nat):Nat:=if i<j then i else i+1
theorem aZ8(j i:Nat):(if skip j i<j then skip j i else skip j i-1)=i:=by
 by_cases h:i<j
 ·simp only[skip,h,if_true]
 ·have:¬ i+1<j:=by omega
  simp only[skip,h,if_false,this];omega
theorem aXE(f:Nat->Int)(j:Nat):∀ n,j<=n->sm f (n+1)=sm (λi=>f (skip j i)) n+f j
 | 0,h=>by
  obtain rfl:j=0:=by omega
  rfl
 | n+1,h=>by
  by_cases hj:j=n+1
  ·subst hj;rw[sm,vX (g:=λi=>f (skip (n+1) i)) λi hi=>by
    have:i<n+1:=hi;simp only[skip,this,if_true]]
  ·have e:skip j n=n+1:=by
    have:¬ n<j:=by omega
    simp only[skip,this,if_false]
   rw[sm,aXE f j n (by omega),sm,e];omega
theorem dep:∀ (k:Nat) (M u:Nat->V),(∀ i,i<=k->Sp k M (u i))->∃ c:Nat->Int,(∃ i,i<=k/\c i≠0)/\∀ x,sm (λi=>c i*u i x) (k+1)=0
 | 0,M,u,h=>⟨λ_=>1,⟨0,by omega,by decide⟩,λx=>by
  have:u 0 x=0:=Sp.lM (λj hj=>by omega) (h 0 (by omega));simp[sm,this]⟩
 | k+1,M,u,h=>by
  have hc:∀ i,∃ tv:Int×V,i<=k+1->Sp k (λj=>M (j+1)) tv.2/\u i=λx=>tv.2 x+tv.1*M 0 x:=λi=>by
   by_cases hi:i<=k+1
   ·obtain⟨t,v,h1,h2⟩:=(h i hi).first;exact⟨(t,v),λ_=>⟨h1,h2⟩⟩
   ·exact⟨(0,λ_=>0),λg=>absurd g hi⟩
  obtain⟨tv,hc⟩:=Classical.axiomOfChoice hc
  by_cases hj:∃ j,j<=k+1/\(tv j).1≠0
  ·obtain⟨j,hj,ht⟩:=hj;have hsk:∀ i,i<=k->skip j i<=k+1:=λi hi=>by unfold skip; split <;> omega
   obtain⟨c,⟨i0,hi0,hc0⟩,hs⟩:=dep k (λj=>M (j+1)) (λi x=>(tv j).1*u (skip j i) x-(tv (skip j i)).1*u j x) λi hi=>by
    obtain⟨a1,a2⟩:=hc (skip j i) (hsk i hi);obtain⟨b1,b2⟩:=hc j hj;have:=Sp.sub (Sp.smul (tv j).1 a1) (Sp.smul (tv (skip j i)).1 b1);refine cast (congrArg _ ?_) this
    funext x
    rw[a2,b2];grind
   -- back
   have hun:∀ i,skip j i≠j:=λi=>by unfold skip; split <;> omega
   refine⟨λm=>if m=j then -(sm (λi=>c i*(tv (skip j i)).1) (k+1)) else c (if m<j then m else m-1)*(tv j).1,⟨skip j i0,hsk i0 hi0,?_⟩,λx=>?_⟩
   ·have e:=aZ8 j i0;simp only[hun i0,if_false,e];exact Int.mul_ne_zero hc0 ht
   ·rw[aXE _ j (k+1) hj];have e1:∀ i,(λi=>(if skip j i=j then -(sm (λi=>c i*(tv (skip j i)).1) (k+1)) else c (if skip j i<j then skip j i else skip j i-1)*(tv j).1)*u (skip j i) x) i=c i*((tv j).1*u (skip j i) x-(tv (skip j i)).1*u j x)+u j x*(c i*(tv (skip j i)).1):=λi=>by
     have e:=aZ8 j i;simp only[hun i,if_false,e];grind
    rw[vX λi _=>e1 i,a1G,hs x,aPN];simp only[if_true];grind
  ·have hz:∀ i,i<=k+1->Sp k (λj=>M (j+1)) (u i):=λi hi=>by
    obtain⟨a1,a2⟩:=hc i hi;have:(tv i).1=0:=Classical.byContradiction λh0=>hj ⟨i,hi,h0⟩
    rw[a2,this];refine cast (congrArg _ ?_) a1
    funext x; simp
   obtain⟨c,⟨i0,hi0,hc0⟩,hs⟩:=dep k _ u λi hi=>hz i (by omega)
   refine⟨λi=>if i<=k then c i else 0,⟨i0,by omega,by simp only[hi0,if_true]; exact hc0⟩,λx=>?_⟩;have e:¬ k+1<=k:=by omega
   rw[sm,vX (g:=λi=>c i*u i x) λi hi=>by
    have:i<=k:=by omega
    simp only[this,if_true],hs x]
   simp only[e,if_false];omega
def Ind(k:Nat) (u:Nat->V):Prop:=∀ c:Nat->Int,(∀ x,sm (λi=>c i*u i x) k=0)->∀ i,i<k->c i=0
theorem a09 {f:Nat->Int}{m:Nat}:∀ {k:Nat},m<=k->(∀ i,m<=i->i<k->f i=0)->sm f k=sm f m
 | 0,h,_=>by
  obtain rfl:m=0:=by omega
  rfl
 | k+1,h,hz=>by
  by_cases e:m=k+1
  ·subst e; rfl
  ·rw[sm,a09 (k:=k) (by omega) (λi h1 h2=>hz i h1 (by omega)),hz k (by omega) (by omega),Int.add_zero]
theorem Ind.le {k m:Nat}{u:Nat->V}(h:Ind k u)(hm:m<=k):Ind m u:=λc hc i hi=>by
 have:=h (λi=>if i<m then c i else 0) (λx=>by
  rw[a09 hm λi h1 h2=>by
   have:¬ i<m:=by omega
   simp only[this,if_false,Int.zero_mul]]
  rw[vX (g:=λi=>c i*u i x) λi hi=>by simp only[hi,if_true]];exact hc x) i (by omega)
 simpa[hi]using this
theorem Ind.aF1 {k k':Nat}{u M:Nat->V}(h:Ind k u)(hs:∀ i,i<k->∃ t:Int,t≠0/\Sp k' M (λx=>t*u i x)):k<=k':=by
 refine Classical.byContradiction λhn=>?_
 have h':=h.le (show k'+1<=k by omega);have hc:∀ i,∃ t:Int,i<k->t≠0/\Sp k' M (λx=>t*u i x):=λi=>by
  by_cases hi:i<k
  ·obtain⟨t,ht⟩:=hs i hi;exact⟨t,λ_=>ht⟩
  ·exact⟨0,λg=>absurd g hi⟩
 obtain⟨t,ht⟩:=Classical.axiomOfChoice hc;obtain⟨c,⟨i,hi,h0⟩,h1⟩:=dep k' M (λi x=>t i*u i x) λi hi=>(ht i (by omega)).2
 have:=h' (λi=>c i*t i) (λx=>by
  rw[<- h1 x];exact vX λi _=>by grind) i (by omega)
 rcases Int.mul_eq_zero.1 this with g|g
 ·exact h0 g
 ·exact(ht i (by omega)).1 g
theorem Hn.ind {k:Nat}{M:Nat->V}{p:Nat->Nat}(h:Hn k M p):Ind k M:=λc hc=>by
 have:∀ N i,i<N->i<k->c i=0:=by
  intro N
  induction N with
  | zero=>intro i hi; omega
  | succ N ih =>
   intro i hi hk;have h1:=hc (p i);rw[TX (j:=i) hk λl hl hne=>by
    rcases Nat.lt_or_ge l i with g|g
    ·rw[ih l (by omega) hl,Int.zero_mul]
    ·rw[h.low l hl (p i) (h.inc i l (by omega) hl),Int.mul_zero]]at h1
   rcases Int.mul_eq_zero.1 h1 with g|g
   ·exact g
   ·have:=h.pos i hk; omega
 exact λi hi=>this (i+1) i (by omega) hi
end Go.Lz
namespace Go.PM
open Go Go.RowKit Go.Proofs Go.Lz
def dg(D:Nat):Nat->Nat
 | 0=>D
 | d+1=>6*dg D d+2
theorem a7V(D:Nat){a b:Nat}(h:a<=b):dg D a<=dg D b:=by
 induction h with
 | refl=>exact Nat.le_refl _
 | step _ ih=>refine Nat.le_trans ih ?_; rw[dg]; omega
theorem a5Y {D k n:Nat}(h:∀ d,d<k->d<n->10*dg D d+4<=400000):Bds k n (λd=>10^dg D d) (λd=>10^(5*dg D d+1)):=by
 have e5:∀ a:Nat,(10^a)^5=10^(5*a):=λa=>by rw[<- Nat.pow_mul,Nat.mul_comm]
 refine⟨λd hd hdn=>⟨Nat.pow_pos (by decide),Nat.pow_le_pow_right (by decide) (by omega),λ_=>?_,?_⟩,λd hd _=>?_⟩
 ·show 9*(10^dg D d)^5<=10^(5*dg D d+1);rw[e5,Nat.pow_succ];omega
 ·have h1:(10^(5*dg D d+1)+1:Nat)<10^(5*dg D d+1+1):=by
   rw[Nat.pow_succ 10 (5*dg D d+1)];have:0<10^(5*dg D d+1):=Nat.pow_pos (by decide);omega
  have h2:=uF (u:=10^(5*dg D d+1)+1) (k:=5*dg D d+1) h1;have:=h d hd hdn;have e:vQ=400000:=rfl;show 2*Lib.nDigits (10^(5*dg D d+1)+1)<=vQ;omega
 ·show 10^dg D d+(10^dg D d+1)*10^(5*dg D d+1)<=10^(6*dg D d+2);generalize ha:dg D d=a;have h1:(10^(5*a+1):Nat)=10*10^(5*a):=by rw[Nat.pow_succ]; omega
  have h2:(10^(6*a+2):Nat)=100*(10^a*10^(5*a)):=by rw[<- Nat.pow_add,show a+5*a=6*a by omega,Nat.pow_add]; omega
  have h3:(10^a:Nat)<=10^a*10^(5*a):=Nat.le_mul_of_pos_right _ (Nat.pow_pos (by decide));have h4:(10^(5*a):Nat)<=10^a*10^(5*a):=Nat.le_mul_of_pos_left _ (Nat.pow_pos (by decide));have h5:(10^a+1)*(10*10^(5*a))=10*(10^a*10^(5*a))+10*10^(5*a):=by grind
  rw[h1,h2,h5];omega
theorem aQH {D k n:Nat}(hk:k<=4\/n<=4)(hD:D<=154):Bds k n (λd=>10^dg D d) (λd=>10^(5*dg D d+1)):=a5Y λd hd hn=>by
 have h1:=a7V D (show d<=3 by omega);have h2:dg D 3=6*(6*(6*D+2)+2)+2:=rfl;omega
theorem PG {k n D:Nat} {M:Nat->V} (hk:k<=4\/n<=4) (hkk:k<1048576) (hn:n<1048576) (hw:Wd k n M) (hE:Big k n M (10^D)) (hD:D<=154):∃ d H p,d<=k/\Hn d H p/\Same k M d H/\Wd d n H:=by
 have hL:lT 0 k n ((List.range k).map λc=>(c,0,n)) ((List.range k).map λc=>Zr n (M c)) (λc=>c) M :=
  ⟨rfl,λi hi=>⟨[],rfl,by rw[List.getElem?_map,List.getElem?_range hi]; rfl⟩,λi j _ _ e=>e⟩
 obtain⟨m',A',J',H,d,p,_,g2,g3,g4,g5,g6,g7⟩:=WN (by omega) hn hL hw (E:=λd=>10^dg D d) (T:=λd=>10^(5*dg D d+1)) hE (aQH hk hD);exact⟨d,H,p,g2,g4,g5,λi hi x hx=>g6 i (by omega) x hx⟩
theorem Hn.kG {d n:Nat}{H:Nat->V}{p:Nat->Nat}(h:Hn d H p)(hw:Wd d n H):d<=n/\∀ j,j<d->p j<n:=by
 have hp:∀ j,j<d->p j<n:=λj hj=>Hn.aVK h hw hj
 refine⟨?_,hp⟩;have:∀ j,j<d->j<=p j:=by
  intro j
  induction j with
  | zero=>exact λ_=>Nat.zero_le _
  | succ j ih=>intro hj; have:=ih (by omega); have:=h.inc j (j+1) (by omega) hj; omega
 rcases Nat.eq_zero_or_pos d with h0|h0
 ·omega
 ·have:=this (d-1) (by omega); have:=hp (d-1) (by omega); omega
theorem U7 {k n E D r:Nat} {M K:Nat->V} {p:Nat->Nat} (hn:n<=4) (hk:k<1048000) (hw:Wd k n M) (hE:Big k n M E) (h1:1<=E) (hD:E<=10^D) (hD2:D<=154) (hH:Hn r K p) (hI:kM n k M r K) :
  ∀ i,i<r->∀ x,(K i x).natAbs<=4*(24*(E*E*E*E)):=by
 have hB:=hE.wide (k:=k) (M:=M) h1;obtain⟨d,W,q,g1,g2,g3,g4⟩:=PG (k:=n) (n:=k+n) (M:=wide n k M) (.inl hn) (by omega) (by omega) hw.wide (λi hi x hx=>Nat.le_trans (hB i hi x hx) hD) hD2;obtain⟨j,b1,b2,b3⟩:=Hn.split g2 k;obtain⟨c1,c2⟩:=Z5 g2 g3 b1 b2 b3;obtain⟨e1,_,e3⟩:=Hn.unique hH c1 λv=>(hI v).trans (c2 v).symm
 have hdg:=(aP9 (k:=n) (M:=wide n k M) (E:=E) (by omega) g2 (λj hj=>⟨1,by decide,by
  have:=(g3 _).2 (Sp.mem hj);refine cast (congrArg _ ?_) this
  funext x; simp⟩) (hB.all hw.wide)).mono λv=>(g3 v).1
 have hle:=Hn.aFK g2 hdg;intro i hi x;rw[e3 i hi];refine Nat.le_trans (hle (j+i) (by omega) (k+x)) (Nat.mul_le_mul (by omega) (aVT h1 (by omega)))
theorem aZY {k n E D r r2:Nat} {M K S:Nat->V} {p2:Nat->Nat} (hk:k<=4) (hn:n<=4) (hw:Wd k n M) (hE:Big k n M E) (h1:1<=E) (hD:E<=10^D) (hD2:D<=154) (hI:kM n k M r K) (hS:Hn r2 S p2) (hI2:kM n r K r2 S) :
  ∀ i,i<r2->∀ x,(S i x).natAbs<=4*(24*(E*E*E*E)):=by
 obtain⟨d,H,p,g1,g2,g3,g4⟩:=PG (.inl hk) (by omega) (by omega) hw (λi hi x hx=>Nat.le_trans (hE i hi x hx) hD) hD2;have a1:=(Hn.kG g2 g4);have hdg:=aP9 (k:=k) (M:=M) (E:=E) (by omega) g2 (λj hj=>⟨1,by decide,by
  have:=(g3 _).2 (Sp.mem hj);refine cast (congrArg _ ?_) this
  funext x; simp⟩) (hE.all hw)
 obtain⟨D0,h0,hsp⟩:=aKP hw g2 g3 a1.2 hdg hI hI2;have hwS:Wd r2 n S:=λi hi x hx=>hI2.width hi x hx
 have a2:=Hn.kG hS hwS;have hdS:=(aP9 (k:=k) (M:=M) (E:=E) (by omega) hS (λj hj=>⟨D0,h0,hsp _ (Sp.mem hj)⟩) (hE.all hw)).mono (k':=r2) (M':=S) λv hv=>by
  refine(hI2 v).2 ⟨λc hc=>Sp.lM (λj hj=>hw j hj c hc) hv,λx hx=>?_⟩;rw[n7];exact((hI _).1 (Sp.mem hx)).span hv
 have hle:=Hn.aFK hS hdS;intro i hi x;refine Nat.le_trans (hle i hi x) (Nat.mul_le_mul (by omega) (aVT h1 (by omega)))
theorem aJM {d n:Nat}{M:Nat->V}(hw:Wd d n M){i:Nat}(hi:i<d):J3 (Mr d n M) i=M i:=by
 unfold J3;rw[Z8 M hi];exact a4R λx hx=>hw i hi x hx
theorem lT.congr {o k n:Nat}{m:List (Nat×Nat×Nat)}{A:List (List ByteArray)}{J:Nat->Nat}{M M':Nat->V}(h:lT o k n m A J M)(e:∀ i,i<k->M i=M' i):lT o k n m A J M' :=
 ⟨h.ml,λi hi=>by rw[<- e i hi]; exact h.at_ i hi,h.inj⟩
theorem aCR {d n:Nat}{M:Nat->V}(hd:d<=12)(hn:n<=12)(hw:Wd d n M)(hM:Big d n M 1000000000):∃ m A,cN () (Mr d n M,()) []=some (m,A)/\lT 0 d n m A (λi=>i) M:=by
 have hlen:∀ r∈Mr d n M,r.length=n:=λr hr=>by
  obtain⟨i,hi,rfl⟩:=aDM hr;exact vU _ _
 obtain⟨m,A,h1,h2⟩:=aL4 (Mr d n M) (n:=n) (by rw[eJ]; omega) (by omega) hlen λr hr a ha=>by
  obtain⟨i,hi,rfl⟩:=aDM hr;have:=aHE (λx hx=>hM i hi x hx) a ha;omega
 rw[eJ]at h2;exact⟨m,A,h1,h2.congr λi hi=>aJM hw hi⟩
section
variable {d n:Nat} {B:Nat->V}
theorem p9:(1000000000:Nat)=10^9:=by decide
theorem p38:4*(24*((10^9)*(10^9)*(10^9)*(10^9)))<=10^38:=by decide
theorem a8A:4*(24*((10^38)*(10^38)*(10^38)*(10^38)))<=10^154:=by
 have e:(10^38:Nat)*10^38*10^38*10^38=10^152:=by rw[<- Nat.pow_add,<- Nat.pow_add,<- Nat.pow_add]
 rw[e,show (154:Nat)=152+2 by rfl,Nat.pow_add];have:(10^2:Nat)=100:=by decide
 rw[this];generalize (10^152:Nat)=a;omega
theorem aDT {m:List (Nat×Nat×Nat)} {A:List (List ByteArray)} {J:Nat->Nat} (hd:d<=4) (hn:n<=4) (hw:Wd d n B) (hB:Big d n B (10^9)) (h:lT 0 d n m A J B) :
  ∃ m' A' J' K p r,cH () (m,(n:Int),()) A=some (m',A')/\lT d r n m' A' J' K/\r<=n/\Hn r K p/\kM n d B r K/\Wd r n K/\Big r n K (10^38):=by
 have hk:=λ(r:Nat) (K:Nat->V) (p:Nat->Nat) (hH:Hn r K p) (hI:kM n d B r K)=>U7 (E:=10^9) (D:=9) hn (by omega) hw hB (by decide) (Nat.le_refl _) (by decide) hH hI
 obtain⟨m',A',J',K,p,r,g1,g2,g3,g4,g5,g6⟩:=aOV (E:=λd=>10^dg 9 d) (T:=λd=>10^(5*dg 9 d+1)) (show d<1048576 by omega) (show n<1048576 by omega) (by omega) h hw hB (show 1<=10^dg 9 0 from Nat.pow_pos (by decide)) (aQH (.inl hn) (by decide)) λr K p hr hH hI =>
  ⟨λd=>10^dg 38 d,λd=>10^(5*dg 38 d+1),λi hi x _=>Nat.le_trans (hk r K p hH hI i hi x) p38,aQH (.inl (by omega)) (by decide)⟩
 exact⟨m',A',J',K,p,r,g1,g2,g3,g4,g5,g6,λi hi x _=>Nat.le_trans (hk r K p g4 g5 i hi x) p38⟩
theorem aK5 {o:Nat} {m:List (Nat×Nat×Nat)} {A:List (List ByteArray)} {J:Nat->Nat} (hd:d<=4) (hn:n<=4) (hw:Wd d n B) (hB:Big d n B (10^38)) (h:lT o d n m A J B) :
  ∃ m' A' J' K p r,cH () (m,(n:Int),()) A=some (m',A')/\lT d r n m' A' J' K/\r<=n/\Hn r K p/\kM n d B r K/\Wd r n K/\Big r n K (10^154):=by
 have hk:=λ(r:Nat) (K:Nat->V) (p:Nat->Nat) (hH:Hn r K p) (hI:kM n d B r K)=>U7 (E:=10^38) (D:=38) hn (by omega) hw hB (Nat.pow_pos (by decide)) (Nat.le_refl _) (by decide) hH hI
 obtain⟨m',A',J',K,p,r,g1,g2,g3,g4,g5,g6⟩:=aOV (E:=λd=>10^dg 38 d) (T:=λd=>10^(5*dg 38 d+1)) (show d<1048576 by omega) (show n<1048576 by omega) (by omega) h hw hB (show 1<=10^dg 38 0 from Nat.pow_pos (by decide)) (aQH (.inl hn) (by decide)) λr K p hr hH hI =>
  ⟨λd=>10^dg 154 d,λd=>10^(5*dg 154 d+1),λi hi x _=>Nat.le_trans (hk r K p hH hI i hi x) a8A,aQH (.inl (by omega)) (by decide)⟩
 exact⟨m',A',J',K,p,r,g1,g2,g3,g4,g5,g6,λi hi x _=>Nat.le_trans (hk r K p g4 g5 i hi x) a8A⟩
theorem QE {q:Nat->Nat} (hH:Hn d B q) (hn:n<=4) (hw:Wd d n B) (hB:Big d n B 1000000000) {K:Nat->V} {p:Nat->Nat} {r:Nat} (hK:Hn r K p) (hI:kM n d B r K) (ok:∀ i,i<r->∀ x,x<n->(K i x).natAbs<=1000000000) :
  lO (((n:Int),Mr d n B),())=some (((n:Int),Mr r n K),0,()):=by
 have hd:=(Hn.kG hH hw).1;obtain⟨m,A,a1,a2⟩:=aCR (by omega) (by omega) hw hB;obtain⟨m',A',J',K',p',r',g1,g2,g3,g4,g5,g6,g7⟩:=aDT (by omega) hn hw (by rw[<- p9]; exact hB) a2;obtain⟨e1,_,e3⟩:=Hn.unique hK g4 λv=>(hI v).trans (g5 v).symm
 subst e1;have g2':=g2.congr (M':=K) λi hi=>(e3 i hi).symm
 have hs:=aAK g2' (Nat.le_refl _) (by omega) (by omega) ok (n:Int);rw[List.take_of_length_le (by rw[g2'.len]; exact Nat.le_refl _)]at hs;have e0:eqI 0 0=true:=by decide
 simp only[lO,ZT hH hw (by omega) (by omega) hB,aE,e0,Bool.not_true,oD,a1,g1,hs];rfl
theorem Z2 {q:Nat->Nat} (hH:Hn d B q) (hn:n<=4) (hw:Wd d n B) (hB:Big d n B 1000000000) {K:Nat->V} {r:Nat} (hI:kM n d B r K) {S:Nat->V} {s:Nat->Nat} {t:Nat} (hS:Hn t S s) (hI2:kM n r K t S) (ok:∀ i,i<t->∀ x,x<n->(S i x).natAbs<=1000000000) :
  pK (((n:Int),Mr d n B),())=some (((n:Int),Mr t n S),0,()):=by
 have hd:=(Hn.kG hH hw).1;obtain⟨m,A,a1,a2⟩:=aCR (by omega) (by omega) hw hB;obtain⟨m',A',J',K',p',r',g1,g2,g3,g4,g5,g6,g7⟩:=aDT (by omega) hn hw (by rw[<- p9]; exact hB) a2;obtain⟨m2,A2,J2,S',p2,t',b1,b2,b3,b4,b5,b6,b7⟩:=aK5 (by omega) hn g6 g7 g2;have hsame:Same r' K' r K:=λv=>(g5 v).trans (hI v).symm
 obtain⟨e1,_,e3⟩:=Hn.unique hS b4 λv=>(hI2 v).trans ((Ker.same hsame).symm.trans (b5 v).symm)
 subst e1;have g2':=b2.congr (M':=S) λi hi=>(e3 i hi).symm
 have hs:=aAK g2' (Nat.le_refl _) (by omega) (by omega) ok (n:Int);rw[List.take_of_length_le (by rw[g2'.len]; exact Nat.le_refl _)]at hs;have e0:eqI 0 0=true:=by decide
 simp only[pK,ZT hH hw (by omega) (by omega) hB,aE,e0,Bool.not_true,oD,a1,g1,b1,hs];rfl
end
end Go.PM
namespace Go.PM
open Go Go.RowKit Go.Proofs
set_option maxHeartbeats 4000000
abbrev sQ:List (Nat×Kd):=[(0,.list TyE),(1,.list TyE),(12,.int .i64),(13,.int .i64)]
abbrev BE:List (Ex×List (Nat×Kd)):=[(.ret,[(4,.bool)]),(.exit 0,[])]
def eV(x:Shape.den sQ):oS sQ BE:=match x with
 | (v0,v1,v12,v13,()) =>
  bif ltI v13 v12 then
   bif aF v13 v0.length then bif aF v13 v1.length then bif !(eqI (v0.getD v13.toNat 0) (v1.getD v13.toNat 0)) then
    some (.inr (.inl (false,())))
   else some (.inl (v0,v1,v12,(aB .i64 (v13+1)),())) else none else none
  else some (.inr (.inr ((()))))
def lW(x:Shape.den sQ):oX BE:=bH eV (2^64) x
def dA(x:aK [.list TyE,.list TyE]):oK [.bool]:=match x with
 | (v0,v1,()) =>
  bif !(eqI (v0.length:Int) (v1.length:Int)) then
   some (false,())
  else aC (lW (v0,v1,(v0.length:Int),0,())) λz1 =>
  yO z1 (λa2=>some (a2.1,())) λb3 =>
  some (true,())
abbrev RX:Env:=bL []
theorem ML:aR tP RX:=aU trivial
abbrev p5:Ent:=⟨62,_,_,dA⟩
theorem sR:Ent.OK tP p5:=oU ML Tryz.func62 4 (lp:=lW) rfl (by kernel_rfl) (by kernel_rfl) (by kernel_rfl) (by kernel_rfl) (by rintro⟨v0,v1,v12,v13,⟨⟩⟩; kernel_rfl) (by rintro⟨v0,v1,⟨⟩⟩; kernel_rfl)
def aDP(x:aK [.list TyE,.list TyE]):oK [.bool]:=match x with
 | (v0,v1,()) =>
  aC (dA (v0,v1,())) λy1 =>
  some (y1.1,())
theorem aND:aR tP (bL [p5]):=aU ⟨sR,trivial⟩
abbrev aLF:Ent:=⟨132,_,_,aDP⟩
theorem aMS:Ent.OK tP aLF:=oI aND Tryz.func132 (by kernel_rfl) (by kernel_rfl) (by rintro⟨v0,v1,⟨⟩⟩; kernel_rfl)
abbrev dF:List (Nat×Kd):=[(1,.list TyD),(2,.fn 132),(15,.list TyD),(16,.int .i64),(17,.int .i64)]
abbrev gS:List (Ex×List (Nat×Kd)):=[(.ret,[(6,.bool)]),(.exit 0,[])]
def aT(x:Shape.den dF):oS dF gS:=match x with
 | (v1,v2,v15,v16,v17,()) =>
  bif ltI v17 v16 then
   bif aF v17 v15.length then bif aF v17 v1.length then aC (aDP ((v15.getD v17.toNat []),(v1.getD v17.toNat []),())) λy2 =>
   bif y2.1 then
    some (.inl (v1,(),v15,v16,(aB .i64 (v17+1)),()))
   else some (.inr (.inl (false,()))) else none else none
  else some (.inr (.inr ((()))))
def bY(x:Shape.den dF):oX gS:=bH aT (2^64) x
def aW(x:aK [.list TyD,.list TyD,.fn 132]):oK [.bool]:=match x with
 | (v0,v1,v2,()) =>
  bif !(eqI (v0.length:Int) (v1.length:Int)) then
   some (false,())
  else aC (bY (v1,(),v0,(v0.length:Int),0,())) λz3 =>
  yO z3 (λa4=>some (a4.1,())) λb5 =>
  some (true,())
abbrev r7:Env:=bL [aLF]
theorem qO:aR tP r7:=aU ⟨aMS,trivial⟩
abbrev iO:Ent:=⟨131,_,_,aW⟩
theorem qH:Ent.OK tP iO:=oU qO Tryz.func131 4 (lp:=bY) rfl (by kernel_rfl) (by kernel_rfl) (by kernel_rfl) (by kernel_rfl) (by rintro⟨v1,v2,v15,v16,v17,⟨⟩⟩; kernel_rfl) (by rintro⟨v0,v1,v2,⟨⟩⟩; kernel_rfl)
def C4(x:aK [.agg TyH,.agg TyH]):oK [.bool]:=match x with
 | (v0,v1,()) =>
  bif eqI v0.1 v1.1 then
   aC (aW (v0.2,v1.2,(),())) λy1 =>
   some (y1.1,())
  else some (false,())
theorem aEO:aR tP (bL [iO]):=aU ⟨qH,trivial⟩
abbrev Y2:Ent:=⟨75,_,_,C4⟩
theorem aFT:Ent.OK tP Y2:=oI aEO Tryz.func75 (by kernel_rfl) (by kernel_rfl) (by rintro⟨v0,v1,⟨⟩⟩; kernel_rfl)
def K8(x:aK [.agg TyH,.list TyE]):oK [.bool]:=match x with
 | (v0,v1,()) =>
  aC (zF (v0,v1,())) λy1 =>
  aC (AQ (y1.1,())) λy2 =>
  some (ltI y2.1 0,())
theorem UP:aR tP (bL [HH,GI]):=aU ⟨RC,JI,trivial⟩
abbrev K5:Ent:=⟨143,_,_,K8⟩
theorem UQ:Ent.OK tP K5:=oI UP Tryz.func143 (by kernel_rfl) (by kernel_rfl) (by rintro⟨v0,v1,⟨⟩⟩; kernel_rfl)
abbrev CG:List (Nat×Kd):=[(2,.ptr TyH),(3,.ptr TyH),(10,.list TyH),(11,.int .i64),(12,.int .i64)]
abbrev JG:List (Ex×List (Nat×Kd)):=[(.ret,[(4,.int .i64)]),(.exit 0,[(2,.ptr TyH),(3,.ptr TyH)])]
def oH(x:Shape.den CG):oS CG JG:=match x with
 | (v2,v3,v10,v11,v12,()) =>
  bif ltI v12 v11 then
   bif aF v12 v10.length then aC (mY (((v10.getD v12.toNat (0,[])).1,(v10.getD v12.toNat (0,[])).2),())) λy2 =>
   bif !(eqI y2.1 0) then
    some (.inr (.inl (y2.1,())))
   else some (.inl (v2,v3,v10,v11,(aB .i64 (v12+1)),())) else none
  else some (.inr (.inr ((v2,v3,()))))
def yX(x:Shape.den CG):oX JG:=bH oH (2^64) x
def qQ(x:aK [.agg TyH,.agg TyH]):oK [.int .i64]:=match x with
 | (v0,v1,()) =>
  aC (yX (v0,v1,[v0,v1],([v0,v1].length:Int),0,())) λz3 =>
  yO z3 (λa4=>some (a4.1,())) λb5 =>
  bif !(eqI b5.1.1 b5.2.1.1) then
   some (5,())
  else some (0,())
abbrev aCO:Env:=bL [C8]
theorem YL:aR tP aCO:=aU ⟨CS,trivial⟩
abbrev A6:Ent:=⟨117,_,_,qQ⟩
theorem B3:Ent.OK tP A6:=oU YL Tryz.func117 2 (lp:=yX) rfl (by kernel_rfl) (by kernel_rfl) (by kernel_rfl) (by kernel_rfl) (by rintro⟨v2,v3,v10,v11,v12,⟨⟩⟩; kernel_rfl) (by rintro⟨v0,v1,⟨⟩⟩; kernel_rfl)
def QA(x:aK [.list TyE,.ptr TyH]):oK [.bool]:=match x with
 | (v0,v1,()) =>
  aC (K8 (v1,v0,())) λy1 =>
  bif y1.1 then
   some (false,())
  else some (true,())
theorem YT:aR tP (bL [K5]):=aU ⟨UQ,trivial⟩
abbrev PT:Ent:=⟨171,_,_,QA⟩
theorem YX:Ent.OK tP PT:=oI YT Tryz.func171 (by kernel_rfl) (by kernel_rfl) (by rintro⟨v0,v1,⟨⟩⟩; kernel_rfl)
abbrev j9:List (Nat×Kd):=[(0,.list TyD),(1,.clo 171 [TyH]),(7,.int .i64),(8,.int .i64)]
abbrev qC:List (Ex×List (Nat×Kd)):=[(.ret,[(4,.int .i64)]),(.exit 0,[])]
def BD(x:Shape.den j9):oS j9 qC:=match x with
 | (v0,v1,v7,v8,()) =>
  bif ltI v8 v7 then
   bif aF v8 v0.length then aC (QA ((v0.getD v8.toNat []),v1.1,())) λy2 =>
   bif y2.1 then
    some (.inr (.inl (v8,())))
   else some (.inl (v0,(v1.1,()),v7,(aB .i64 (v8+1)),())) else none
  else some (.inr (.inr ((()))))
def pN(x:Shape.den j9):oX qC:=bH BD (2^64) x
def sD(x:aK [.list TyD,.clo 171 [TyH]]):oK [.int .i64]:=match x with
 | (v0,v1,()) =>
  aC (pN (v0,(v1.1,()),(v0.length:Int),0,())) λz3 =>
  yO z3 (λa4=>some (a4.1,())) λb5 =>
  some ((-1),())
abbrev EP:Env:=bL [PT]
theorem CI:aR tP EP:=aU ⟨YX,trivial⟩
abbrev sA:Ent:=⟨100,_,_,sD⟩
theorem BX:Ent.OK tP sA:=oU CI Tryz.func100 2 (lp:=pN) rfl (by kernel_rfl) (by kernel_rfl) (by kernel_rfl) (by kernel_rfl) (by rintro⟨v0,v1,v7,v8,⟨⟩⟩; kernel_rfl) (by rintro⟨v0,v1,⟨⟩⟩; kernel_rfl)
def qE(x:aK [.list TyD,.clo 171 [TyH]]):oK [.bool]:=match x with
 | (v0,v1,()) =>
  aC (sD (v0,(v1.1,()),())) λy1 =>
  some (!(ltI y1.1 0),())
theorem zP:aR tP (bL [sA]):=aU ⟨BX,trivial⟩
abbrev qI:Ent:=⟨43,_,_,qE⟩
theorem zV:Ent.OK tP qI:=oI zP Tryz.func43 (by kernel_rfl) (by kernel_rfl) (by rintro⟨v0,v1,⟨⟩⟩; kernel_rfl)
def XY(x:aK [.agg TyH,.agg TyH]):oK [.bool,.int .i64]:=match x with
 | (v0,v1,()) =>
  aC (qQ (v0,v1,())) λy1 =>
  bif !(eqI y1.1 0) then
   some (false,y1.1,())
  else aC (qE (v0.2,(v1,()),())) λy2 =>
  bif y2.1 then
   some (false,0,())
  else some (true,0,())
theorem aDY:aR tP (bL [A6,qI]):=aU ⟨B3,zV,trivial⟩
abbrev X3:Ent:=⟨124,_,_,XY⟩
theorem aCP:Ent.OK tP X3:=oI aDY Tryz.func124 (by kernel_rfl) (by kernel_rfl) (by rintro⟨v0,v1,⟨⟩⟩; kernel_rfl)
end Go.PM
namespace Go.PM
open Go Go.RowKit Go.Proofs
set_option maxHeartbeats 4000000
def I5(x:aK [.agg TyH,.agg TyH]):oK [.agg TyH,.int .i64]:=match x with
 | (v0,v1,()) =>
  aC (qQ (v0,v1,())) λy1 =>
  bif !(eqI y1.1 0) then
   some ((0,[]),y1.1,())
  else aC (cN () (v0.2,()) []) λy2 =>
  aC (cN () (v1.2,()) y2.2) λy3 =>
  bif Nat.ble y3.1.length 1048576 then bif Nat.ble y2.1.length 1048576 then aC (cP (y2.1++y3.1) (v0.1,()) y3.2) λy4 =>
  aC (cO y4.1 (v0.1,()) y4.2) λy5 =>
  some (y5.1.1,y5.1.2.1,()) else none else none
def W4:Code:=eA Tryz.f116
abbrev aE4:Env:=ME [A6] [sV,kX,kZ]
theorem aI0:aR tP aE4:=nI ⟨B3,trivial⟩ ⟨tM,lI,lP,trivial⟩
def aCD(id:Nat):Option cG:=none
theorem aGA:bF W4=[]:=by kernel_rfl
theorem aIP:∀ x,aCF tP aE4 Tryz.f116 (aN Tryz.f116) aCD W4 110 .str _ _ x=I5 x:=by
 rintro⟨v0,v1,⟨⟩⟩
 kernel_rfl
abbrev aEY:Ent:=⟨116,_,_,I5⟩
theorem aI4:Ent.OK tP aEY:=aH6 bC aI0 Tryz.func116 (c:=W4) (by kernel_rfl) (bV:=aN Tryz.f116) (lt:=aCD) (aO aGA trivial) aIP
end Go.PM
namespace Go.PM
open Go Go.RowKit Go.Proofs
set_option maxHeartbeats 4000000
abbrev pV:List (Nat×Kd):=[(0,.list TyE),(1,.list TyE),(12,.int .i64),(13,.int .i64)]
abbrev xW:List (Ex×List (Nat×Kd)):=[(.ret,[(4,.bool)]),(.exit 0,[])]
def dN(x:Shape.den pV):oS pV xW:=match x with
 | (v0,v1,v12,v13,()) =>
  bif ltI v13 v12 then
   bif aF v13 v0.length then bif aF v13 v1.length then bif !(eqI (v0.getD v13.toNat 0) (v1.getD v13.toNat 0)) then
    some (.inr (.inl (false,())))
   else some (.inl (v0,v1,v12,(aB .i64 (v13+1)),())) else none else none
  else some (.inr (.inr ((()))))
def jX(x:Shape.den pV):oX xW:=bH dN (2^64) x
def dY(x:aK [.list TyE,.list TyE]):oK [.bool]:=match x with
 | (v0,v1,()) =>
  bif !(eqI (v0.length:Int) (v1.length:Int)) then
   some (false,())
  else aC (jX (v0,v1,(v0.length:Int),0,())) λz1 =>
  yO z1 (λa2=>some (a2.1,())) λb3 =>
  some (true,())
abbrev NB:Env:=bL []
theorem I6:aR tP NB:=aU trivial
abbrev BM:Ent:=⟨20,_,_,dY⟩
theorem JC:Ent.OK tP BM:=oU I6 Tryz.func20 4 (lp:=jX) rfl (by kernel_rfl) (by kernel_rfl) (by kernel_rfl) (by kernel_rfl) (by rintro⟨v0,v1,v12,v13,⟨⟩⟩; kernel_rfl) (by rintro⟨v0,v1,⟨⟩⟩; kernel_rfl)
def E5(x:aK [.list TyE,.list TyE]):oK [.bool]:=match x with
 | (v0,v1,()) =>
  aC (dA (v0,v1,())) λy1 =>
  some (y1.1,())
theorem WG:aR tP (bL [p5]):=aU ⟨sR,trivial⟩
abbrev NZ:Ent:=⟨133,_,_,E5⟩
theorem W8:Ent.OK tP NZ:=oI WG Tryz.func133 (by kernel_rfl) (by kernel_rfl) (by rintro⟨v0,v1,⟨⟩⟩; kernel_rfl)
abbrev dE:List (Nat×Kd):=[(1,.list TyD),(2,.fn 133),(15,.list TyD),(16,.int .i64),(17,.int .i64)]
abbrev gR:List (Ex×List (Nat×Kd)):=[(.ret,[(6,.bool)]),(.exit 0,[])]
def aS(x:Shape.den dE):oS dE gR:=match x with
 | (v1,v2,v15,v16,v17,()) =>
  bif ltI v17 v16 then
   bif aF v17 v15.length then bif aF v17 v1.length then aC (E5 ((v15.getD v17.toNat []),(v1.getD v17.toNat []),())) λy2 =>
   bif y2.1 then
    some (.inl (v1,(),v15,v16,(aB .i64 (v17+1)),()))
   else some (.inr (.inl (false,()))) else none else none
  else some (.inr (.inr ((()))))
def bX(x:Shape.den dE):oX gR:=bH aS (2^64) x
def aX(x:aK [.list TyD,.list TyD,.fn 133]):oK [.bool]:=match x with
 | (v0,v1,v2,()) =>
  bif !(eqI (v0.length:Int) (v1.length:Int)) then
   some (false,())
  else aC (bX (v1,(),v0,(v0.length:Int),0,())) λz3 =>
  yO z3 (λa4=>some (a4.1,())) λb5 =>
  some (true,())
abbrev rO:Env:=bL [NZ]
theorem p7:aR tP rO:=aU ⟨W8,trivial⟩
abbrev iW:Ent:=⟨131,_,_,aX⟩
theorem qG:Ent.OK tP iW:=oU p7 Tryz.func131 4 (lp:=bX) rfl (by kernel_rfl) (by kernel_rfl) (by kernel_rfl) (by kernel_rfl) (by rintro⟨v1,v2,v15,v16,v17,⟨⟩⟩; kernel_rfl) (by rintro⟨v0,v1,v2,⟨⟩⟩; kernel_rfl)
def CK(x:aK [.list TyD,.list TyD]):oK [.bool]:=match x with
 | (v0,v1,()) =>
  aC (aX (v0,v1,(),())) λy1 =>
  some (y1.1,())
theorem ZO:aR tP (bL [iW]):=aU ⟨qG,trivial⟩
abbrev SU:Ent:=⟨77,_,_,CK⟩
theorem aAW:Ent.OK tP SU:=oI ZO Tryz.func77 (by kernel_rfl) (by kernel_rfl) (by rintro⟨v0,v1,⟨⟩⟩; kernel_rfl)
abbrev H8:List (Nat×Kd):=[(0,.int .i64),(3,.int .i64)]
abbrev SF:List (Ex×List (Nat×Kd)):=[(.ret,[(2,.bool)]),(.exit 0,[])]
def aBD(x:Shape.den H8):oS H8 SF:=match x with
 | (v0,v3,()) =>
  bif !(ltI v0 (aB .i64 (v3*v3))) then
   bif eqI v3 0 then none else bif eqI (v0.tmod v3) 0 then
    some (.inr (.inl (false,())))
   else some (.inl (v0,(aB .i64 (v3+1)),()))
  else some (.inr (.inr ((()))))
def N0(x:Shape.den H8):oX SF:=bH aBD (2^64) x
def Z3(x:aK [.int .i64]):oK [.bool]:=match x with
 | (v0,()) =>
  bif ltI v0 2 then
   some (false,())
  else bif ltI 97 v0 then
   some (false,())
  else aC (N0 (v0,2,())) λz1 =>
  yO z1 (λa2=>some (a2.1,())) λb3 =>
  some (true,())
abbrev aL3:Env:=bL []
theorem aFR:aR tP aL3:=aU trivial
abbrev ZK:Ent:=⟨48,_,_,Z3⟩
theorem aEP:Ent.OK tP ZK:=oU aFR Tryz.func48 4 (lp:=N0) rfl (by kernel_rfl) (by kernel_rfl) (by kernel_rfl) (by kernel_rfl) (by rintro⟨v0,v3,⟨⟩⟩; kernel_rfl) (by rintro⟨v0,⟨⟩⟩; kernel_rfl)
abbrev MO:List (Nat×Kd):=[(0,.list TyE),(13,.list TyE),(14,.int .i64),(15,.int .i64)]
abbrev XT:List (Ex×List (Nat×Kd)):=[(.ret,[(2,.int .i64)]),(.exit 1,[])]
def aFG(x:Shape.den MO):oS MO XT:=match x with
 | (v0,v13,v14,v15,()) =>
  bif ltI v15 v14 then
   bif aF v15 v13.length then aC (Z3 ((v13.getD v15.toNat 0),())) λy2 =>
   bif y2.1 then
    bif ltI 0 v15 then
     bif aF (aB .i64 (v15-1)) v0.length then bif !(ltI (v0.getD ((aB .i64 (v15-1)).toNat) 0) (v13.getD v15.toNat 0)) then
      some (.inr (.inl (6,())))
     else some (.inl (v0,v13,v14,(aB .i64 (v15+1)),())) else none
    else some (.inl (v0,v13,v14,(aB .i64 (v15+1)),()))
   else some (.inr (.inl (25,()))) else none
  else some (.inr (.inr ((()))))
def SD(x:Shape.den MO):oX XT:=bH aFG (2^64) x
def pD(x:aK [.list TyE]):oK [.int .i64]:=match x with
 | (v0,()) =>
  bif eqI (v0.length:Int) 0 then
   some (13,())
  else bif ltI 6 (v0.length:Int) then
   some (4,())
  else aC (SD (v0,v0,(v0.length:Int),0,())) λz3 =>
  yO z3 (λa4=>some (a4.1,())) λb5 =>
  some (0,())
abbrev aQY:Env:=bL [ZK]
theorem aIQ:aR tP aQY:=aU ⟨aEP,trivial⟩
abbrev OG:Ent:=⟨32,_,_,pD⟩
theorem MK:Ent.OK tP OG:=oU aIQ Tryz.func32 6 (lp:=SD) rfl (by kernel_rfl) (by kernel_rfl) (by kernel_rfl) (by kernel_rfl) (by rintro⟨v0,v13,v14,v15,⟨⟩⟩; kernel_rfl) (by rintro⟨v0,⟨⟩⟩; kernel_rfl)
def fA(x:aK [.agg TyG]):oK [.int .i64]:=match x with
 | (v0,()) =>
  aC (pD (v0.1,())) λy1 =>
  bif !(eqI y1.1 0) then
   some (y1.1,())
  else aC (mY (((v0.1.length:Int),v0.2.1),())) λy2 =>
  bif !(eqI y2.1 0) then
   some (y2.1,())
  else aC (pK (((v0.1.length:Int),v0.2.1),())) λy3 =>
  bif !(eqI y3.2.1 0) then
   some (7,())
  else aC (C4 (y3.1,((v0.1.length:Int),v0.2.1),())) λy4 =>
  bif y4.1 then
   aC (lO (((v0.1.length:Int),v0.2.1),())) λy5 =>
   bif !(eqI y5.2.1 0) then
    some (14,())
   else aC (CK (y5.1.2,v0.2.2,())) λy6 =>
   bif y6.1 then
    some (0,())
   else some (14,())
  else some (7,())
theorem X7:aR tP (bL [wT,C8,Y2,CU,OG,SU]):=aU ⟨zM,CS,aFT,DA,MK,aAW,trivial⟩
abbrev GL:Ent:=⟨24,_,_,fA⟩
theorem JH:Ent.OK tP GL:=oI X7 Tryz.func24 (by kernel_rfl) (by kernel_rfl) (by rintro⟨v0,⟨⟩⟩; kernel_rfl)
abbrev CE:List (Nat×Kd):=[(2,.box 35 TyG),(14,.list TyD),(15,.int .i64),(16,.int .i64)]
abbrev JE:List (Ex×List (Nat×Kd)):=[(.ret,[(4,.int .i64)]),(.exit 0,[])]
def sB(x:Shape.den CE):oS CE JE:=match x with
 | (v2,v14,v15,v16,()) =>
  bif ltI v16 v15 then
   bif aF v16 v14.length then aC (GQ ((v14.getD v16.toNat []),())) λy3 =>
   bif !(eqI y3.1 0) then
    some (.inr (.inl (y3.1,())))
   else bif !(eqI ((v14.getD v16.toNat []).length:Int) (v2.1.length:Int)) then
    some (.inr (.inl (5,())))
   else some (.inl (v2,v14,v15,(aB .i64 (v16+1)),())) else none
  else some (.inr (.inr ((()))))
def yY(x:Shape.den CE):oX JE:=bH sB (2^64) x
def AR(x:aK [.agg TyG,.list TyD]):oK [.int .i64]:=match x with
 | (v0,v1,()) =>
  aC (fA (v0,())) λy1 =>
  bif !(eqI y1.1 0) then
   some (y1.1,())
  else aC (yY (v0,v1,(v1.length:Int),0,())) λz4 =>
  yO z4 (λa5=>some (a5.1,())) λb6 =>
  some (0,())
abbrev aCU:Env:=bL [aC8,GL]
theorem X6:aR tP aCU:=aU ⟨aB9,JH,trivial⟩
abbrev RA:Ent:=⟨78,_,_,AR⟩
theorem YJ:Ent.OK tP RA:=oU X6 Tryz.func78 5 (lp:=yY) rfl (by kernel_rfl) (by kernel_rfl) (by kernel_rfl) (by kernel_rfl) (by rintro⟨v2,v14,v15,v16,⟨⟩⟩; kernel_rfl) (by rintro⟨v0,v1,⟨⟩⟩; kernel_rfl)
abbrev lU:List (Nat×Kd):=[(1,.list TyE),(5,.own 110 .str),(7,.list TyE),(8,.str),(12,.list TyD),(13,.int .i64),(14,.int .i64),(18,.list TyE),(19,.int .i64),(20,.int .i64)]
abbrev pO:List (Ex×List (Nat×Kd)):=[(.exit 2,[(1,.list TyE),(5,.own 110 .str),(8,.str),(12,.list TyD),(13,.int .i64),(14,.int .i64)])]
def mV(x:Shape.den lU):oS lU pO:=match x with
 | (v1,v5,v7,v8,v12,v13,v14,v18,v19,v20,()) =>
  bif ltI v20 v19 then
   bif aF v20 v18.length then aC (j8 ((v18.getD v20.toNat 0),())) λy5 =>
   bif aF v20 v7.length then aC (j8 ((v7.getD v20.toNat 0),())) λy6 =>
   aC (KJ (y5.1,y6.1,())) λy7 =>
   aC (P9 (v8,y7.1,())) λy8 =>
   some (.inl (v1,v5,v7,y8.1,v12,v13,v14,v18,v19,(aB .i64 (v20+1)),())) else none else none
  else some (.inr ((v1,v5,v8,v12,v13,v14,())))
def mZ(x:Shape.den lU):oX pO:=bH mV (2^64) x
abbrev lX:List (Nat×Kd):=[(1,.list TyE),(5,.own 110 .str),(12,.list TyD),(13,.int .i64),(14,.int .i64)]
abbrev pM:List (Ex×List (Nat×Kd)):=[(.exit 0,[(5,.own 110 .str)])]
def nB(x:Shape.den lX):oS lX pM:=match x with
 | (v1,v5,v12,v13,v14,()) =>
  bif ltI v14 v13 then
   bif aF v14 v12.length then aC (mZ (v1,v5,(v12.getD v14.toNat []),(ByteArray.mk #[48]),v12,v13,v14,v1,(v1.length:Int),0,())) λz10 =>
   bif Nat.ble [z10.2.2.1].length 1048576 then bif Nat.ble z10.2.1.length 1048576 then some (.inl (z10.1,(z10.2.1++[z10.2.2.1]),z10.2.2.2.1,z10.2.2.2.2.1,(aB .i64 (z10.2.2.2.2.2.1+1)),())) else none else none else none
  else some (.inr ((v5,())))
def rB(x:Shape.den lX):oX pM:=bH nB (2^64) x
def yB(x:aK [.agg TyG,.list TyE]):oK [.list .str]:=match x with
 | (v0,v1,()) =>
  aC (rB (v1,[],v0.2.2,(v0.2.2.length:Int),0,())) λz11 =>
  some (z11.1,())
def NN:Code:=eA Tryz.f80
abbrev FG:Env:=bL [aD1,VL,J5]
theorem AM:aR tP FG:=aU ⟨aBX,T7,EH,trivial⟩
def qL:Code:=gQ NN 0
def B2:Code:=gQ qL 0
def C7(id:Nat):Option cG:=bif Nat.beq id 7 then some ⟨lU,pO,mZ⟩ else bif Nat.beq id 3 then some ⟨lX,pM,rB⟩ else none
theorem RV:∀ x,iK tP FG 42 (aN Tryz.f80) C7 B2 lU pO x=mV x:=by
 rintro⟨v1,v5,v7,v8,v12,v13,v14,v18,v19,v20,⟨⟩⟩
 kernel_rfl
theorem TZ:eG tP 42 B2 ⟨lU,pO,mZ⟩:=eN AM.callee bC.mixed _ (aO (l:=[]) (by kernel_rfl) trivial) RV
theorem R2:∀ x,iK tP FG 42 (aN Tryz.f80) C7 qL lX pM x=nB x:=by
 rintro⟨v1,v5,v12,v13,v14,⟨⟩⟩
 kernel_rfl
theorem XE:bF qL=[B2]:=by kernel_rfl
theorem TY:eG tP 42 qL ⟨lX,pM,rB⟩:=eN AM.callee bC.mixed _ (aO XE ⟨eL (i:=7) (by kernel_rfl) rfl TZ,trivial⟩) R2
abbrev N6:Ent:=⟨80,_,_,yB⟩
theorem XH:Ent.OK tP N6:=aC9 bC AM Tryz.func80 (c:=NN) (by kernel_rfl) (bV:=aN Tryz.f80) (lt:=C7) (aO (l:=[qL]) (by kernel_rfl) ⟨eL (i:=3) (by kernel_rfl) rfl TY,trivial⟩) (by rintro⟨v0,v1,⟨⟩⟩; kernel_rfl)
def vL(x:aK [.str]):oK [.bool]:=match x with
 | (v0,()) =>
  some (!(eqS v0 (ByteArray.mk #[48])),())
theorem MJ:aR tP (bL []):=aU trivial
abbrev E3:Ent:=⟨81,_,_,vL⟩
theorem M6:Ent.OK tP E3:=oI MJ Tryz.func81 (by kernel_rfl) (by kernel_rfl) (by rintro⟨v0,⟨⟩⟩; kernel_rfl)
abbrev lV:List (Nat×Kd):=[(0,.list .str),(1,.fn 81),(7,.int .i64),(8,.int .i64)]
abbrev sM:List (Ex×List (Nat×Kd)):=[(.ret,[(4,.int .i64)]),(.exit 0,[])]
def cL(x:Shape.den lV):oS lV sM:=match x with
 | (v0,v1,v7,v8,()) =>
  bif ltI v8 v7 then
   bif aF v8 v0.length then aC (vL ((v0.getD v8.toNat ByteArray.empty),())) λy2 =>
   bif y2.1 then
    some (.inr (.inl (v8,())))
   else some (.inl (v0,(),v7,(aB .i64 (v8+1)),())) else none
  else some (.inr (.inr ((()))))
def fI(x:Shape.den lV):oX sM:=bH cL (2^64) x
def jK(x:aK [.list .str,.fn 81]):oK [.int .i64]:=match x with
 | (v0,v1,()) =>
  aC (fI (v0,(),(v0.length:Int),0,())) λz3 =>
  yO z3 (λa4=>some (a4.1,())) λb5 =>
  some ((-1),())
abbrev GF:Env:=bL [E3]
theorem EK:aR tP GF:=aU ⟨M6,trivial⟩
abbrev uS:Ent:=⟨134,_,_,jK⟩
theorem EI:Ent.OK tP uS:=oU EK Tryz.func134 2 (lp:=fI) rfl (by kernel_rfl) (by kernel_rfl) (by kernel_rfl) (by kernel_rfl) (by rintro⟨v0,v1,v7,v8,⟨⟩⟩; kernel_rfl) (by rintro⟨v0,v1,⟨⟩⟩; kernel_rfl)
def dW(x:aK [.list .str,.fn 81]):oK [.bool]:=match x with
 | (v0,v1,()) =>
  aC (jK (v0,(),())) λy1 =>
  some (!(ltI y1.1 0),())
theorem B8:aR tP (bL [uS]):=aU ⟨EI,trivial⟩
abbrev sO:Ent:=⟨79,_,_,dW⟩
theorem B0:Ent.OK tP sO:=oI B8 Tryz.func79 (by kernel_rfl) (by kernel_rfl) (by rintro⟨v0,v1,⟨⟩⟩; kernel_rfl)
def bE(x:aK [.agg TyG,.list TyE]):oK [.bool,.int .i64]:=match x with
 | (v0,v1,()) =>
  aC (AR (v0,[v1],())) λy1 =>
  bif !(eqI y1.1 0) then
   some (false,y1.1,())
  else aC (yB (v0,v1,())) λy2 =>
  aC (dW (y2.1,(),())) λy3 =>
  bif y3.1 then
   some (false,0,())
  else some (true,0,())
theorem QC:aR tP (bL [sO,RA,N6]):=aU ⟨B0,YJ,XH,trivial⟩
abbrev HB:Ent:=⟨26,_,_,bE⟩
theorem Q0:Ent.OK tP HB:=oI QC Tryz.func26 (by kernel_rfl) (by kernel_rfl) (by rintro⟨v0,v1,⟨⟩⟩; kernel_rfl)
def CN(x:aK [.list TyE,.list TyD]):oK [.list TyD,.list TyD,.int .i64]:=match x with
 | (v0,v1,()) =>
  aC (pD (v0,())) λy1 =>
  bif !(eqI y1.1 0) then
   some ([],[],y1.1,())
  else aC (DY ((v0.length:Int),v1,())) λy2 =>
  bif !(eqI y2.2.1 0) then
   some ([],[],y2.2.1,())
  else aC (pK (y2.1,())) λy3 =>
  bif !(eqI y3.2.1 0) then
   some ([],[],y3.2.1,())
  else aC (lO (y2.1,())) λy4 =>
  some (y3.1.2,y4.1.2,y4.2.1,())
theorem ZD:aR tP (bL [wT,aAY,CU,OG]):=aU ⟨zM,Y8,DA,MK,trivial⟩
abbrev SH:Ent:=⟨94,_,_,CN⟩
theorem aAM:Ent.OK tP SH:=oI ZD Tryz.func94 (by kernel_rfl) (by kernel_rfl) (by rintro⟨v0,v1,⟨⟩⟩; kernel_rfl)
def nM(x:aK [.list TyE]):oK [.list TyE]:=match x with
 | (v0,()) =>
  bif Nat.blt 0 v0.length then bif Nat.ble v0.length 1048576 then some (v0,()) else none else none
theorem JD:aR tP (bL []):=aU trivial
abbrev BR:Ent:=⟨95,_,_,nM⟩
theorem JA:Ent.OK tP BR:=oI JD Tryz.func95 (by kernel_rfl) (by kernel_rfl) (by rintro⟨v0,⟨⟩⟩; kernel_rfl)
def dV(x:aK [.list TyE,.list TyD]):oK [.agg TyG,.int .i64]:=match x with
 | (v0,v1,()) =>
  aC (CN (v0,v1,())) λy1 =>
  bif !(eqI y1.2.2.1 0) then
   some (([],([],[])),y1.2.2.1,())
  else aC (nM (v0,())) λy2 =>
  some ((y2.1,(y1.1,y1.2.1)),0,())
theorem QH:aR tP (bL [BR,SH]):=aU ⟨JA,aAM,trivial⟩
abbrev sG:Ent:=⟨39,_,_,dV⟩
theorem uD:Ent.OK tP sG:=oI QH Tryz.func39 (by kernel_rfl) (by kernel_rfl) (by rintro⟨v0,v1,⟨⟩⟩; kernel_rfl)
end Go.PM
namespace Go.PM
open Go Go.RowKit Go.Proofs
set_option maxHeartbeats 4000000
def DK(x:aK [.int .u8]):oK [.list TyE]:=match x with
 | (v0,()) =>
  bif eqI ([[2,3,5],[2,3,5,7],[2,3],[2,3,7],[2,5,7],[3,5,7],[2,3,5,11],[2],[2,3,7,13],[3,5,7,13]].length:Int) 0 then none else bif aF ((IntKind.wrap .i64 v0).tmod ([[2,3,5],[2,3,5,7],[2,3],[2,3,7],[2,5,7],[3,5,7],[2,3,5,11],[2],[2,3,7,13],[3,5,7,13]].length:Int)) [[2,3,5],[2,3,5,7],[2,3],[2,3,7],[2,5,7],[3,5,7],[2,3,5,11],[2],[2,3,7,13],[3,5,7,13]].length then some (([[2,3,5],[2,3,5,7],[2,3],[2,3,7],[2,5,7],[3,5,7],[2,3,5,11],[2],[2,3,7,13],[3,5,7,13]].getD (((IntKind.wrap .i64 v0).tmod ([[2,3,5],[2,3,5,7],[2,3],[2,3,7],[2,5,7],[3,5,7],[2,3,5,11],[2],[2,3,7,13],[3,5,7,13]].length:Int)).toNat) []),()) else none
theorem VD:aR tP (bL []):=aU trivial
abbrev MC:Ent:=⟨63,_,_,DK⟩
theorem UC:Ent.OK tP MC:=oI VD Tryz.func63 (by kernel_rfl) (by kernel_rfl) (by rintro⟨v0,⟨⟩⟩; kernel_rfl)
abbrev vE:List (Nat×Kd):=[(0,.list TyE),(3,.box 52 TyI),(5,.own 3 TyE),(6,.int .i64)]
abbrev E4:List (Ex×List (Nat×Kd)):=[(.exit 0,[(5,.own 3 TyE)])]
def o0(x:Shape.den vE):oS vE E4:=match x with
 | (v0,v3,v5,v6,()) =>
  bif ltI v6 (v0.length:Int) then
   bif ltI v6 4 then
    bif eqI v6 0 then
     bif Nat.ble [((IntKind.wrap .i64 v3.1).tmod 10)].length 1048576 then bif Nat.ble v5.length 1048576 then some (.inl (v0,v3,(v5++[((IntKind.wrap .i64 v3.1).tmod 10)]),(aB .i64 (v6+1)),())) else none else none
    else bif eqI v6 1 then
     bif Nat.ble [((IntKind.wrap .i64 v3.2.1).tmod 10)].length 1048576 then bif Nat.ble v5.length 1048576 then some (.inl (v0,v3,(v5++[((IntKind.wrap .i64 v3.2.1).tmod 10)]),(aB .i64 (v6+1)),())) else none else none
    else bif eqI v6 2 then
     bif Nat.ble [((IntKind.wrap .i64 v3.2.2.1).tmod 10)].length 1048576 then bif Nat.ble v5.length 1048576 then some (.inl (v0,v3,(v5++[((IntKind.wrap .i64 v3.2.2.1).tmod 10)]),(aB .i64 (v6+1)),())) else none else none
    else bif eqI v6 3 then bif Nat.ble [((IntKind.wrap .i64 v3.2.2.2).tmod 10)].length 1048576 then bif Nat.ble v5.length 1048576 then some (.inl (v0,v3,(v5++[((IntKind.wrap .i64 v3.2.2.2).tmod 10)]),(aB .i64 (v6+1)),())) else none else none else none
   else some (.inr ((v5,())))
  else some (.inr ((v5,())))
def tG(x:Shape.den vE):oX E4:=bH o0 (2^64) x
def tA(x:aK [.list TyE,.agg TyI]):oK [.list TyE]:=match x with
 | (v0,v1,()) =>
  aC (tG (v0,v1,[],0,())) λz1 =>
  some (z1.1,())
abbrev WQ:Env:=bL []
theorem R4:aR tP WQ:=aU trivial
abbrev IW:Ent:=⟨64,_,_,tA⟩
theorem RW:Ent.OK tP IW:=oU R4 Tryz.func64 3 (lp:=tG) rfl (by kernel_rfl) (by kernel_rfl) (by kernel_rfl) (by kernel_rfl) (by rintro⟨v0,v3,v5,v6,⟨⟩⟩; kernel_rfl) (by rintro⟨v0,v1,⟨⟩⟩; kernel_rfl)
def pR(x:aK [.list TyE,.list TyD,.bool]):oK [.agg TyG,.int .i64]:=match x with
 | (v0,v1,v2,()) =>
  aC (pD (v0,())) λy1 =>
  bif !(eqI y1.1 0) then
   some (([],([],[])),y1.1,())
  else aC (DY ((v0.length:Int),v1,())) λy2 =>
  bif !(eqI y2.2.1 0) then
   some (([],([],[])),y2.2.1,())
  else aC (pK (y2.1,())) λy3 =>
  aC (lO (y2.1,())) λy4 =>
  bif !(eqI y3.2.1 0) then
   some (([],([],[])),4,())
  else bif !(eqI y4.2.1 0) then
   some (([],([],[])),4,())
  else bif v2 then
   some ((v0,(y4.1.2,y3.1.2)),0,())
  else some ((v0,(y3.1.2,y4.1.2)),0,())
theorem VQ:aR tP (bL [wT,aAY,CU,OG]):=aU ⟨zM,Y8,DA,MK,trivial⟩
abbrev NU:Ent:=⟨65,_,_,pR⟩
theorem WI:Ent.OK tP NU:=oI VQ Tryz.func65 (by kernel_rfl) (by kernel_rfl) (by rintro⟨v0,v1,v2,⟨⟩⟩; kernel_rfl)
abbrev CD:List (Nat×Kd):=[(1,.box 24 TyP),(2,.box 35 TyG),(3,.list TyE),(4,.own 53 TyD),(5,.int .i64)]
abbrev JN:List (Ex×List (Nat×Kd)):=[(.exit 0,[(1,.box 24 TyP),(2,.box 35 TyG),(3,.list TyE),(4,.own 53 TyD)])]
def r8(x:Shape.den CD):oS CD JN:=match x with
 | (v1,v2,v3,v4,v5,()) =>
  bif ltI v5 (v1.2.1.length:Int) then
   bif ltI v5 3 then
    bif aF v5 v1.2.1.length then aC (tA (v3,((v1.2.1.getD v5.toNat (0,(0,(0,0)))).1,((v1.2.1.getD v5.toNat (0,(0,(0,0)))).2.1,((v1.2.1.getD v5.toNat (0,(0,(0,0)))).2.2.1,(v1.2.1.getD v5.toNat (0,(0,(0,0)))).2.2.2))),())) λy3 =>
    bif Nat.ble [y3.1].length 1048576 then bif Nat.ble v4.length 1048576 then some (.inl (v1,v2,v3,(v4++[y3.1]),(aB .i64 (v5+1)),())) else none else none else none
   else some (.inr ((v1,v2,v3,v4,())))
  else some (.inr ((v1,v2,v3,v4,())))
def yT(x:Shape.den CD):oX JN:=bH r8 (2^64) x
def nR(x:aK [.agg TyP]):oK [.agg TyG]:=match x with
 | (v0,()) =>
  aC (DK (v0.1,())) λy1 =>
  aC (yT (v0,([],([],[])),y1.1,[],0,())) λz4 =>
  aC (pR (z4.2.2.1,z4.2.2.2.1,z4.1.2.2,())) λy5 =>
  some (y5.1,())
abbrev aDN:Env:=bL [IW,MC,NU]
theorem YK:aR tP aDN:=aU ⟨RW,UC,WI,trivial⟩
abbrev P4:Ent:=⟨15,_,_,nR⟩
theorem YR:Ent.OK tP P4:=oU YK Tryz.func15 4 (lp:=yT) rfl (by kernel_rfl) (by kernel_rfl) (by kernel_rfl) (by kernel_rfl) (by rintro⟨v1,v2,v3,v4,v5,⟨⟩⟩; kernel_rfl) (by rintro⟨v0,⟨⟩⟩; kernel_rfl)
def uE(x:aK [.agg TyP]):oK [.bool]:=match x with
 | (v0,()) =>
  some (!(ltI 3 (v0.2.1.length:Int)),())
theorem YA:aR tP (bL []):=aU trivial
abbrev PW:Ent:=⟨13,_,_,uE⟩
theorem YP:Ent.OK tP PW:=oI YA Tryz.func13 (by kernel_rfl) (by kernel_rfl) (by rintro⟨v0,⟨⟩⟩; kernel_rfl)
def BC(x:aK [.agg TyQ]):oK [.agg TyG,.agg TyG]:=match x with
 | (v0,()) =>
  bif v0.2.2 then
   aC (nR (v0.1,())) λy1 =>
   aC (nR ((v0.1.1,v0.2.1.2),())) λy2 =>
   some (y1.1,y2.1,())
  else aC (nR (v0.1,())) λy3 =>
  aC (nR (v0.2.1,())) λy4 =>
  some (y3.1,y4.1,())
theorem YS:aR tP (bL [P4]):=aU ⟨YR,trivial⟩
abbrev Q7:Ent:=⟨14,_,_,BC⟩
theorem YI:Ent.OK tP Q7:=oI YS Tryz.func14 (by kernel_rfl) (by kernel_rfl) (by rintro⟨v0,⟨⟩⟩; kernel_rfl)
def uH(x:aK [.agg TyQ]):oK [.bool]:=match x with
 | (v0,()) =>
  aC (uE (v0.1,())) λy1 =>
  bif y1.1 then
   aC (uE (v0.2.1,())) λy2 =>
   some (y2.1,())
  else some (false,())
theorem YU:aR tP (bL [PW]):=aU ⟨YP,trivial⟩
abbrev PZ:Ent:=⟨12,_,_,uH⟩
theorem YZ:Ent.OK tP PZ:=oI YU Tryz.func12 (by kernel_rfl) (by kernel_rfl) (by rintro⟨v0,⟨⟩⟩; kernel_rfl)
abbrev oR:List (Nat×Kd):=[(0,.list TyG),(8,.list TyG),(9,.int .i64),(10,.int .i64)]
abbrev rT:List (Ex×List (Nat×Kd)):=[(.ret,[(2,.int .i64)]),(.exit 0,[(0,.list TyG)])]
def pH(x:Shape.den oR):oS oR rT:=match x with
 | (v0,v8,v9,v10,()) =>
  bif ltI v10 v9 then
   bif aF v10 v8.length then aC (fA (((v8.getD v10.toNat ([],([],[]))).1,((v8.getD v10.toNat ([],([],[]))).2.1,(v8.getD v10.toNat ([],([],[]))).2.2)),())) λy2 =>
   bif !(eqI y2.1 0) then
    some (.inr (.inl (y2.1,())))
   else some (.inl (v0,v8,v9,(aB .i64 (v10+1)),())) else none
  else some (.inr (.inr ((v0,()))))
def sZ(x:Shape.den oR):oX rT:=bH pH (2^64) x
abbrev nZ:List (Nat×Kd):=[(0,.list TyG),(20,.list TyG),(21,.int .i64),(22,.int .i64)]
abbrev rY:List (Ex×List (Nat×Kd)):=[(.ret,[(2,.int .i64)]),(.exit 2,[])]
def jG(x:Shape.den nZ):oS nZ rY:=match x with
 | (v0,v20,v21,v22,()) =>
  bif ltI v22 v21 then
   bif aF v22 v20.length then bif aF 0 v0.length then aC (dY ((v20.getD v22.toNat ([],([],[]))).1,(v0.getD 0 ([],([],[]))).1,())) λy7 =>
   bif y7.1 then
    some (.inl (v0,v20,v21,(aB .i64 (v22+1)),()))
   else some (.inr (.inl (14,()))) else none else none
  else some (.inr (.inr ((()))))
def pE(x:Shape.den nZ):oX rY:=bH jG (2^64) x
def kS(x:aK [.list TyG]):oK [.int .i64]:=match x with
 | (v0,()) =>
  aC (sZ (v0,v0,(v0.length:Int),0,())) λz3 =>
  yO z3 (λa4=>some (a4.1,())) λb5 =>
  aC (pE (b5.1,b5.1,(b5.1.length:Int),0,())) λz8 =>
  yO z8 (λa9=>some (a9.1,())) λb10 =>
  some (0,())
def H6:Code:=eA Tryz.f66
abbrev IN:Env:=bL [BM,GL]
theorem CZ:aR tP IN:=aU ⟨JC,JH,trivial⟩
def FB:Code:=gQ H6 0
def E9:Code:=gQ H6 1
def GV(id:Nat):Option cG:=bif Nat.beq id 2 then some ⟨oR,rT,sZ⟩ else bif Nat.beq id 9 then some ⟨nZ,rY,pE⟩ else none
theorem T8:∀ x,iK tP IN 35 (aN Tryz.f66) GV FB oR rT x=pH x:=by
 rintro⟨v0,v8,v9,v10,⟨⟩⟩
 kernel_rfl
theorem WS:eG tP 35 FB ⟨oR,rT,sZ⟩:=eN CZ.callee bC.mixed _ (aO (l:=[]) (by kernel_rfl) trivial) T8
theorem UW:∀ x,iK tP IN 35 (aN Tryz.f66) GV E9 nZ rY x=jG x:=by
 rintro⟨v0,v20,v21,v22,⟨⟩⟩
 kernel_rfl
theorem V4:eG tP 35 E9 ⟨nZ,rY,pE⟩:=eN CZ.callee bC.mixed _ (aO (l:=[]) (by kernel_rfl) trivial) UW
abbrev CT:Ent:=⟨66,_,_,kS⟩
theorem DI:Ent.OK tP CT:=aC9 bC CZ Tryz.func66 (c:=H6) (by kernel_rfl) (bV:=aN Tryz.f66) (lt:=GV) (aO (l:=[FB,E9]) (by kernel_rfl) ⟨eL (i:=2) (by kernel_rfl) rfl WS,eL (i:=9) (by kernel_rfl) rfl V4,trivial⟩) (by rintro⟨v0,⟨⟩⟩; kernel_rfl)
def jH(x:aK [.agg TyG]):oK [.agg TyH]:=match x with
 | (v0,()) =>
  some (((v0.1.length:Int),v0.2.1),())
theorem YQ:aR tP (bL []):=aU trivial
abbrev AW:Ent:=⟨69,_,_,jH⟩
theorem CA:Ent.OK tP AW:=oI YQ Tryz.func69 (by kernel_rfl) (by kernel_rfl) (by rintro⟨v0,⟨⟩⟩; kernel_rfl)
def NX(x:aK [.agg TyG,.agg TyG]):oK [.bool,.int .i64]:=match x with
 | (v0,v1,()) =>
  aC (jH (v0,())) λy1 =>
  aC (jH (v1,())) λy2 =>
  aC (XY (y1.1,y2.1,())) λy3 =>
  some (y3.1,y3.2.1,())
theorem WU:aR tP (bL [X3,AW]):=aU ⟨aCP,CA,trivial⟩
abbrev NM:Ent:=⟨70,_,_,NX⟩
theorem VN:Ent.OK tP NM:=oI WU Tryz.func70 (by kernel_rfl) (by kernel_rfl) (by rintro⟨v0,v1,⟨⟩⟩; kernel_rfl)
def yG(x:aK [.agg TyG,.agg TyG]):oK [.bool,.int .i64]:=match x with
 | (v0,v1,()) =>
  aC (kS ([v0,v1],())) λy1 =>
  bif !(eqI y1.1 0) then
   some (false,y1.1,())
  else aC (NX (v0,v1,())) λy2 =>
  some (y2.1,y2.2.1,())
theorem WR:aR tP (bL [CT,NM]):=aU ⟨DI,VN,trivial⟩
abbrev FJ:Ent:=⟨18,_,_,yG⟩
theorem IC:Ent.OK tP FJ:=oI WR Tryz.func18 (by kernel_rfl) (by kernel_rfl) (by rintro⟨v0,v1,⟨⟩⟩; kernel_rfl)
def NV(x:aK [.agg TyG,.agg TyG]):oK [.int .i64]:=match x with
 | (v0,v1,()) =>
  aC (yG (v0,v1,())) λy1 =>
  bif !(eqI y1.2.1 0) then
   some (y1.2.1,())
  else bif y1.1 then
   some (0,())
  else some (6,())
theorem WA:aR tP (bL [FJ]):=aU ⟨IC,trivial⟩
abbrev NW:Ent:=⟨82,_,_,NV⟩
theorem VV:Ent.OK tP NW:=oI WA Tryz.func82 (by kernel_rfl) (by kernel_rfl) (by rintro⟨v0,v1,⟨⟩⟩; kernel_rfl)
def IZ(x:aK [.agg TyG,.agg TyG]):oK [.int .i64,.int .i64]:=match x with
 | (v0,v1,()) =>
  aC (NV (v0,v1,())) λy1 =>
  bif !(eqI y1.1 0) then
   some (0,y1.1,())
  else some ((aB .i64 ((v1.2.1.length:Int)-(v0.2.1.length:Int))),0,())
theorem ZL:aR tP (bL [NW]):=aU ⟨VV,trivial⟩
abbrev SP:Ent:=⟨27,_,_,IZ⟩
theorem ZA:Ent.OK tP SP:=oI ZL Tryz.func27 (by kernel_rfl) (by kernel_rfl) (by rintro⟨v0,v1,⟨⟩⟩; kernel_rfl)
end Go.PM
namespace Go.PM
open Go Go.RowKit Go.Proofs
set_option maxHeartbeats 4000000
def cI(x:aK [.nil0,.int .i64]):Option (List ByteArray):=match x with
 | (v0,v1,()) =>
  bif ltI v1 0 then none else bif ltI 0 (aB .i64 (v1-0)) then
   bif !(ltI (aB .i64 (v1-0)) 0) then bif !(ltI 1048576 (aB .i64 (v1-0))) then bif Nat.ble 0 0 then bif Nat.ble 0 ((List.replicate (aB .i64 (v1-0)).toNat (ByteArray.empty:Ty.den .str)).length) then bif Nat.blt 0 ((List.replicate (aB .i64 (v1-0)).toNat (ByteArray.empty:Ty.den .str)).length) then some ((List.replicate (aB .i64 (v1-0)).toNat (ByteArray.empty:Ty.den .str)).take (0-0)) else none else none else none else none else none
  else some []
def mT:Code:=eA Tryz.f162
abbrev tS:Env:=bL []
theorem DX:aR tP tS:=aU trivial
def sY(id:Nat):Option cG:=none
theorem CX:bF mT=[]:=by kernel_rfl
theorem DT:∀ x,aSE tP tS Tryz.f162 (aN Tryz.f162) sY mT [.nil0,.int .i64] 4 110 .str x=cI x:=by
 rintro⟨v0,v1,⟨⟩⟩
 kernel_rfl
theorem FI:aSP tP 162 [.nil0,.int .i64] 110 .str cI:=aPP bC DX Tryz.func162 (c:=mT) (by kernel_rfl) (bV:=aN Tryz.f162) (lt:=sY) (t:=4) (by kernel_rfl) (aO CX trivial) DT
abbrev tN:Shr:=(162,aZ9 [.nil0,.int .i64] 110 .str cI)
theorem C9:vA tP tN:=aPB FI
abbrev cE:List (Nat×Kd):=[(0,.list (.list .str)),(3,.int .i64),(9,.list (.list .str)),(10,.int .i64),(11,.int .i64)]
abbrev dC:List (Ex×List (Nat×Kd)):=[(.exit 0,[(0,.list (.list .str)),(3,.int .i64)])]
def b9(x:Shape.den cE):oS cE dC:=match x with
 | (v0,v3,v9,v10,v11,()) =>
  bif ltI v11 v10 then
   bif aF v11 v9.length then bif ltI (aB .i64 (v3+((v9.getD v11.toNat []).length:Int))) 0 then none else some (.inl (v0,(aB .i64 (v3+((v9.getD v11.toNat []).length:Int))),v9,v10,(aB .i64 (v11+1)),())) else none
  else some (.inr ((v0,v3,())))
def eQ(x:Shape.den cE):oX dC:=bH b9 (2^64) x
abbrev cF:List (Nat×Kd):=[(6,.own 110 .str),(25,.list (.list .str)),(26,.int .i64),(27,.int .i64)]
abbrev dD:List (Ex×List (Nat×Kd)):=[(.exit 2,[(6,.own 110 .str)])]
def cB(x:Shape.den cF):oS cF dD:=match x with
 | (v6,v25,v26,v27,()) =>
  bif ltI v27 v26 then
   bif aF v27 v25.length then bif Nat.ble (v25.getD v27.toNat []).length 1048576 then bif Nat.ble v6.length 1048576 then some (.inl ((v6++(v25.getD v27.toNat [])),v25,v26,(aB .i64 (v27+1)),())) else none else none else none
  else some (.inr ((v6,())))
def eP(x:Shape.den cF):oX dD:=bH cB (2^64) x
def cA(x:aK [.list (.list .str)]):Option (List ByteArray):=match x with
 | (v0,()) =>
  aC (eQ (v0,0,v0,(v0.length:Int),0,())) λz1 =>
  aC (cI ((),z1.2.1,())) λy2 =>
  aC (eP (y2,z1.1,(z1.1.length:Int),0,())) λz3 =>
  some z3.1
def dQ:Code:=eA Tryz.f118
abbrev gC:Env:=ME [] [tN]
theorem kF:aR tP gC:=nI trivial ⟨C9,trivial⟩
def kV:Code:=gQ dQ 0
def kW:Code:=gQ dQ 1
def fW(id:Nat):Option cG:=bif Nat.beq id 3 then some ⟨cE,dC,eQ⟩ else bif Nat.beq id 11 then some ⟨cF,dD,eP⟩ else none
theorem zO:∀ x,iK tP gC 36 (aN Tryz.f118) fW kV cE dC x=b9 x:=by
 rintro⟨v0,v3,v9,v10,v11,⟨⟩⟩
 kernel_rfl
theorem AV:eG tP 36 kV ⟨cE,dC,eQ⟩:=eN kF.callee bC.mixed _ (aO (l:=[]) (by kernel_rfl) trivial) zO
theorem zS:∀ x,iK tP gC 36 (aN Tryz.f118) fW kW cF dD x=cB x:=by
 rintro⟨v6,v25,v26,v27,⟨⟩⟩
 kernel_rfl
theorem AK:eG tP 36 kW ⟨cF,dD,eP⟩:=eN kF.callee bC.mixed _ (aO (l:=[]) (by kernel_rfl) trivial) zS
theorem BQ:bF dQ=[kV,kW]:=by kernel_rfl
theorem B4:∀ x,aSE tP gC Tryz.f118 (aN Tryz.f118) fW dQ [.list (.list .str)] 2 110 .str x=cA x:=by
 rintro⟨v0,⟨⟩⟩
 kernel_rfl
theorem DQ:aSP tP 118 [.list (.list .str)] 110 .str cA:=aPP bC kF Tryz.func118 (c:=dQ) (by kernel_rfl) (bV:=aN Tryz.f118) (lt:=fW) (t:=2) (by kernel_rfl) (aO BQ ⟨eL (i:=3) (by kernel_rfl) rfl AV,eL (i:=11) (by kernel_rfl) rfl AK,trivial⟩) B4
abbrev sN:Shr:=(118,aZ9 [.list (.list .str)] 110 .str cA)
theorem B9:vA tP sN:=aPB DQ
abbrev mO:List (Nat×Kd):=[(3,.ptr TyH),(4,.bag 98 TyE 53 TyD none),(7,.int .i64),(8,.own 148 (.hnd 1)),(23,.list TyD),(24,.int .i64),(25,.int .i64),(100000,.ar 110 .str)]
abbrev p8:List (Ex×List (Nat×Kd)):=[(.exit 0,[(3,.ptr TyH),(4,.bag 98 TyE 53 TyD none),(7,.int .i64),(8,.own 148 (.hnd 1)),(100000,.ar 110 .str)])]
def nW(x:Shape.den mO):oS mO p8:=match x with
 | (v3,v4,v7,v8,v23,v24,v25,v100000,()) =>
  bif ltI v25 v24 then
   bif aF v25 v23.length then aC (oB ((v23.getD v25.toNat []),())) λy5 =>
   aC (oB ((v23.getD v25.toNat []),())) λy6 =>
   aC (cA ([y5.1,y6.1],())) λy7 =>
   bif Nat.ble [(v100000.length,0,y7.length)].length 1048576 then bif Nat.ble v8.length 1048576 then some (.inl (v3,(v4.1,(v4.2.1,())),v7,(v8++[(v100000.length,0,y7.length)]),v23,v24,(aB .i64 (v25+1)),(v100000++[y7]),())) else none else none else none
  else some (.inr ((v3,(v4.1,(v4.2.1,())),v7,v8,v100000,())))
def sJ(x:Shape.den mO):oX p8:=bH nW (2^64) x
abbrev mN:List (Nat×Kd):=[(4,.bag 98 TyE 53 TyD none),(7,.int .i64),(8,.own 148 (.hnd 1)),(40,.list TyD),(41,.int .i64),(42,.int .i64),(100000,.ar 110 .str)]
abbrev qJ:List (Ex×List (Nat×Kd)):=[(.exit 2,[(4,.bag 98 TyE 53 TyD none),(7,.int .i64),(8,.own 148 (.hnd 1)),(100000,.ar 110 .str)])]
def nY(x:Shape.den mN):oS mN qJ:=match x with
 | (v4,v7,v8,v40,v41,v42,v100000,()) =>
  bif ltI v42 v41 then
   bif aF v42 v40.length then aC (oB ((v40.getD v42.toNat []),())) λy12 =>
   aC (mK () (v7,()) v100000) λy13 =>
   aC (cA ([y12.1,y13.1],())) λy14 =>
   bif Nat.ble [(y13.2.length,0,y14.length)].length 1048576 then bif Nat.ble v8.length 1048576 then some (.inl ((v4.1,(v4.2.1,())),v7,(v8++[(y13.2.length,0,y14.length)]),v40,v41,(aB .i64 (v42+1)),(y13.2++[y14]),())) else none else none else none
  else some (.inr (((v4.1,(v4.2.1,())),v7,v8,v100000,())))
def sF(x:Shape.den mN):oX qJ:=bH nY (2^64) x
def nQ(x:aK [.agg TyH,.agg TyH]):oK [.agg TyH,.int .i64]:=match x with
 | (v0,v1,()) =>
  aC (qQ (v0,v1,())) λy1 =>
  bif !(eqI y1.1 0) then
   some ((0,[]),y1.1,())
  else aC (sJ (v1,(0,([],())),v0.1,[],v0.2,(v0.2.length:Int),0,[],())) λz8 =>
  aC (sF ((z8.2.1.1,(z8.2.1.2.1,())),z8.2.2.1,z8.2.2.2.1,z8.1.2,(z8.1.2.length:Int),0,z8.2.2.2.2.1,())) λz15 =>
  aC (cP z15.2.2.1 ((aB .i64 (2*z15.2.1)),()) z15.2.2.2.1) λy16 =>
  aC (dK () (y16.1,z15.2.1,z15.2.1,()) y16.2) λy17 =>
  aC (cO y17.1 (z15.2.1,()) y17.2) λy18 =>
  some (y18.1.1,y18.1.2.1,())
def uI:Code:=eA Tryz.f68
abbrev AU:Env:=ME [A6,JW] [xI,kX,kZ,IA,sN]
theorem B1:aR tP AU:=nI ⟨B3,N3,trivial⟩ ⟨CW,lI,lP,L5,B9,trivial⟩
def D4:Code:=inLoop (aSL uI 0)
def DD:Code:=inLoop (aSL uI 1)
def yE(id:Nat):Option cG:=bif Nat.beq id 7 then some ⟨mO,p8,sJ⟩ else bif Nat.beq id 12 then some ⟨mN,qJ,sF⟩ else none
def yD(id:Nat):Option cG:=none
theorem TH:∀ x,aPK tP AU 67 (aB2 Tryz.f68) yE yD false [] D4 mO p8 x=nW x:=by
 rintro⟨v3,v4,v7,v8,v23,v24,v25,v100000,⟨⟩⟩
 kernel_rfl
theorem UK:UE tP 67 false [] (.loop D4) ⟨mO,p8,sJ⟩:=aKJ B1.callee bC.mixed _ (W7 (l:=[]) (by kernel_rfl) trivial) TH
theorem TO:∀ x,aPK tP AU 67 (aB2 Tryz.f68) yE yD false [] DD mN qJ x=nY x:=by
 rintro⟨v4,v7,v8,v40,v41,v42,v100000,⟨⟩⟩
 kernel_rfl
theorem VA:UE tP 67 false [] (.loop DD) ⟨mN,qJ,sF⟩:=aKJ B1.callee bC.mixed _ (W7 (l:=[]) (by kernel_rfl) trivial) TO
theorem XK:iG uI=[.loop D4,.loop DD]:=by kernel_rfl
theorem YC:∀ x,aVZ tP AU Tryz.f68 (aB2 Tryz.f68) yE yD uI 110 .str _ _ x=nQ x:=by
 rintro⟨v0,v1,⟨⟩⟩
 kernel_rfl
abbrev QS:Ent:=⟨68,_,_,nQ⟩
theorem X4:Ent.OK tP QS:=a6J bC B1 Tryz.func68 (c:=uI) (by kernel_rfl) (bV:=aB2 Tryz.f68) (lt:=yE) (rt:=yD) (W7 XK ⟨aKM (i:=7) (by kernel_rfl) rfl UK,aKM (i:=12) (by kernel_rfl) rfl VA,trivial⟩) YC
end Go.PM
namespace Go.PM
open Go Go.RowKit Go.Proofs
set_option maxHeartbeats 4000000
def ED(x:aK [.agg TyG,.agg TyG]):oK [.agg TyG,.int .i64]:=match x with
 | (v0,v1,()) =>
  aC (jH (v0,())) λy1 =>
  aC (jH (v1,())) λy2 =>
  aC (I5 (y1.1,y2.1,())) λy3 =>
  bif !(eqI y3.2.1 0) then
   some (([],([],[])),y3.2.1,())
  else aC (dV (v0.1,y3.1.2,())) λy4 =>
  some (y4.1,y4.2.1,())
theorem aBF:aR tP (bL [aEY,AW,sG]):=aU ⟨aI4,CA,uD,trivial⟩
abbrev UZ:Ent:=⟨67,_,_,ED⟩
theorem aBS:Ent.OK tP UZ:=oI aBF Tryz.func67 (by kernel_rfl) (by kernel_rfl) (by rintro⟨v0,v1,⟨⟩⟩; kernel_rfl)
def tW(x:aK [.agg TyG,.agg TyG]):oK [.agg TyG,.int .i64]:=match x with
 | (v0,v1,()) =>
  aC (kS ([v0,v1],())) λy1 =>
  bif !(eqI y1.1 0) then
   some (([],([],[])),y1.1,())
  else aC (ED (v0,v1,())) λy2 =>
  some (y2.1,y2.2.1,())
theorem aBL:aR tP (bL [CT,UZ]):=aU ⟨DI,aBS,trivial⟩
abbrev J6:Ent:=⟨16,_,_,tW⟩
theorem N1:Ent.OK tP J6:=oI aBL Tryz.func16 (by kernel_rfl) (by kernel_rfl) (by rintro⟨v0,v1,⟨⟩⟩; kernel_rfl)
def tX(x:aK [.agg TyG,.agg TyG]):oK [.agg TyG,.int .i64]:=match x with
 | (v0,v1,()) =>
  aC (kS ([v0,v1],())) λy1 =>
  bif !(eqI y1.1 0) then
   some (([],([],[])),y1.1,())
  else aC (jH (v0,())) λy2 =>
  aC (jH (v1,())) λy3 =>
  aC (nQ (y2.1,y3.1,())) λy4 =>
  bif !(eqI y4.2.1 0) then
   some (([],([],[])),y4.2.1,())
  else aC (dV (v0.1,y4.1.2,())) λy5 =>
  some (y5.1,y5.2.1,())
theorem aBI:aR tP (bL [QS,CT,AW,sG]):=aU ⟨X4,DI,CA,uD,trivial⟩
abbrev KT:Ent:=⟨17,_,_,tX⟩
theorem NR:Ent.OK tP KT:=oI aBI Tryz.func17 (by kernel_rfl) (by kernel_rfl) (by rintro⟨v0,v1,⟨⟩⟩; kernel_rfl)
end Go.PM
namespace Go.PM
open Go Go.RowKit Go.Proofs
set_option maxHeartbeats 4000000
def NQ(hrefinement_Join:aK [.agg TyG,.agg TyG]->Option (aK [.agg TyG,.int .i64])) (hrefinement_Meet:aK [.agg TyG,.agg TyG]->Option (aK [.agg TyG,.int .i64])) (hrefinement_Refines:aK [.agg TyG,.agg TyG]->Option (aK [.bool,.int .i64])) (hrefinement_Steps:aK [.agg TyG,.agg TyG]->Option (aK [.int .i64,.int .i64])) (hslices_Equal_api_Row_int:aK [.list TyE,.list TyE]->Option (aK [.bool])) (htemperament_FromCommas:aK [.list TyE,.list TyD]->Option (aK [.agg TyG,.int .i64])) (x:aK []):Option (aK [.bool]):=match x with
 | (()) =>
  aC (htemperament_FromCommas ([2,3,5],[[(-4),4,(-1)]],())) λy1 =>
  aC (htemperament_FromCommas ([2,3,5],[[7,0,(-3)]],())) λy2 =>
  aC (hrefinement_Join (y1.1,y2.1,())) λy3 =>
  aC (hrefinement_Meet (y1.1,y2.1,())) λy4 =>
  aC (hrefinement_Steps (y1.1,y3.1,())) λy5 =>
  aC (hrefinement_Refines (y1.1,y2.1,())) λy6 =>
  bif eqI y1.2.1 0 then
   bif eqI y2.2.1 0 then
    bif eqI y3.2.1 0 then
     bif eqI y4.2.1 0 then
      bif eqI y5.2.1 0 then
       bif eqI y6.2.1 0 then
        bif eqI (y3.1.2.2.length:Int) 1 then
         bif aF 0 y3.1.2.2.length then aC (hslices_Equal_api_Row_int ((y3.1.2.2.getD 0 []),[12,19,28],())) λy7 =>
         bif y7.1 then
          bif eqI (y4.1.2.1.length:Int) 0 then
           bif eqI (y4.1.2.2.length:Int) 3 then
            bif eqI y5.1 1 then
             bif y6.1 then
              some (false,())
             else some (true,())
            else some (false,())
           else some (false,())
          else some (false,())
         else some (false,()) else none
        else some (false,())
       else some (false,())
      else some (false,())
     else some (false,())
    else some (false,())
   else some (false,())
  else some (false,())
def yH(x:aK []):Option (aK [.bool]):=NQ tW tX yG IZ dA dV x
def yF:Code:=eA Tryz.f11
abbrev N2:Env:=bL [J6,KT,FJ,SP,p5,sG]
theorem VW:aR tP N2:=aU ⟨N1,NR,IC,ZA,sR,uD,trivial⟩
def D6(id:Nat):Option cG:=none
theorem UY:bF yF=[]:=by kernel_rfl
theorem U2(hrefinement_Join:aK [.agg TyG,.agg TyG]->Option (aK [.agg TyG,.int .i64]))(hrefinement_Meet:aK [.agg TyG,.agg TyG]->Option (aK [.agg TyG,.int .i64]))(hrefinement_Refines:aK [.agg TyG,.agg TyG]->Option (aK [.bool,.int .i64]))(hrefinement_Steps:aK [.agg TyG,.agg TyG]->Option (aK [.int .i64,.int .i64]))(hslices_Equal_api_Row_int:aK [.list TyE,.list TyE]->Option (aK [.bool]))(htemperament_FromCommas:aK [.list TyE,.list TyD]->Option (aK [.agg TyG,.int .i64])):∀ x,aNR tP (bL [⟨16,[.agg TyG,.agg TyG],[.agg TyG,.int .i64],hrefinement_Join⟩,⟨17,[.agg TyG,.agg TyG],[.agg TyG,.int .i64],hrefinement_Meet⟩,⟨18,[.agg TyG,.agg TyG],[.bool,.int .i64],hrefinement_Refines⟩,⟨27,[.agg TyG,.agg TyG],[.int .i64,.int .i64],hrefinement_Steps⟩,⟨62,[.list TyE,.list TyE],[.bool],hslices_Equal_api_Row_int⟩,⟨39,[.list TyE,.list TyD],[.agg TyG,.int .i64],htemperament_FromCommas⟩]) Tryz.f11 (aN Tryz.f11) D6 yF [] [.bool] x=NQ hrefinement_Join hrefinement_Meet hrefinement_Refines hrefinement_Steps hslices_Equal_api_Row_int htemperament_FromCommas x:=by
 rintro⟨⟩
 kernel_rfl
theorem XO:∀ x,aNR tP N2 Tryz.f11 (aN Tryz.f11) D6 yF _ _ x=yH x:=U2 tW tX yG IZ dA dV
theorem ZS:ZE tP 11 _ _ yH:=aC9 bC VW Tryz.func11 (c:=yF) (by kernel_rfl) (bV:=aN Tryz.f11) (lt:=D6) (aO UY trivial) XO
def gU(x:aK []):oK [.bool]:=some (true,())
theorem V7:∀ x,yH x=gU x:=by
 rintro⟨⟩
 kernel_rfl
theorem aAE:ZE tP 11 _ _ gU:=by
 have h:yH=gU:=funext V7;rw[<- h];exact ZS
abbrev NP:Ent:=⟨11,_,_,gU⟩
theorem XJ:Ent.OK tP NP:=aAE
end Go.PM
namespace Go.PM
open Go Go.RowKit Go.Proofs Go.Lz
theorem JQ {α:Type}(z:α):∀ {a b:List α},a.length=b.length->a≠b->∃ x,x<a.length/\(∀ y,y<x->a.getD y z=b.getD y z)/\a.getD x z≠b.getD x z
 | [],[],_,h=>absurd rfl h
 | [],_::_,h,_=>by simp at h
 | _::_,[],h,_=>by simp at h
 | s::a,t::b,hl,h=>by
  by_cases e:s=t
  ·subst e;obtain⟨x,h1,h2,h3⟩:=JQ z (a:=a) (b:=b) (by simpa using hl) (λe=>h (by rw[e]));refine⟨x+1,by simpa using h1,λy hy=>?_,by simpa using h3⟩;cases y with
   | zero=>rfl
   | succ y=>simpa using h2 y (by omega)
  ·exact⟨0,by simp,λy hy=>by omega,by simpa using e⟩
theorem aNH(a b:List Int)(ha:a.length<1048576):dA (a,b,())=some (decide (a=b),()):=by
 by_cases hl:a.length=b.length
 ·have e0:eqI (a.length:Int) (b.length:Int)=true:=by rw[iL]; exact oT (by omega)
  have step:∀ t,t<a.length->∀ c,decide (a.getD t 0=b.getD t 0)=c->eV (a,b,(a.length:Int),(t:Int),())=(bif c then some (.inl (a,b,(a.length:Int),((t+1:Nat):Int),())) else some (.inr (.inl (false,())))):=λt ht c hc=>by
   have e1:ltI (t:Int) (a.length:Int)=true:=by rw[aD]; exact oT (by omega)
   have e2:aF (t:Int) a.length=true:=by rw[aM]; exact oT (by omega)
   have e3:aF (t:Int) b.length=true:=by rw[aM]; exact oT (by omega)
   have e4:((t:Nat):Int).toNat=t:=oN _;have e5:=cC t (by omega);simp only[eV,e1,e2,e3,e4,e5,oC,iL,hc];cases c <;> rfl
  by_cases he:a=b
  ·subst he;have key:=aV (step:=eV) (N:=2^64) (λt=>(a,a,(a.length:Int),(t:Int),())) a.length (.inr ()) (by omega) (λt ht=>step t ht true (by simp)) (by
    have e1:ltI (a.length:Int) (a.length:Int)=false:=by rw[aD]; exact oF (by omega)
    simp only[eV,e1,oD])
   have key:lW (a,a,(a.length:Int),0,())=_:=key;simp only[dA,e0,Bool.not_true,oD,key,aE,mP,decide_true]
  ·obtain⟨x,h1,h2,h3⟩:=JQ 0 hl he;have key:=aV (step:=eV) (N:=2^64) (λt=>(a,b,(a.length:Int),(t:Int),())) x (.inl (false,())) (by omega) (λt ht=>step t (by omega) true (oT (h2 t ht))) (step x h1 false (oF h3));have key:lW (a,b,(a.length:Int),0,())=_:=key;simp only[dA,e0,Bool.not_true,oD,key,aE,HK,oF he]
 ·have e0:eqI (a.length:Int) (b.length:Int)=false:=by rw[iL]; exact oF (by omega)
  have he:¬ a=b:=λe=>hl (by rw[e])
  simp only[dA,e0,Bool.not_false,oC,oF he]
theorem aPA(a b:List Int)(ha:a.length<1048576):dY (a,b,())=some (decide (a=b),()):=by
 by_cases hl:a.length=b.length
 ·have e0:eqI (a.length:Int) (b.length:Int)=true:=by rw[iL]; exact oT (by omega)
  have step:∀ t,t<a.length->∀ c,decide (a.getD t 0=b.getD t 0)=c->dN (a,b,(a.length:Int),(t:Int),())=(bif c then some (.inl (a,b,(a.length:Int),((t+1:Nat):Int),())) else some (.inr (.inl (false,())))):=λt ht c hc=>by
   have e1:ltI (t:Int) (a.length:Int)=true:=by rw[aD]; exact oT (by omega)
   have e2:aF (t:Int) a.length=true:=by rw[aM]; exact oT (by omega)
   have e3:aF (t:Int) b.length=true:=by rw[aM]; exact oT (by omega)
   have e4:((t:Nat):Int).toNat=t:=oN _;have e5:=cC t (by omega);simp only[dN,e1,e2,e3,e4,e5,oC,iL,hc];cases c <;> rfl
  by_cases he:a=b
  ·subst he;have key:=aV (step:=dN) (N:=2^64) (λt=>(a,a,(a.length:Int),(t:Int),())) a.length (.inr ()) (by omega) (λt ht=>step t ht true (by simp)) (by
    have e1:ltI (a.length:Int) (a.length:Int)=false:=by rw[aD]; exact oF (by omega)
    simp only[dN,e1,oD])
   have key:jX (a,a,(a.length:Int),0,())=_:=key;simp only[dY,e0,Bool.not_true,oD,key,aE,mP,decide_true]
  ·obtain⟨x,h1,h2,h3⟩:=JQ 0 hl he;have key:=aV (step:=dN) (N:=2^64) (λt=>(a,b,(a.length:Int),(t:Int),())) x (.inl (false,())) (by omega) (λt ht=>step t (by omega) true (oT (h2 t ht))) (step x h1 false (oF h3));have key:jX (a,b,(a.length:Int),0,())=_:=key;simp only[dY,e0,Bool.not_true,oD,key,aE,HK,oF he]
 ·have e0:eqI (a.length:Int) (b.length:Int)=false:=by rw[iL]; exact oF (by omega)
  have he:¬ a=b:=λe=>hl (by rw[e])
  simp only[dY,e0,Bool.not_false,oC,oF he]
theorem aSI(a b:List (List Int))(ha:a.length<1048576)(hr:∀ r∈a,r.length<1048576):aW (a,b,(),())=some (decide (a=b),()):=by
 by_cases hl:a.length=b.length
 ·have e0:eqI (a.length:Int) (b.length:Int)=true:=by rw[iL]; exact oT (by omega)
  have step:∀ t,t<a.length->∀ c,decide (a.getD t []=b.getD t [])=c->aT (b,(),a,(a.length:Int),(t:Int),())=(bif c then some (.inl (b,(),a,(a.length:Int),((t+1:Nat):Int),())) else some (.inr (.inl (false,())))):=λt ht c hc=>by
   have e1:ltI (t:Int) (a.length:Int)=true:=by rw[aD]; exact oT (by omega)
   have e2:aF (t:Int) a.length=true:=by rw[aM]; exact oT (by omega)
   have e3:aF (t:Int) b.length=true:=by rw[aM]; exact oT (by omega)
   have e4:((t:Nat):Int).toNat=t:=oN _;have e5:=cC t (by omega);have e6:(a.getD t []).length<1048576:=by
    have:a.getD t []=a[t]:=by simp[List.getD,ht]
    rw[this]; exact hr _ (List.getElem_mem ht)
   have e7:=aNH (a.getD t []) (b.getD t []) e6;simp only[aT,e1,e2,e3,e4,e5,oC,aDP,e7,aE,hc]
  by_cases he:a=b
  ·subst he;have key:=aV (step:=aT) (N:=2^64) (λt=>(a,(),a,(a.length:Int),(t:Int),())) a.length (.inr ()) (by omega) (λt ht=>step t ht true (by simp)) (by
    have e1:ltI (a.length:Int) (a.length:Int)=false:=by rw[aD]; exact oF (by omega)
    simp only[aT,e1,oD])
   have key:bY (a,(),a,(a.length:Int),0,())=_:=key;simp only[aW,e0,Bool.not_true,oD,key,aE,mP,decide_true]
  ·obtain⟨x,h1,h2,h3⟩:=JQ [] hl he;have key:=aV (step:=aT) (N:=2^64) (λt=>(b,(),a,(a.length:Int),(t:Int),())) x (.inl (false,())) (by omega) (λt ht=>step t (by omega) true (oT (h2 t ht))) (step x h1 false (oF h3));have key:bY (b,(),a,(a.length:Int),0,())=_:=key;simp only[aW,e0,Bool.not_true,oD,key,aE,HK,oF he]
 ·have e0:eqI (a.length:Int) (b.length:Int)=false:=by rw[iL]; exact oF (by omega)
  have he:¬ a=b:=λe=>hl (by rw[e])
  simp only[aW,e0,Bool.not_false,oC,oF he]
theorem aR5(a b:List (List Int))(ha:a.length<1048576)(hr:∀ r∈a,r.length<1048576):aX (a,b,(),())=some (decide (a=b),()):=by
 by_cases hl:a.length=b.length
 ·have e0:eqI (a.length:Int) (b.length:Int)=true:=by rw[iL]; exact oT (by omega)
  have step:∀ t,t<a.length->∀ c,decide (a.getD t []=b.getD t [])=c->aS (b,(),a,(a.length:Int),(t:Int),())=(bif c then some (.inl (b,(),a,(a.length:Int),((t+1:Nat):Int),())) else some (.inr (.inl (false,())))):=λt ht c hc=>by
   have e1:ltI (t:Int) (a.length:Int)=true:=by rw[aD]; exact oT (by omega)
   have e2:aF (t:Int) a.length=true:=by rw[aM]; exact oT (by omega)
   have e3:aF (t:Int) b.length=true:=by rw[aM]; exact oT (by omega)
   have e4:((t:Nat):Int).toNat=t:=oN _;have e5:=cC t (by omega);have e6:(a.getD t []).length<1048576:=by
    have:a.getD t []=a[t]:=by simp[List.getD,ht]
    rw[this]; exact hr _ (List.getElem_mem ht)
   have e7:=aNH (a.getD t []) (b.getD t []) e6;simp only[aS,e1,e2,e3,e4,e5,oC,E5,e7,aE,hc]
  by_cases he:a=b
  ·subst he;have key:=aV (step:=aS) (N:=2^64) (λt=>(a,(),a,(a.length:Int),(t:Int),())) a.length (.inr ()) (by omega) (λt ht=>step t ht true (by simp)) (by
    have e1:ltI (a.length:Int) (a.length:Int)=false:=by rw[aD]; exact oF (by omega)
    simp only[aS,e1,oD])
   have key:bX (a,(),a,(a.length:Int),0,())=_:=key;simp only[aX,e0,Bool.not_true,oD,key,aE,mP,decide_true]
  ·obtain⟨x,h1,h2,h3⟩:=JQ [] hl he;have key:=aV (step:=aS) (N:=2^64) (λt=>(b,(),a,(a.length:Int),(t:Int),())) x (.inl (false,())) (by omega) (λt ht=>step t (by omega) true (oT (h2 t ht))) (step x h1 false (oF h3));have key:bX (b,(),a,(a.length:Int),0,())=_:=key;simp only[aX,e0,Bool.not_true,oD,key,aE,HK,oF he]
 ·have e0:eqI (a.length:Int) (b.length:Int)=false:=by rw[iL]; exact oF (by omega)
  have he:¬ a=b:=λe=>hl (by rw[e])
  simp only[aX,e0,Bool.not_false,oC,oF he]
theorem aML(n n':Int)(a b:List (List Int))(ha:a.length<1048576)(hr:∀ r∈a,r.length<1048576):C4 ((n,a),(n',b),())=some (decide (n=n')&&decide (a=b),()):=by
 by_cases h:n=n'
 ·subst h;have e0:eqI n n=true:=by rw[iL]; exact oT rfl
  simp only[C4,e0,oC,aSI a b ha hr,aE,decide_true,Bool.true_and]
 ·have e0:eqI n n'=false:=by rw[iL]; exact oF h
  simp only[C4,e0,oD,h,decide_false,Bool.false_and]
theorem a4W(a b:List (List Int))(ha:a.length<1048576)(hr:∀ r∈a,r.length<1048576):CK (a,b,())=some (decide (a=b),()):=by simp only[CK,aR5 a b ha hr,aE]
end Go.PM
namespace Go.Lz
theorem kM.back {n m k k2:Nat}{A K K2:Nat->V}(hA:∀ i,i<m->∀ c,n<=c->A i c=0)(h1:kM n m A k K)(h2:kM n k K k2 K2):kM n k2 K2 k K:=by
 intro y;rw[h1];constructor
 ·intro g;refine⟨g.1,λx hx=>?_⟩;have:=((h2 _).1 (Sp.mem hx));rw[n7];exact this.span ((h1 y).2 g)
 ·rintro⟨g1,g2⟩;refine⟨g1,λx hx=>?_⟩;have:Sp k2 K2 (A x):=(h2 _).2 ⟨hA x hx,λz hz=>by rw[n7]; exact((h1 _).1 (Sp.mem hz)).2 x hx⟩;exact Ker.span ⟨g1,g2⟩ this
theorem kM.of_same {n m m' k:Nat}{A A' K:Nat->V}(h:Same m A m' A')(h1:kM n m A k K):kM n m' A' k K:=λy=>(h1 y).trans (Ker.same h)
end Go.Lz
namespace Go.PM
open Go Go.RowKit Go.Proofs Go.Lz
structure RT (ps:List Int) (n d r:Nat) (C K:Nat->V):Prop where
 pr:pD (ps,())=some (0,())
 len:ps.length=n
 n4:n<=4
 hc:∃ q,Hn d C q
 hk:∃ p,Hn r K p
 wc:Wd d n C
 wk:Wd r n K
 bc:Big d n C 1000000000
 bk:Big r n K 1000000000
 ker:kM n d C r K
 ker2:kM n r K d C
theorem a1Z {d n:Nat}{M:Nat->V}(hn:n<=4):∀ r∈Mr d n M,r.length<1048576:=λr hr=>by
 obtain⟨i,_,rfl⟩:=aDM hr;rw[vU]; omega
theorem RT.check {ps:List Int}{n d r:Nat}{C K:Nat->V}(h:RT ps n d r C K):fA ((ps,(Mr d n C,Mr r n K)),())=some (0,()):=by
 obtain⟨q,hc⟩:=h.hc;obtain⟨p,hk⟩:=h.hk;have n4:=h.n4;have d4:=(Hn.kG hc h.wc).1;have r4:=(Hn.kG hk h.wk).1;have e0:eqI 0 0=true:=by decide
 have e1:((ps.length:Nat):Int)=(n:Int):=by rw[h.len]
 have s1:=Z2 hc n4 h.wc h.bc h.ker hc h.ker2 h.bc;have s2:=QE hc n4 h.wc h.bc hk h.ker h.bk;have s3:=ZT hc h.wc (by omega) (by omega) h.bc;have s4:=aML (n:Int) (n:Int) (Mr d n C) (Mr d n C) (by rw[eJ]; omega) (a1Z n4);have s5:=a4W (Mr r n K) (Mr r n K) (by rw[eJ]; omega) (a1Z n4);simp only[decide_true,Bool.and_self]at s4 s5;simp only[fA,h.pr,aE,e0,Bool.not_true,oD,e1,s3,s1,s4,oC,s2,s5]
def L12:List (List Int):=[[2,3,5],[2,3,5,7],[2,3],[2,3,7],[2,5,7],[3,5,7],[2,3,5,11],[2],[2,3,7,13],[3,5,7,13]]
theorem a6W:∀ i,i<10->pD (L12.getD i [],())=some (0,())/\(L12.getD i []).length<=4:=by
 intro i hi;rcases(show i=0\/i=1\/i=2\/i=3\/i=4\/i=5\/i=6\/i=7\/i=8\/i=9 by omega)with rfl|rfl|rfl|rfl|rfl|rfl|rfl|rfl|rfl|rfl
 all_goals exact⟨by kernel_rfl,by decide⟩
theorem aYN(v:Int)(h0:0<=v)(h1:v<256):DK (v,())=some (L12.getD (v%10).toNat [],()):=by
 have e1:IntKind.wrap .i64 v=v:=SE (by omega) (by omega);have e2:v.tmod 10=v%10:=Int.tmod_eq_emod_of_nonneg h0;have e3:aF (v%10) 10=true:=by rw[aM]; exact oT (by omega)
 have e4:eqI 10 0=false:=by decide
 have hl:(L12.length:Int)=10:=by decide
 have hl2:L12.length=10:=by decide
 show (bif eqI (L12.length:Int) 0 then none else bif aF ((IntKind.wrap .i64 v).tmod (L12.length:Int)) L12.length then some ((L12.getD (((IntKind.wrap .i64 v).tmod (L12.length:Int)).toNat) []),()) else none)=_;rw[e1,hl,e2,hl2,e4,e3];rfl
def tV(t:Int×Int×Int×Int):Nat->Int
 | 0=>t.1
 | 1=>t.2.1
 | 2=>t.2.2.1
 | _=>t.2.2.2
def I8(t:Int×Int×Int×Int):Prop:=∀ i,i<4->-128<=tV t i/\tV t i<128
theorem aTW(ps:List Int)(hl:ps.length<=4)(t:Int×Int×Int×Int)(ht:I8 t):tA (ps,t,())=some ((List.range ps.length).map (λi=>(tV t i).tmod 10),()):=by
 have w0:IntKind.wrap .i64 t.1=t.1:=SE (by have:=ht 0 (by omega); simp only[tV]at this; omega) (by have:=ht 0 (by omega); simp only[tV]at this; omega);have w1:IntKind.wrap .i64 t.2.1=t.2.1:=SE (by have:=ht 1 (by omega); simp only[tV]at this; omega) (by have:=ht 1 (by omega); simp only[tV]at this; omega);have w2:IntKind.wrap .i64 t.2.2.1=t.2.2.1:=SE (by have:=ht 2 (by omega); simp only[tV]at this; omega) (by have:=ht 2 (by omega); simp only[tV]at this; omega)
 have w3:IntKind.wrap .i64 t.2.2.2=t.2.2.2:=SE (by have:=ht 3 (by omega); simp only[tV]at this; omega) (by have:=ht 3 (by omega); simp only[tV]at this; omega);have key:=aV (step:=o0) (N:=2^64) (λs=>(ps,(t.1,(t.2.1,(t.2.2.1,t.2.2.2))),(List.range s).map (λi=>(tV t i).tmod 10),(s:Int),())) ps.length ((List.range ps.length).map (λi=>(tV t i).tmod 10),()) (by omega) (λs hs=>?_) ?_
 ·have key:tG (ps,(t.1,(t.2.1,(t.2.2.1,t.2.2.2))),[],0,())=_:=key;simp only[tA,key,aE]
 ·have e1:ltI (s:Int) (ps.length:Int)=true:=by rw[aD]; exact oT (by omega)
  have e2:ltI (s:Int) 4=true:=by rw[aD]; exact oT (by omega)
  have e3:=cC s (by omega);have e4:∀ x:Int,Nat.ble [x].length 1048576=true:=λ_=>rfl
  have e5:Nat.ble ((List.range s).map (λi=>(tV t i).tmod 10)).length 1048576=true:=by rw[dM,List.length_map,List.length_range]; exact oT (by omega)
  have e6:(List.range (s+1)).map (λi=>(tV t i).tmod 10)=(List.range s).map (λi=>(tV t i).tmod 10)++[(tV t s).tmod 10]:=by rw[List.range_succ,List.map_append]; rfl
  simp only[o0,e1,e2,oC,e4,e5,w0,w1,w2,w3,e3,e6];rcases(show s=0\/s=1\/s=2\/s=3 by omega)with rfl|rfl|rfl|rfl <;> rfl
 ·have e1:ltI (ps.length:Int) (ps.length:Int)=false:=by rw[aD]; exact oF (by omega)
  simp only[o0,e1,oD]
def red(M:Nat->V) (p:Nat->Nat):Nat->V->V
 | 0,u=>u
 | t+1,u=>λx=>red M p t u x-(red M p t u (p t)).fdiv (M t (p t))*M t x
section
variable {d n:Nat} {M:Nat->V} {p:Nat->Nat}
end
theorem aKY(r:List Int)(hl:r.length<=1048576)(hr:∀ a∈r,-9223372036854775808<=a/\a<9223372036854775808):oB (r,())=some (r.map Zn,()):=by
 have e1:ltI (r.length:Int) 0=false:=by rw[aD]; exact oF (by omega)
 have e2:ltI 1048576 (r.length:Int)=false:=by rw[aD]; exact oF (by omega)
 have key:CC ([],r,(r.length:Int),0,())=some (r.map Zn,()):=aHP r hl hr;unfold oB;simp only[e1,e2,Bool.not_false,oC,List.replicate_zero,key,aE]
theorem aF4(n:Nat)(v:V):(Vr n v).map Zn=Zr n v:=by simp[Vr,Zr]
section
variable {d n:Nat} {M:Nat->V} {p:Nat->Nat}
end
theorem aX3 {a b:V}{E F:Nat}:∀ {n:Nat},(∀ x,x<n->(a x).natAbs<=E)->(∀ x,x<n->(b x).natAbs<=F)->(dot n a b).natAbs<=n*(E*F)
 | 0,_,_=>by simp[dot]
 | n+1,ha,hb=>by
  have h1:=aX3 (n:=n) (λx hx=>ha x (by omega)) (λx hx=>hb x (by omega));have h2:=L3 (ha n (by omega)) (hb n (by omega));rw[Nat.succ_mul];show (dot n a b+a n*b n).natAbs<=_;omega
section
variable {n r:Nat} {K:Nat->V}
theorem aZB(hn:n<=12)(hr:r<=12)(ps:List Int)(C:List (List Int))(x:List Int)(hl:x.length=n)(hx:∀ a∈x,a.natAbs<=1000000000)(hw:Wd r n K)(hK:Big r n K 1000000000) :
  yB ((ps,(C,Mr r n K)),x,())=some ((List.range r).map (λi=>Zn (dot n (vG x) (K i))),()):=by
 have hxv:∀ t,t<n->(vG x t).natAbs<=1000000000:=λt ht=>by
  unfold vG;have:x.getD t 0=x[t]'(by omega):=by simp[List.getD,show t<x.length by omega]
  rw[this];exact hx _ (List.getElem_mem _)
 have inner:∀ i,i<r->∀ (v5:List ByteArray) (v12:List (List Int)) (v13 v14:Int),mZ (x,v5,Vr n (K i),ByteArray.mk #[48],v12,v13,v14,x,(x.length:Int),0,())=some (x,v5,Zn (dot n (vG x) (K i)),v12,v13,v14,()):=λi hi v5 v12 v13 v14=>by
  have key:=aV (step:=mV) (N:=2^64) (λt=>(x,v5,Vr n (K i),Zn (dot t (vG x) (K i)),v12,v13,v14,x,(x.length:Int),(t:Int),())) n (x,v5,Zn (dot n (vG x) (K i)),v12,v13,v14,()) (by omega) (λt ht=>?_) ?_
  ·have z:Zn (dot 0 (vG x) (K i))=ByteArray.mk #[48]:=by
    show Zn 0=_
    kernel_rfl
   have key:mZ (x,v5,Vr n (K i),Zn (dot 0 (vG x) (K i)),v12,v13,v14,x,(x.length:Int),0,())=_:=key;rwa[z]at key
  ·have e1:ltI (t:Int) (x.length:Int)=true:=by rw[aD]; exact oT (by omega)
   have e2:aF (t:Int) x.length=true:=by rw[aM]; exact oT (by omega)
   have e3:((t:Nat):Int).toNat=t:=oN _;have e4:aF (t:Int) n=true:=by rw[aM]; exact oT (by omega)
   have b1:=hxv t ht;have b2:=hK i hi t ht;have b3:=aX3 (n:=t) (a:=vG x) (b:=K i) (λy hy=>hxv y (by omega)) (λy hy=>hK i hi y (by omega));have b4:=L3 b1 b2;have e5:j8 (x.getD t 0,())=some (Zn (vG x t),()):=uG _ (by have:x.getD t 0=vG x t:=rfl; omega) (by have:x.getD t 0=vG x t:=rfl; omega);have e6:j8 ((Vr n (K i)).getD t 0,())=some (Zn (K i t),()):=by rw[aG2 _ ht]; exact uG _ (by omega) (by omega)
   have d1:=uF (u:=(vG x t).natAbs) (k:=9) (by omega);have d2:=uF (u:=(K i t).natAbs) (k:=9) (by omega);have e7:=aKR (vG x t) (K i t) (by omega);have d3:=uF (u:=(dot t (vG x) (K i)).natAbs) (k:=20) (by omega);have d4:=uF (u:=(vG x t*K i t).natAbs) (k:=20) (by omega);have e8:=aLY (dot t (vG x) (K i)) (vG x t*K i t) (by omega) (by omega);have e9:=cC t (by omega);have e10:dot t (vG x) (K i)+vG x t*K i t=dot (t+1) (vG x) (K i):=rfl
   simp only[mV,e1,e2,e3,e5,aE,vU,e4,e6,e7,e8,e9,e10,oC]
  ·have e1:ltI (n:Int) (x.length:Int)=false:=by rw[aD]; exact oF (by omega)
   simp only[mV,e1,oD]
 have key:=aV (step:=nB) (N:=2^64) (λt=>(x,(List.range t).map (λi=>Zn (dot n (vG x) (K i))),Mr r n K,((Mr r n K).length:Int),(t:Int),())) r ((List.range r).map (λi=>Zn (dot n (vG x) (K i))),()) (by omega) (λt ht=>?_) ?_
 ·have key:rB (x,[],Mr r n K,((Mr r n K).length:Int),0,())=_:=key;simp only[yB,key,aE]
 ·have e1:ltI (t:Int) (r:Int)=true:=by rw[aD]; exact oT (by omega)
  have e2:aF (t:Int) r=true:=by rw[aM]; exact oT (by omega)
  have e3:((t:Nat):Int).toNat=t:=oN _;have e4:∀ s:ByteArray,Nat.ble [s].length 1048576=true:=λ_=>rfl
  have e5:Nat.ble ((List.range t).map (λi=>Zn (dot n (vG x) (K i)))).length 1048576=true:=by rw[dM,List.length_map,List.length_range]; exact oT (by omega)
  have e6:=cC t (by omega);have e7:(List.range (t+1)).map (λi=>Zn (dot n (vG x) (K i)))=(List.range t).map (λi=>Zn (dot n (vG x) (K i)))++[Zn (dot n (vG x) (K t))]:=by rw[List.range_succ,List.map_append]; rfl
  simp only[nB,eJ,e1,e2,e3,Z8 K ht,inner t ht,aE,e4,e5,e6,e7,oC]
 ·have e1:ltI (r:Int) (r:Int)=false:=by rw[aD]; exact oF (by omega)
  simp only[nB,eJ,e1,oD]
theorem a4B(l:List Int) (hl:l.length<1048576):∃ b,dW (l.map Zn,(),())=some (!b,())/\(b=true↔∀ i,i<l.length->l.getD i 0=0):=by
 have hlen:(l.map Zn).length=l.length:=List.length_map _;have step:∀ t,t<l.length->∀ c,decide (l.getD t 0=0)=c->cL (l.map Zn,(),(l.length:Int),(t:Int),())=(bif c then some (.inl (l.map Zn,(),(l.length:Int),((t+1:Nat):Int),())) else some (.inr (.inl ((t:Int),())))):=λt ht c hc=>by
  have e1:ltI (t:Int) (l.length:Int)=true:=by rw[aD]; exact oT (by omega)
  have e2:aF (t:Int) l.length=true:=by rw[aM]; exact oT (by omega)
  have e3:((t:Nat):Int).toNat=t:=oN _;have e4:=cC t (by omega);have e5:(l.map Zn).getD t ByteArray.empty=Zn (l.getD t 0):=by simp[List.getD,ht]
  simp only[cL,e1,hlen,e2,e3,e5,vL,OL,hc,aE,e4,oC];cases c <;> rfl
 by_cases hz:∀ i,i<l.length->l.getD i 0=0
 ·refine⟨true,?_,⟨λ_=>hz,λ_=>rfl⟩⟩;have key:=aV (step:=cL) (N:=2^64) (λt=>(l.map Zn,(),(l.length:Int),(t:Int),())) l.length (.inr ()) (by omega) (λt ht=>step t ht true (oT (hz t ht))) (by
   have e1:ltI (l.length:Int) (l.length:Int)=false:=by rw[aD]; exact oF (by omega)
   simp only[cL,e1,oD])
  have key:fI (l.map Zn,(),(l.length:Int),0,())=_:=key;have e2:ltI (-1) 0=true:=by decide
  simp only[dW,jK,hlen,key,aE,mP,e2]
 ·refine⟨false,?_,⟨λh=>(by cases h),λh=>absurd h hz⟩⟩;obtain⟨x,h1,h2,h3⟩:=JQ (0:Int) (a:=l) (b:=List.replicate l.length 0) (by simp) (λe=>hz λi hi=>by rw[e]; simp[List.getD,hi]);have hrep:∀ i,i<l.length->(List.replicate l.length (0:Int)).getD i 0=0:=λi hi=>by simp[List.getD,hi]
  rw[hrep x h1]at h3;have key:=aV (step:=cL) (N:=2^64) (λt=>(l.map Zn,(),(l.length:Int),(t:Int),())) x (.inl ((x:Int),())) (by omega) (λt ht=>step t (by omega) true (oT (by rw[h2 t ht]; exact hrep t (by omega)))) (step x h1 false (oF h3));have key:fI (l.map Zn,(),(l.length:Int),0,())=_:=key;have e2:ltI (x:Int) 0=false:=by rw[aD]; exact oF (by omega)
  simp only[dW,jK,hlen,key,aE,HK,e2,Bool.not_false]
end
theorem KU {ps:List Int} {n d r:Nat} {C K:Nat->V} (h:RT ps n d r C K) (x:List Int) (hl:x.length=n) (hx:∀ a∈x,a.natAbs<=1000000000) :
  ∃ b,bE ((ps,(Mr d n C,Mr r n K)),x,())=some (b,0,())/\(b=true↔Sp d C (vG x)):=by
 have n4:=h.n4;obtain⟨p,hk⟩:=h.hk;have r4:=(Hn.kG hk h.wk).1;have e0:eqI 0 0=true:=by decide
 have c1:=aEB x (by omega) hx;have e1:eqI ((x.length:Nat):Int) ((ps.length:Nat):Int)=true:=by rw[iL]; exact oT (by rw[hl,h.len])
 have hbeg:AR ((ps,(Mr d n C,Mr r n K)),[x],())=some (0,()):=by
  have key:=aV (step:=sB) (N:=2^64) (λt=>((ps,(Mr d n C,Mr r n K)),[x],1,(t:Int),())) 1 (.inr ()) (by omega) (λt ht=>?_) ?_
  ·have key:yY ((ps,(Mr d n C,Mr r n K)),[x],([x].length:Int),0,())=_:=key;simp only[AR,h.check,aE,e0,Bool.not_true,oD,key,mP]
  ·obtain rfl:t=0:=by omega
   have e2:ltI ((0:Nat):Int) 1=true:=by decide
   have e3:=cC 0 (by omega);simp only[sB,e2,oC,e3];show (bif aF ((0:Nat):Int) 1 then aC (GQ (x,())) _ else none)=_;have e4:aF ((0:Nat):Int) 1=true:=by decide
   simp only[e4,oC,c1,aE,e0,Bool.not_true,oD];show (bif !(eqI ((x.length:Nat):Int) ((ps.length:Nat):Int)) then _ else _)=_;rw[e1]; rfl
  ·have e2:ltI ((1:Nat):Int) 1=false:=by decide
   simp only[sB,e2,oD]
 have t1:=aZB (by omega) (by omega) ps (Mr d n C) x hl hx h.wk h.bk;obtain⟨b,a1,a2⟩:=a4B ((List.range r).map λi=>dot n (vG x) (K i)) (by simp; omega);have e5:((List.range r).map λi=>dot n (vG x) (K i)).map Zn=(List.range r).map (λi=>Zn (dot n (vG x) (K i))):=by rw[List.map_map]; rfl
 rw[e5]at a1;refine⟨b,?_,a2.trans ?_⟩
 ·simp only[bE,hbeg,aE,e0,Bool.not_true,oD,t1,a1];cases b <;> rfl
 ·rw[h.ker2];constructor
  ·intro g;refine⟨λc hc=>?_,λi hi=>?_⟩
   ·unfold vG;simp[List.getD,List.getElem?_eq_none (show x.length<=c by omega)]
   ·have:=g i (by simpa using hi);simpa[List.getD,hi]using this
  ·intro g i hi;have hi:i<r:=by simpa using hi
   have:=g.2 i hi;simpa[List.getD,hi]using this
abbrev TT:=List Int×List (List Int)×List (List Int)
abbrev zT:TT:=([],([],[]))
theorem aHW(l:List TT)(hl:l.length<1048576)(hc:∀ i,i<l.length->fA (l.getD i zT,())=some (0,())):sZ (l,l,(l.length:Int),0,())=some (.inr (l,())):=by
 have e0:eqI 0 0=true:=by decide
 refine aV (step:=pH) (N:=2^64) (λt=>(l,l,(l.length:Int),(t:Int),())) l.length (.inr (l,())) (by omega) (λt ht=>?_) ?_
 ·have e1:ltI (t:Int) (l.length:Int)=true:=by rw[aD]; exact oT (by omega)
  have e2:aF (t:Int) l.length=true:=by rw[aM]; exact oT (by omega)
  have e3:((t:Nat):Int).toNat=t:=oN _;have e4:=cC t (by omega);have e5:fA (((l.getD t zT).1,((l.getD t zT).2.1,(l.getD t zT).2.2)),())=some (0,()):=hc t ht;simp only[pH,e1,e2,e3,oC];show aC (fA (((l.getD t zT).1,((l.getD t zT).2.1,(l.getD t zT).2.2)),())) _=_;rw[e5];simp only[aE,e0,Bool.not_true,oD,e4]
 ·have e1:ltI (l.length:Int) (l.length:Int)=false:=by rw[aD]; exact oF (by omega)
  simp only[pH,e1,oD]
theorem aC2(l:List TT)(hl:l.length<1048576)(hp:∀ i,i<l.length->(l.getD i zT).1.length<1048576){t:Nat}(ht:t<l.length){c:Bool}(hc:decide ((l.getD t zT).1=(l.getD 0 zT).1)=c) :
  jG (l,l,(l.length:Int),(t:Int),())=(bif c then some (.inl (l,l,(l.length:Int),((t+1:Nat):Int),())) else some (.inr (.inl (14,())))):=by
 have e1:ltI (t:Int) (l.length:Int)=true:=by rw[aD]; exact oT (by omega)
 have e2:aF (t:Int) l.length=true:=by rw[aM]; exact oT (by omega)
 have e3:((t:Nat):Int).toNat=t:=oN _;have e4:=cC t (by omega);have e5:aF 0 l.length=true:=by rw[aM]; exact oT (by omega)
 have e6:=aPA (l.getD t zT).1 (l.getD 0 zT).1 (hp t ht);simp only[jG,e1,e2,e3,e5,oC];show aC (dY ((l.getD t zT).1,(l.getD 0 zT).1,())) _=_;rw[e6,hc];simp only[aE,e4]
theorem aYF(l:List TT)(hl:l.length<1048576)(hc:∀ i,i<l.length->fA (l.getD i zT,())=some (0,()))(hp:∀ i,i<l.length->(l.getD i zT).1.length<1048576)(he:∀ i,i<l.length->(l.getD i zT).1=(l.getD 0 zT).1):kS (l,())=some (0,()):=by
 have key:=aV (step:=jG) (N:=2^64) (λt=>(l,l,(l.length:Int),(t:Int),())) l.length (.inr ()) (by omega) (λt ht=>aC2 l hl hp ht (c:=true) (oT (he t ht))) (by
  have e1:ltI (l.length:Int) (l.length:Int)=false:=by rw[aD]; exact oF (by omega)
  simp only[jG,e1,oD])
 have key:pE (l,l,(l.length:Int),0,())=_:=key;simp only[kS,aHW l hl hc,aE,mP,key]
theorem aWF(l:List TT)(hl:l.length<1048576)(hc:∀ i,i<l.length->fA (l.getD i zT,())=some (0,()))(hp:∀ i,i<l.length->(l.getD i zT).1.length<1048576){x:Nat}(hx:x<l.length)(he:∀ i,i<x->(l.getD i zT).1=(l.getD 0 zT).1)(hn:(l.getD x zT).1≠(l.getD 0 zT).1):kS (l,())=some (14,()):=by
 have key:=aV (step:=jG) (N:=2^64) (λt=>(l,l,(l.length:Int),(t:Int),())) x (.inl (14,())) (by omega) (λt ht=>aC2 l hl hp (by omega) (c:=true) (oT (he t ht))) (aC2 l hl hp hx (c:=false) (oF hn));have key:pE (l,l,(l.length:Int),0,())=_:=key;simp only[kS,aHW l hl hc,aE,mP,HK,key]
section
variable {ps ps':List Int} {n n' d r d' r':Nat} {C K C' K':Nat->V}
theorem RT.a8B (h:RT ps n d r C K):ps.length<1048576:=by have:=h.n4; have:=h.len; omega
end
section
variable {ps ps':List Int} {n n' d r d' r':Nat} {C K C' K':Nat->V}
theorem aVR(h:RT ps n d r C K)(h':RT ps' n' d' r' C' K'):kS ([(ps,(Mr d n C,Mr r n K)),(ps',(Mr d' n' C',Mr r' n' K'))],())=some (if ps'=ps then 0 else 14,()):=by
 have two:∀ i,i<2->i=0\/i=1:=λi hi=>by omega
 have c:∀ i,i<2->fA (([(ps,(Mr d n C,Mr r n K)),(ps',(Mr d' n' C',Mr r' n' K'))]:List TT).getD i zT,())=some (0,()):=λi hi=>by
  rcases two i hi with rfl|rfl
  ·exact h.check
  ·exact h'.check
 have p:∀ i,i<2->(([(ps,(Mr d n C,Mr r n K)),(ps',(Mr d' n' C',Mr r' n' K'))]:List TT).getD i zT).1.length<1048576:=λi hi=>by
  rcases two i hi with rfl|rfl
  ·exact h.a8B
  ·exact h'.a8B
 by_cases e:ps'=ps
 ·rw[if_pos e];refine aYF _ (by show 2<_; omega) c p λi hi=>?_
  rcases two i hi with rfl|rfl
  ·rfl
  ·exact e
 ·rw[if_neg e];refine aWF _ (by show 2<_; omega) c p (x:=1) (by show 1<2; omega) (λi hi=>?_) e;obtain rfl:i=0:=by omega
  rfl
end
def aU1(p:Int×List (Int×Int×Int×Int)×Bool):Prop:=(0<=p.1/\p.1<256)/\∀ t∈p.2.1,I8 t
theorem a1R(p:Int×List (Int×Int×Int×Int)×Bool):uE (p,())=some (decide (p.2.1.length<=3),()):=by
 obtain⟨a,b,c⟩:=p;have:(!(ltI 3 (b.length:Int)))=decide (b.length<=3):=by
  rw[aD]
  by_cases h:b.length<=3
  ·rw[oT h,oF (by omega)]; rfl
  ·rw[oF h,oT (by omega)]; rfl
 simp only[uE,this]
theorem wf_u8 {x:Int}(h:(Lit.int .u8 x).wf=true):0<=x/\x<256:=by
 simp only[Lit.wf,oA,decide_eq_true_eq]at h;have h1:IntKind.u8.min=0:=by decide
 have h2:IntKind.u8.max=255:=by decide
 omega
theorem wf_i8 {x:Int}(h:(Lit.int .i8 x).wf=true) : -128<=x/\x<128:=by
 simp only[Lit.wf,oA,decide_eq_true_eq]at h;have h1:IntKind.i8.min = -128:=by decide
 have h2:IntKind.i8.max=127:=by decide
 omega
theorem a1K {p:Int×List (Int×Int×Int×Int)×Bool}(h:WF (.prod (.int .u8) (.prod (.list (.prod (.int .i8) (.prod (.int .i8) (.prod (.int .i8) (.int .i8))))) .bool)) p):aU1 p:=by
 obtain⟨h1,⟨_,h2⟩,_⟩:=h;refine⟨wf_u8 h1,λt ht i hi=>?_⟩;obtain⟨a1,a2,a3,a4⟩:=h2 t ht;rcases(show i=0\/i=1\/i=2\/i=3 by omega)with rfl|rfl|rfl|rfl
 ·exact wf_i8 a1
 ·exact wf_i8 a2
 ·exact wf_i8 a3
 ·exact wf_i8 a4
end Go.PM
