/- Texts of one proof, joined (7). -/
import Derived.Lib.AtoiAllCases
import Derived.Test.YtmghkhgpkefgeaaGreatDoorQJ6
set_option linter.unusedSimpArgs false
set_option linter.unusedVariables false
set_option maxRecDepth 100000
noncomputable section
namespace Go.PM
open Go Go.RowKit Go.Proofs Tryz
set_option maxHeartbeats 4000000
def aFH(x:aK [.int .i64]):oK [.bool]:=match x with
 | (v0,()) =>
  bif !(ltI v0 (-1000000000)) then
   some (!(ltI 1000000000 v0),())
  else some (false,())
abbrev aXI:Ent:=⟨146,_,_,aFH⟩
theorem aPJ:Ent.OK tP aXI:=oI (aR oW) func146 (by kernel_rfl) (by rintro⟨v0,⟨⟩⟩; kernel_rfl)
def U5(x:aK [.int .i64]):oK [.bool]:=match x with
 | (v0,()) =>
  aC (aFH (v0,())) λy1 =>
  bif y1.1 then
   some (false,())
  else some (true,())
abbrev aNP:Ent:=⟨145,_,_,U5⟩
theorem aHM:Ent.OK tP aNP:=oI (aR (oV aPJ oW)) func145 (by kernel_rfl) (by rintro⟨v0,⟨⟩⟩; kernel_rfl)
abbrev o9:List (Nat×Kd):=[(0,.list TyE),(1,.fn 145),(7,.int .i64),(8,.int .i64)]
abbrev vA:List (Ex×List (Nat×Kd)):=[(.ret,[(4,.int .i64)]),(.exit 0,[])]
def eO(x:Shape.den o9):oS o9 vA:=match x with
 | (v0,v1,v7,v8,()) =>
  bif ltI v8 v7 then
   bif aF v8 v0.length then aC (U5 ((v0.getD v8.toNat 0),())) λy2 =>
   bif y2.1 then
    some (.inr (.inl (v8,())))
   else some (.inl (v0,(),v7,(aB .i64 (v8+1)),())) else none
  else some (.inr (.inr ((()))))
def mI(x:Shape.den o9):oX vA:=bF eO (2^64) x
def qW(x:aK [.list TyE,.fn 145]):oK [.int .i64]:=match x with
 | (v0,v1,()) =>
  aC (mI (v0,(),(v0.length:Int),0,())) λz3 =>
  vB z3 (λa4=>some (a4.1,())) λb5 =>
  some ((-1),())
abbrev JD:Ent:=⟨197,_,_,qW⟩
theorem HP:Ent.OK tP JD:=oU (aR (oV aHM oW)) func197 2 (lp:=mI) rfl (by kernel_rfl) (by rintro⟨v0,v1,v7,v8,⟨⟩⟩; kernel_rfl) (by rintro⟨v0,v1,⟨⟩⟩; kernel_rfl)
def pA(x:aK [.list TyE,.fn 145]):oK [.bool]:=match x with
 | (v0,v1,()) =>
  aC (qW (v0,(),())) λy1 =>
  some (!(ltI y1.1 0),())
abbrev HO:Ent:=⟨144,_,_,pA⟩
theorem E6:Ent.OK tP HO:=oI (aR (oV HP oW)) func144 (by kernel_rfl) (by rintro⟨v0,v1,⟨⟩⟩; kernel_rfl)
def F9(x:aK [.list TyE]):oK [.int .i64]:=match x with
 | (v0,()) =>
  bif ltI 64 (v0.length:Int) then
   some (4,())
  else aC (pA (v0,(),())) λy1 =>
  bif y1.1 then
   some (4,())
  else some (0,())
abbrev aVG:Ent:=⟨103,_,_,F9⟩
theorem aAN:Ent.OK tP aVG:=oI (aR (oV E6 oW)) func103 (by kernel_rfl) (by rintro⟨v0,⟨⟩⟩; kernel_rfl)
abbrev J5:List (Nat×Kd):=[(1,.int .i64),(8,.list TyD),(9,.int .i64),(10,.int .i64)]
abbrev TP:List (Ex×List (Nat×Kd)):=[(.ret,[(4,.int .i64)]),(.exit 0,[])]
def uU(x:Shape.den J5):oS J5 TP:=match x with
 | (v1,v8,v9,v10,()) =>
  bif ltI v10 v9 then
   bif aF v10 v8.length then aC (F9 ((v8.getD v10.toNat []),())) λy2 =>
   bif !(eqI y2.1 0) then
    some (.inr (.inl (y2.1,())))
   else bif !(eqI ((v8.getD v10.toNat []).length:Int) v1) then
    some (.inr (.inl (5,())))
   else some (.inl (v1,v8,v9,(aB .i64 (v10+1)),())) else none
  else some (.inr (.inr ((()))))
def GC(x:Shape.den J5):oX TP:=bF uU (2^64) x
def KH(x:aK [.list TyD,.int .i64]):oK [.int .i64]:=match x with
 | (v0,v1,()) =>
  aC (GC (v1,v0,(v0.length:Int),0,())) λz3 =>
  vB z3 (λa4=>some (a4.1,())) λb5 =>
  some (0,())
abbrev aLF:Ent:=⟨177,_,_,KH⟩
theorem aE7:Ent.OK tP aLF:=oU (aR (oV aAN oW)) func177 2 (lp:=GC) rfl (by kernel_rfl) (by rintro⟨v1,v8,v9,v10,⟨⟩⟩; kernel_rfl) (by rintro⟨v0,v1,⟨⟩⟩; kernel_rfl)
def CX(x:aK [.int .i64,.list TyD]):oK [.int .i64]:=match x with
 | (v0,v1,()) =>
  bif ltI v0 0 then
   some (3,())
  else bif ltI 12 v0 then
   some (3,())
  else bif ltI 12 (v1.length:Int) then
   some (4,())
  else aC (KH (v1,v0,())) λy1 =>
  some (y1.1,())
abbrev YU:Ent:=⟨128,_,_,CX⟩
theorem RP:Ent.OK tP YU:=oI (aR (oV aE7 oW)) func128 (by kernel_rfl) (by rintro⟨v0,v1,⟨⟩⟩; kernel_rfl)
abbrev gU:List (Nat×Kd):=[(4,.bag 98 TyE 53 TyD none),(6,.bag 98 TyE 53 TyD none),(13,.own 148 (.hnd 1)),(14,.int .i64),(15,.int .i64),(100000,.ar 110 .str)]
abbrev lD:List (Ex×List (Nat×Kd)):=[(.ret,[(4,.bag 98 TyE 53 TyD none),(5,.int .i64),(100000,.ar 110 .str)]),(.exit 0,[(4,.bag 98 TyE 53 TyD none),(6,.bag 98 TyE 53 TyD none),(100000,.ar 110 .str)])]
def fK(x:Shape.den gU):oS gU lD:=match x with
 | (v4,v6,v13,v14,v15,u00,()) =>
  bif ltI v15 v14 then
   bif aF v15 v13.length then bif Nat.blt v15.toNat v13.length then aC (jV () (((v13.getD v15.toNat (0,0,0)).1,(v13.getD v15.toNat (0,0,0)).2.1,(v13.getD v15.toNat (0,0,0)).2.2),()) u00) λy2 =>
   bif !(eqI y2.1.2.1 0) then
    some (.inr (.inl ((0,([],())),y2.1.2.1,y2.2,())))
   else bif Nat.ble [y2.1.1].length 1048576 then bif Nat.ble v6.2.1.length 1048576 then some (.inl ((v4.1,(v4.2.1,())),(v6.1,((v6.2.1++[y2.1.1]),())),v13,v14,(aB .i64 (v15+1)),y2.2,())) else none else none else none else none
  else some (.inr (.inr (((v4.1,(v4.2.1,())),(v6.1,(v6.2.1,())),u00,()))))
def mT(x:Shape.den gU):oX lD:=bF fK (2^64) x
def cN(v0:List (Nat×Nat×Nat))(x:aK [.int .i64])(A:List (List ByteArray)):Option ((aK [.agg TyH,.int .i64])×List (List ByteArray)):=match x with
 | (v1,()) =>
  aC (mT ((0,([],())),(v1,([],())),v0,(v0.length:Int),0,A,())) λz3 =>
  vB z3 (λa4=>some (((a4.1.1,a4.1.2.1),a4.2.1,()),a4.2.2.1)) λb5 =>
  some (((b5.2.1.1,b5.2.1.2.1),0,()),b5.2.2.1)
def sG:Code:=dM f123
abbrev yR:Env:=KE [] [I3]
theorem DH:fR tP yR:=l8 trivial ⟨SV,trivial⟩
def vH:Code:=inLoop (aQJ sG 0)
def xK(id:Nat):Option cA:=bif Nat.beq id 3 then some ⟨gU,lD,mT⟩ else none
def xD(id:Nat):Option cA:=none
theorem KX:∀ x,aNT tP yR 36 (aAU f123) xK xD false [] vH gU lD x=fK x:=by
 rintro⟨v4,v6,v13,v14,v15,u00,⟨⟩⟩
 kernel_rfl
theorem MS:UB tP 36 false [] (.loop vH) ⟨gU,lD,mT⟩:=aKR DH.callee bD.mixed _ (US (l:=[]) (by kernel_rfl) trivial) KX
theorem N2:gX sG=[.loop vH]:=by kernel_rfl
theorem QJ:∀ l x A,aUO tP yR f123 (aAU f123) xK xD sG 110 .str (.own 148 (.hnd 1)) [.int .i64] (.data [.agg TyH,.int .i64]) l x A=cN l x A:=by
 rintro u0 ⟨v1,⟨⟩⟩ A
 kernel_rfl
theorem R9:LA tP 123 110 .str (.own 148 (.hnd 1)) [.int .i64] (.data [.agg TyH,.int .i64]) cN:=a3T bD DH func123 (c:=sG) (by kernel_rfl) (bG:=aAU f123) (lt:=xK) (rt:=xD) (by rfl) (US N2 ⟨aJK (i:=3) (by kernel_rfl) rfl MS,trivial⟩) QJ
abbrev kO:Shr:=(123,QL 1 (arH 110 .str (.own 148 (.hnd 1)) [.int .i64] (.data [.agg TyH,.int .i64]) cN))
theorem kY:uT tP kO:=rK (g:=123) (f:=arH 110 .str (.own 148 (.hnd 1)) [.int .i64] (.data [.agg TyH,.int .i64]) cN) (DA R9)
def DE(x:aK [.int .i64,.list TyD]):oK [.agg TyH,.int .i64]:=match x with
 | (v0,v1,()) =>
  aC (CX (v0,v1,())) λy1 =>
  bif !(eqI y1.1 0) then
   some ((0,[]),y1.1,())
  else aC (cL () (v1,()) []) λy2 =>
  aC (cO y2.1 (v0,()) y2.2) λy3 =>
  aC (cN y3.1 (v0,()) y3.2) λy4 =>
  some (y4.1.1,y4.1.2.1,())
def XX:Code:=dM f86
abbrev aGU:Env:=KE [YU] [sU,kP,kO]
theorem aIX:fR tP aGU:=l8 ⟨RP,trivial⟩ ⟨tD,lF,kY,trivial⟩
def aEC(id:Nat):Option cA:=none
theorem aG5:a8 XX=[]:=by kernel_rfl
theorem aIT:∀ x,aAL tP aGU f86 (aO f86) aEC XX 110 .str _ _ x=DE x:=by
 rintro⟨v0,v1,⟨⟩⟩
 kernel_rfl
abbrev aRJ:Ent:=⟨86,_,_,DE⟩
theorem ZK:Ent.OK tP aRJ:=aGC bD aIX func86 (c:=XX) (by kernel_rfl) (bG:=aO f86) (lt:=aEC) (aQ aG5 trivial) aIT
end Go.PM
namespace Go.PM
open Go Go.RowKit Go.Proofs Go.Lz
def vL(r:List Int):V:=λx=>r.getD x 0
def KC(m:List (List Int)):Nat->V:=λi=>vL (m.getD i [])
def Vr(n:Nat) (v:V):List Int:=(List.range n).map v
theorem a4B(r:List Int):Zr r.length (vL r)=r.map Zn:=by
 refine List.ext_getElem? λi=>?_
 simp only[Zr,List.getElem?_map]
 by_cases h:i<r.length
 ·rw[List.getElem?_range h,List.getElem?_eq_getElem h];simp[vL,List.getD,h]
 ·have h1:(List.range r.length)[i]?=none:=by simp; omega
  rw[h1,List.getElem?_eq_none (by omega)]; rfl
theorem aV8 {n:Nat}{v:V}(hw:∀ x,n<=x->v x=0):vL (Vr n v)=v:=by
 funext x
 unfold vL Vr
 by_cases h:x<n
 ·simp[List.getD,h]
 ·have h1:(List.range n)[x]?=none:=by simp; omega
  simp[List.getD,h1,hw x (by omega)]
theorem aSO(n:Int)(h:Lib.nDigits n.natAbs<=18):ED (Zn n,())=some (n,true,()):=by
 have hl:=XZ h;have hs:(Zn n).size<=1000000000:=by
  rcases(by omega:n<0\/0<=n)with g|g
  ·rw[HC g]; omega
  ·rw[SZ g,EK]; omega
 have e1:Nat.ble (Zn n).size 1000000000=true:=by rw[dN]; simpa using hs
 have e2:eqI 10 10=true:=by decide
 have e3:eqI 64 64=true:=by decide
 have e4:Lib.parseIntB 64 (Zn n).data.toList=.ok n:=by
  have hne:∀ c r,Lib.decDigits n.natAbs=c::r->c.toNat≠43/\c.toNat≠45:=λc r he=>by
   have:=KL n.natAbs c (by rw[he]; simp);omega
  have hmag:=aLZ n.natAbs;rw[AU]at hmag;have hlen:(Lib.decDigits n.natAbs).length<=18:=by rw[Lib.decDigits_length]; exact h
  rw[Lib.parseIntB_64];rcases(by omega:n<0\/0<=n)with g|g
  ·have hn : -(n.natAbs:Int)=n:=by omega
   rw[VO g,Lib.atoiAll_minus,Lib.signed_short hlen,hmag];simp only[Option.map_some,hn];rfl
  ·have hn:(n.natAbs:Int)=n:=by omega
   rw[SZ g,AU];cases he:Lib.decDigits n.natAbs with
   | nil=>exact absurd he (HY _)
   | cons c r =>
    obtain⟨h1,h2⟩:=hne c r he;rw[Lib.atoiAll_plain c r h1 h2,<- he,Lib.signless_short hlen,hmag];simp only[Option.map_some,hn];rfl
 unfold ED;simp only[e1,oC,e4]
theorem aF9(r:List Int)(hl:r.length<=1048576)(hr:∀ a∈r,-9223372036854775808<=a/\a<9223372036854775808) :
  u9 ([],r,(r.length:Int),0,())=some (r.map Zn,()):=by
 have key:=aU (step:=qL) (N:=2^64) (λt=>((r.take t).map Zn,r,(r.length:Int),(t:Int),())) r.length (r.map Zn,()) (by omega) (λt ht=>?_) ?_
 ·exact key
 ·have e1:ltI (t:Int) (r.length:Int)=true:=by rw[aE]; exact oT (by omega)
  have e2:aF (t:Int) r.length=true:=by rw[aM]; exact oT (by omega)
  have e3:((t:Nat):Int).toNat=t:=oN _;have e4:r.getD t 0=r[t]:=by simp[List.getD,ht]
  obtain⟨b1,b2⟩:=hr r[t] (List.getElem_mem ht);have e5:=uM r[t] b1 b2;have e6:Nat.ble [Zn r[t]].length 1048576=true:=rfl;have e7:Nat.ble ((r.take t).map Zn).length 1048576=true:=by rw[dN,List.length_map,List.length_take]; exact oT (by omega)
  have e8:=bX t (by omega);have e9:(r.take t).map Zn++[Zn r[t]]=(r.take (t+1)).map Zn:=by rw[List.take_succ_eq_append_getElem ht,List.map_append]; rfl
  simp only[qL,e1,e2,e3,e4,e5,aD,e6,e7,oC,e8,e9]
 ·have e1:ltI (r.length:Int) (r.length:Int)=false:=by rw[aE]; exact oF (by omega)
  simp only[qL,e1,oD,List.take_length]
theorem aFM(r:List Int)(hl:r.length<=1048576)(hr:∀ a∈r,-9223372036854775808<=a/\a<9223372036854775808):n8 (r,())=some (r.map Zn):=by
 have e1:ltI (r.length:Int) 0=false:=by rw[aE]; exact oF (by omega)
 have e2:ltI 1048576 (r.length:Int)=false:=by rw[aE]; exact oF (by omega)
 unfold n8;simp only[e1,e2,Bool.not_false,oC,List.replicate_zero,aF9 r hl hr,aD]
theorem aJA(rows:List (List Int)) {n:Nat} (hk:rows.length<1048576) (hn:n<1048576) (hlen:∀ r∈rows,r.length=n) (hr:∀ r∈rows,∀ a∈r,-9223372036854775808<=a/\a<9223372036854775808) :
  ∃ m A,cL () (rows,()) []=some (m,A)/\lH 0 rows.length n m A (λi=>i) (KC rows):=by
 have key:=aU (step:=dQ) (N:=2^64)
  (λt=>((List.range t).map (λi=>(i,0,n)),rows,(rows.length:Int),(t:Int),(rows.take t).map (·.map Zn),())) rows.length ((List.range rows.length).map (λi=>(i,0,n)),rows.map (·.map Zn),()) (by omega) (λt ht=>?_) ?_
 ·refine⟨(List.range rows.length).map (λi=>(i,0,n)),rows.map (·.map Zn),?_,rfl,λi hi=>⟨[],rfl,?_⟩,λi j _ _ h=>h⟩
  ·unfold cL mM;have key:bF dQ (2^64) ([],rows,(rows.length:Int),0,[],())=_:=key;simp only[key,aD]
  ·rw[List.getElem?_map,List.getElem?_eq_getElem hi];simp only[Option.map_some,List.nil_append]
   congr 1
   have h1:KC rows i=vL rows[i]:=by unfold KC; simp[List.getD,hi]
   rw[h1,<- a4B,hlen rows[i] (List.getElem_mem hi)]
 ·have e1:ltI (t:Int) (rows.length:Int)=true:=by rw[aE]; exact oT (by omega)
  have e2:aF (t:Int) rows.length=true:=by rw[aM]; exact oT (by omega)
  have e3:((t:Nat):Int).toNat=t:=oN _;have e4:rows.getD t []=rows[t]:=by simp[List.getD,ht]
  have hm:=List.getElem_mem ht;have e5:=aFM rows[t] (by rw[hlen _ hm]; omega) (hr _ hm);have e6:((rows.take t).map (·.map Zn)).length=t:=by rw[List.length_map,List.length_take]; omega
  have e7:Nat.ble [(t,0,n)].length 1048576=true:=rfl;have e8:Nat.ble ((List.range t).map (λi=>(i,0,n))).length 1048576=true:=by rw[dN,List.length_map,List.length_range]; exact oT (by omega)
  have e9:=bX t (by omega);have e10:(rows[t].map Zn).length=n:=by rw[List.length_map,hlen _ hm]
  have e11:(rows.take t).map (·.map Zn)++[rows[t].map Zn]=(rows.take (t+1)).map (·.map Zn):=by rw[List.take_succ_eq_append_getElem ht,List.map_append]; rfl
  have e12:(List.range t).map (λi=>(i,0,n))++[(t,0,n)]=(List.range (t+1)).map (λi=>(i,0,n)):=by rw[List.range_succ,List.map_append]; rfl
  simp only[dQ,e1,e2,e3,e4,e5,aD,e6,e7,e8,e9,e10,e11,e12,oC]
 ·have e1:ltI (rows.length:Int) (rows.length:Int)=false:=by rw[aE]; exact oF (by omega)
  simp only[dQ,e1,oD,List.take_length]
theorem aX2 {A:List (List ByteArray)} {J o n:Nat} {v:V} {pre:List ByteArray} (hn:n<1048576) (hp:pre.length=o) (hJ:A[J]?=some (pre++Zr n v)) (ok:∀ x,x<n->(v x).natAbs<=1000000000) :
  jV () ((J,o,n),()) A=some ((Vr n v,0,()),A):=by
 have key:=aU (step:=gV) (N:=2^64) (λt=>(Vr t v,(J,o,n),(n:Int),(t:Int),A,())) n (.inr (Vr n v,A,())) (by omega) (λt ht=>?_) ?_
 ·have e1:ltI (n:Int) 0=false:=by rw[aE]; exact oF (by omega)
  have e2:ltI 1048576 (n:Int)=false:=by rw[aE]; exact oF (by omega)
  have key:bF gV (2^64) ([],(J,o,n),(n:Int),0,A,())=_:=key;unfold jV pS;simp only[e1,e2,Bool.not_false,oC,List.replicate_zero,key,aD,jN]
 ·have b1:=ok t ht;have e1:ltI (t:Int) (n:Int)=true:=by rw[aE]; exact oT (by omega)
  have e2:aF (t:Int) n=true:=by rw[aM]; exact oT (by omega)
  have e3:(o+((t:Nat):Int).toNat)*1=o+t:=by simp
  have e4:cS A J=o+n:=by rw[cS,aD9 _ hJ,oH,mC,hp]
  have e6:Nat.blt (o+t) (o+n)=true:=by rw[cD]; simpa using ht
  have e7:dK A J (o+t) ByteArray.empty=Zn (v t):=by rw[dK,aD9 _ hJ,XP hp,aKZ _ ht]
  have e8:=aSO (v t) (by have:=uD (u:=(v t).natAbs) (k:=17) (by omega); omega);have e9:ltI 1000000000 (v t)=false:=by rw[aE]; exact oF (by omega)
  have e10:ltI (v t) (-1000000000)=false:=by rw[aE]; exact oF (by omega)
  have e11:Nat.ble [v t].length 1048576=true:=rfl;have e12:Nat.ble (Vr t v).length 1048576=true:=by rw[dN]; unfold Vr; rw[List.length_map,List.length_range]; exact oT (by omega)
  have e13:=bX t (by omega);have e14:Vr t v++[v t]=Vr (t+1) v:=by unfold Vr; rw[List.range_succ,List.map_append]; rfl
  simp only[gV,e1,e2,e3,e4,e6,e7,e8,e9,e10,e11,e12,e13,e14,aD,oC,oD]
 ·have e1:ltI (n:Int) (n:Int)=false:=by rw[aE]; exact oF (by omega)
  simp only[gV,e1,oD]
theorem XY {o k d n:Nat} {m:List (Nat×Nat×Nat)} {A:List (List ByteArray)} {J:Nat->Nat} {M:Nat->V} (h:lH o k n m A J M) (hd:d<=k) (hk:k<1048576) (hn:n<1048576) (ok:∀ i,i<d->∀ x,x<n->(M i x).natAbs<=1000000000) (cols:Int) :
  cN (m.take d) (cols,()) A=some (((cols,(List.range d).map λi=>Vr n (M i)),0,()),A):=by
 have hl:(m.take d).length=d:=by rw[List.length_take,h.len]; omega
 have hg:∀ t,t<d->(m.take d).getD t (0,0,0)=(J t,o,n):=λt ht=>by
  rw[<- h.get (show t<k by omega)];simp[List.getD,List.getElem?_take,ht]
 have key:=aU (step:=fK) (N:=2^64)
  (λt=>((0,([],())),(cols,((List.range t).map (λi=>Vr n (M i)),())),m.take d,((m.take d).length:Int),(t:Int),A,())) d (.inr ((0,([],())),(cols,((List.range d).map (λi=>Vr n (M i)),())),A,())) (by omega) (λt ht=>?_) ?_
 ·have key:bF fK (2^64) ((0,([],())),(cols,([],())),m.take d,((m.take d).length:Int),0,A,())=_:=key;unfold cN mT;simp only[key,aD,jN]
 ·rw[hl];obtain⟨pre,h1,h2⟩:=h.at_ t (by omega);have e1:ltI (t:Int) (d:Int)=true:=by rw[aE]; exact oT (by omega)
  have e2:aF (t:Int) d=true:=by rw[aM]; exact oT (by omega)
  have e3:((t:Nat):Int).toNat=t:=oN _;have e4:Nat.blt t d=true:=by rw[cD]; simpa using ht
  have e5:=aX2 hn h1 h2 (ok t ht);have e6:eqI 0 0=true:=by decide
  have e7:Nat.ble [Vr n (M t)].length 1048576=true:=rfl;have e8:Nat.ble ((List.range t).map (λi=>Vr n (M i))).length 1048576=true:=by rw[dN,List.length_map,List.length_range]; exact oT (by omega)
  have e9:=bX t (by omega);have e10:(List.range t).map (λi=>Vr n (M i))++[Vr n (M t)]=(List.range (t+1)).map (λi=>Vr n (M i)):=by rw[List.range_succ,List.map_append]; rfl
  simp only[fK,hl,e1,e2,e3,e4,hg t ht,e5,e6,e7,e8,e9,e10,aD,oC,Bool.not_true,oD]
 ·rw[hl];have e1:ltI (d:Int) (d:Int)=false:=by rw[aE]; exact oF (by omega)
  simp only[fK,e1,oD]
theorem aDA(r:List Int) (hl:r.length<=64) (hr:∀ a∈r,a.natAbs<=1000000000):F9 (r,())=some (0,()):=by
 have key:=aU (step:=eO) (N:=2^64) (λt=>(r,(),(r.length:Int),(t:Int),())) r.length (.inr ()) (by omega) (λt ht=>?_) ?_
 ·have key:bF eO (2^64) (r,(),(r.length:Int),0,())=some (.inr ()):=key;have e1:ltI 64 (r.length:Int)=false:=by rw[aE]; exact oF (by omega)
  have e2:ltI (-1) 0=true:=by decide
  simp only[F9,e1,oD,pA,qW,mI,key,aD,jN,e2,Bool.not_true]
 ·have e1:ltI (t:Int) (r.length:Int)=true:=by rw[aE]; exact oT (by omega)
  have e2:aF (t:Int) r.length=true:=by rw[aM]; exact oT (by omega)
  have e3:((t:Nat):Int).toNat=t:=oN _;have e4:r.getD t 0=r[t]:=by simp[List.getD,ht]
  have b:=hr r[t] (List.getElem_mem ht);have e5:ltI r[t] (-1000000000)=false:=by rw[aE]; exact oF (by omega)
  have e6:ltI 1000000000 r[t]=false:=by rw[aE]; exact oF (by omega)
  have e7:=bX t (by omega);simp only[eO,e1,e2,e3,e4,U5,aFH,e5,e6,aD,Bool.not_false,oC,oD,e7]
 ·have e1:ltI (r.length:Int) (r.length:Int)=false:=by rw[aE]; exact oF (by omega)
  simp only[eO,e1,oD]
theorem aRC(rows:List (List Int)){n:Nat}(hk:rows.length<1048576)(hn:n<=64)(hlen:∀ r∈rows,r.length=n)(hr:∀ r∈rows,∀ a∈r,a.natAbs<=1000000000):KH (rows,(n:Int),())=some (0,()):=by
 have key:=aU (step:=uU) (N:=2^64) (λt=>((n:Int),rows,(rows.length:Int),(t:Int),())) rows.length (.inr ()) (by omega) (λt ht=>?_) ?_
 ·have key:bF uU (2^64) ((n:Int),rows,(rows.length:Int),0,())=some (.inr ()):=key;simp only[KH,GC,key,aD,jN]
 ·have e1:ltI (t:Int) (rows.length:Int)=true:=by rw[aE]; exact oT (by omega)
  have e2:aF (t:Int) rows.length=true:=by rw[aM]; exact oT (by omega)
  have e3:((t:Nat):Int).toNat=t:=oN _;have e4:rows.getD t []=rows[t]:=by simp[List.getD,ht]
  have hm:=List.getElem_mem ht;have e5:=aDA rows[t] (by rw[hlen _ hm]; exact hn) (hr _ hm);have e6:eqI 0 0=true:=by decide
  have e7:eqI (rows[t].length:Int) (n:Int)=true:=by rw[fP,hlen _ hm]; exact oT rfl
  have e8:=bX t (by omega);simp only[uU,e1,e2,e3,e4,e5,aD,e6,e7,e8,Bool.not_true,oC,oD]
 ·have e1:ltI (rows.length:Int) (rows.length:Int)=false:=by rw[aE]; exact oF (by omega)
  simp only[uU,e1,oD]
theorem aSM(rows:List (List Int)){n:Nat}(hk:rows.length<=12)(hn:n<=12)(hlen:∀ r∈rows,r.length=n)(hr:∀ r∈rows,∀ a∈r,a.natAbs<=1000000000):CX ((n:Int),rows,())=some (0,()):=by
 have e1:ltI (n:Int) 0=false:=by rw[aE]; exact oF (by omega)
 have e2:ltI 12 (n:Int)=false:=by rw[aE]; exact oF (by omega)
 have e3:ltI 12 (rows.length:Int)=false:=by rw[aE]; exact oF (by omega)
 simp only[CX,e1,e2,e3,oD,aRC rows (by omega) (by omega) hlen hr,aD]
theorem of_eq(rows:List (List Int)) {n:Nat} (hk:rows.length<=12) (hn:n<=12) (hlen:∀ r∈rows,r.length=n) {E T:Nat->Nat} (hr:∀ r∈rows,∀ a∈r,a.natAbs<=E 0) (hE:E 0<=1000000000) (hb:Bds rows.length n E T)
  (hfin:∀ d M p,d<=rows.length->Hn d M p->Same rows.length (KC rows) d M->(∀ i,i<d->∀ x,n<=x->M i x=0)->∀ i,i<d->∀ x,x<n->(M i x).natAbs<=1000000000) :
  ∃ d M p,DE ((n:Int),rows,())=some (((n:Int),(List.range d).map λi=>Vr n (M i)),0,())/\d<=rows.length/\Hn d M p/\Same rows.length (KC rows) d M/\(∀ i,i<d->∀ x,n<=x->M i x=0)/\∀ i,i<d->∀ x,x<n->(M i x).natAbs<=1000000000:=by
 obtain⟨m,A,h1,h2⟩:=aJA rows (n:=n) (by omega) (by omega) hlen (λr h a ha=>by have:=hr r h a ha; omega);have hrow:∀ i,i<rows.length->∃ r,r∈rows/\KC rows i=vL r:=λi hi=>⟨rows[i],List.getElem_mem hi,by unfold KC; simp[List.getD,hi]⟩
 have hw:Wd rows.length n (KC rows):=λi hi x hx=>by
  obtain⟨r,hr1,hr2⟩:=hrow i hi;rw[hr2]; unfold vL;have:=hlen r hr1;simp[List.getD,List.getElem?_eq_none (show r.length<=x by omega)]
 have hB:Big rows.length n (KC rows) (E 0):=λi hi x hx=>by
  obtain⟨r,hr1,hr2⟩:=hrow i hi;rw[hr2]; unfold vL;have hl:=hlen r hr1;have:r.getD x 0=r[x]'(by omega):=by simp[List.getD,show x<r.length by omega]
  rw[this];exact hr r hr1 _ (List.getElem_mem _)
 obtain⟨m',A',J',M',d,p,g1,g2,g3,g4,g5,g6,g7⟩:=UP (by omega) (by omega) h2 hw hB hb;have hwd:∀ i,i<d->∀ x,n<=x->M' i x=0:=λi hi x hx=>g6 i (by omega) x hx
 have hf:=hfin d M' p g2 g4 g5 hwd;refine⟨d,M',p,?_,g2,g4,g5,hwd,hf⟩;have e0:eqI 0 0=true:=by decide
 simp only[DE,aSM rows hk hn hlen (λr h a ha=>oR (hr r h a ha) hE),aD,e0,Bool.not_true,oD,h1,g1,XY g3 g2 (by omega) (by omega) hf (n:Int)]
end Go.PM
namespace Go.PM
open Go Go.RowKit Go.Proofs Tryz
set_option maxHeartbeats 4000000
abbrev E9:List (Nat×Kd):=[(3,.own 110 .str),(9,.list TyE),(10,.int .i64),(11,.int .i64)]
abbrev M8:List (Ex×List (Nat×Kd)):=[(.exit 0,[(3,.own 110 .str)])]
def XH(x:Shape.den E9):oS E9 M8:=match x with
 | (v3,v9,v10,v11,()) =>
  bif ltI v11 v10 then
   bif aF v11 v9.length then aC (jK ((v9.getD v11.toNat 0),())) λy2 =>
   bif Nat.ble [y2.1].length 1048576 then bif Nat.ble v3.length 1048576 then some (.inl ((v3++[y2.1]),v9,v10,(aB .i64 (v11+1)),())) else none else none else none
  else some (.inr ((v3,())))
def B6(x:Shape.den E9):oX M8:=bF XH (2^64) x
def nN(x:aK [.list TyE]):oK [.list .str]:=match x with
 | (v0,()) =>
  bif !(ltI (v0.length:Int) 0) then bif !(ltI 1048576 (v0.length:Int)) then aC (B6 ((List.replicate 0 ByteArray.empty),v0,(v0.length:Int),0,())) λz3 =>
  some (z3.1,()) else none else none
abbrev JG:Ent:=⟨119,_,_,nN⟩
theorem ND:Ent.OK tP JG:=oU (aR (oV EG oW)) func119 3 (lp:=B6) rfl (by kernel_rfl) (by rintro⟨v3,v9,v10,v11,⟨⟩⟩; kernel_rfl) (by rintro⟨v0,⟨⟩⟩; kernel_rfl)
abbrev fA:List (Nat×Kd):=[(0,.val),(7,.list TyD),(8,.int .i64),(9,.int .i64)]
abbrev iF:List (Ex×List (Nat×Kd)):=[(.exit 0,[])]
def gH(x:Shape.den fA):Option (List (Value×aK [.int .i64,.list .str])×(Shape.den fA⊕qI iF)):=match x with
 | (v0,v7,v8,v9,()) =>
  bif ltI v9 v8 then
   bif aF v9 v7.length then aC (nN ((v7.getD v9.toNat []),())) λy3 =>
   aC (A6 (y3.1,())) λy4 =>
   outs [(v0,(y4.1,y3.1,()))] (some ([],.inl (v0,v7,v8,(aB .i64 (v9+1)),()))) else none
  else some ([],.inr ((())))
def kR(x:Shape.den fA):Option (List (Value×aK [.int .i64,.list .str])×qI iF):=aGG gH (2^64) x
def uE(v0:Value)(x:Q5 [TyH]):Option (List (Value×aK [.int .i64,.list .str])):=match x with
 | (v1,()) =>
  a3X (aV4 (kR (v0,v1.2,(v1.2.length:Int),0,())) λz5 =>
  some ([],()))
def pL:Code:=dM f239
abbrev uV:Env:=KE [JG,O5] []
theorem AA:fR tP uV:=l8 ⟨ND,I4,trivial⟩ trivial
def jC:Code:=inLoop (aQJ pL 0)
def s9(id:Nat):Option cA:=none
def tG(id:Nat):Option (V6 (Value×aK [.int .i64,.list .str])):=bif Nat.beq id 1 then some ⟨fA,iF,kR⟩ else none
theorem ID:bQ jC=1:=by kernel_rfl
theorem LL:gX jC=[]:=by kernel_rfl
theorem IC:∀ x,a1T tP uV 22 (aO f239) s9 [.int .i64,.list .str] tG jC fA iF x=gH x:=by
 rintro⟨v0,v7,v8,v9,⟨⟩⟩
 kernel_rfl
theorem IZ:aWE tP 22 [.int .i64,.list .str] jC ⟨fA,iF,kR⟩:=a0P AA.callee bD.mixed _ (aSK LL trivial) IC
theorem JH:gX pL=[.loop jC]:=by kernel_rfl
theorem KT:∀ v0 x,aZ4 tP uV f239 (aO f239) s9 [.int .i64,.list .str] tG pL [TyH] v0 x=uE v0 x:=by
 rintro v0 ⟨v1,⟨⟩⟩
 kernel_rfl
theorem KW {f:Q5 [TyH]->Option (List (aK [.int .i64,.list .str]))}(h:∀ yv x all,f x=some all->uE yv x=some (all.map λe=>(yv,e))):aKC tP 239 [TyH] [.int .i64,.list .str] f:=a2P bD AA func239 (c:=pL) (by kernel_rfl) (by kernel_rfl) (bG:=aO f239) (lt:=s9) (li:=tG) (aSK JH ⟨a14 ID rfl rfl IZ,trivial⟩) (λyv x all hx=>(KT yv x).trans (h yv x all hx))
def aUL:List (List Int)->Option (List (aK [.int .i64,.list .str]))
 | []=>some []
 | r::l=>aC (nN (r,())) λy=>aC (A6 (y.1,())) λz=>aC (aUL l) λrest=>some ((z.1,y.1,())::rest)
def aO7(x:Q5 [TyH]):Option (List (aK [.int .i64,.list .str])):=match x with
 | ((_,b),())=>bif Nat.ble b.length 1048576 then aUL b else none
theorem aGK(yv:Value)(l:List (List Int))(hl:l.length<=1048576):∀ (rest pre:List (List Int)) (all:List (aK [.int .i64,.list .str])) (N:Nat),aUL rest=some all->pre++rest=l->rest.length<N ->
  aGG gH N (yv,l,(l.length:Int),(pre.length:Int),())=some (all.map λe=>(yv,e),())
 | [],pre,all,N+1,h,hp,_=>by
  obtain rfl:=oB h;rw[List.append_nil]at hp;subst hp;have h1:ltI (pre.length:Int) (pre.length:Int)=false:=by simp[aE]
  simp only[aGG,gH,h1,oD];rfl
 | r::rest,pre,all,N+1,h,hp,hN=>by
  obtain⟨y,hy,h⟩:=zD h;obtain⟨z,hz,h⟩:=zD h;obtain⟨all',ha,h⟩:=zD h;obtain rfl:=oB h;have hlen:l.length=pre.length+(rest.length+1):=by rw[<- hp]; simp
  have h1:ltI (pre.length:Int) (l.length:Int)=true:=by simp[aE]; omega
  have h2:aF (pre.length:Int) l.length=true:=by simp[aM]; omega
  have h3:l.getD ((pre.length:Int)).toNat []=r:=by rw[<- hp]; simp
  have h4:=aGK yv l hl rest (pre++[r]) all' N ha (by rw[<- hp]; simp) (by simp at hN; omega);have h5:aB .i64 ((pre.length:Int)+1)=((pre++[r]).length:Int):=by rw[wrap64 (by omega) (by omega)]; simp
  simp only[aGG,gH,h1,oC,h2,h3,hy,aD,hz,outs,h5];rw[h4];rfl
theorem aXW:aKC tP 239 [TyH] [.int .i64,.list .str] aO7:=by
 refine KW ?_;rintro yv ⟨⟨n,b⟩,⟨⟩⟩ all h;unfold aO7 at h;dsimp only at h;obtain⟨hb,h⟩:=aH h;have hb:=oL hb;have:=aGK yv b hb b [] all (2^64) h rfl (by omega);unfold uE;dsimp only;unfold kR;have h0:((([]:List (List Int)).length:Nat):Int)=0:=rfl;rw[h0]at this;rw[this];simp[aV4,outs,a3X]
end Go.PM
namespace Go.PM
open Go Go.RowKit Go.Proofs Tryz
set_option maxHeartbeats 4000000
def UK(x:aK [.int .i64]):oK [.bool]:=match x with
 | (v0,()) =>
  bif ltI 1000000000 v0 then
   some (true,())
  else some (ltI v0 (-1000000000),())
abbrev aN2:Ent:=⟨172,_,_,UK⟩
theorem aHB:Ent.OK tP aN2:=oI (aR oW) func172 (by kernel_rfl) (by rintro⟨v0,⟨⟩⟩; kernel_rfl)
abbrev o8:List (Nat×Kd):=[(0,.list TyE),(1,.fn 172),(7,.int .i64),(8,.int .i64)]
abbrev vD:List (Ex×List (Nat×Kd)):=[(.ret,[(4,.int .i64)]),(.exit 0,[])]
def eN(x:Shape.den o8):oS o8 vD:=match x with
 | (v0,v1,v7,v8,()) =>
  bif ltI v8 v7 then
   bif aF v8 v0.length then aC (UK ((v0.getD v8.toNat 0),())) λy2 =>
   bif y2.1 then
    some (.inr (.inl (v8,())))
   else some (.inl (v0,(),v7,(aB .i64 (v8+1)),())) else none
  else some (.inr (.inr ((()))))
def mR(x:Shape.den o8):oX vD:=bF eN (2^64) x
def qQ(x:aK [.list TyE,.fn 172]):oK [.int .i64]:=match x with
 | (v0,v1,()) =>
  aC (mR (v0,(),(v0.length:Int),0,())) λz3 =>
  vB z3 (λa4=>some (a4.1,())) λb5 =>
  some ((-1),())
abbrev JR:Ent:=⟨197,_,_,qQ⟩
theorem HM:Ent.OK tP JR:=oU (aR (oV aHB oW)) func197 2 (lp:=mR) rfl (by kernel_rfl) (by rintro⟨v0,v1,v7,v8,⟨⟩⟩; kernel_rfl) (by rintro⟨v0,v1,⟨⟩⟩; kernel_rfl)
def jH(x:aK [.list TyE,.fn 172]):oK [.bool]:=match x with
 | (v0,v1,()) =>
  aC (qQ (v0,(),())) λy1 =>
  some (!(ltI y1.1 0),())
abbrev HN:Ent:=⟨144,_,_,jH⟩
theorem FE:Ent.OK tP HN:=oI (aR (oV HM oW)) func144 (by kernel_rfl) (by rintro⟨v0,v1,⟨⟩⟩; kernel_rfl)
abbrev MZ:List (Nat×Kd):=[(0,.list TyD),(8,.list TyD),(9,.int .i64),(10,.int .i64)]
abbrev WN:List (Ex×List (Nat×Kd)):=[(.ret,[(2,.int .i64)]),(.exit 0,[])]
def wQ(x:Shape.den MZ):oS MZ WN:=match x with
 | (v0,v8,v9,v10,()) =>
  bif ltI v10 v9 then
   bif aF v10 v8.length then bif ltI 12 ((v8.getD v10.toNat []).length:Int) then
    some (.inr (.inl (4,())))
   else bif aF 0 v0.length then bif !(eqI ((v8.getD v10.toNat []).length:Int) ((v0.getD 0 []).length:Int)) then
    some (.inr (.inl (5,())))
   else aC (jH ((v8.getD v10.toNat []),(),())) λy2 =>
   bif y2.1 then
    some (.inr (.inl (4,())))
   else some (.inl (v0,v8,v9,(aB .i64 (v10+1)),())) else none else none
  else some (.inr (.inr ((()))))
def HZ(x:Shape.den MZ):oX WN:=bF wQ (2^64) x
def NX(x:aK [.list TyD]):oK [.int .i64]:=match x with
 | (v0,()) =>
  bif ltI 12 (v0.length:Int) then
   some (4,())
  else aC (HZ (v0,v0,(v0.length:Int),0,())) λz3 =>
  vB z3 (λa4=>some (a4.1,())) λb5 =>
  some (0,())
abbrev aP1:Ent:=⟨125,_,_,NX⟩
theorem aHL:Ent.OK tP aP1:=oU (aR (oV FE oW)) func125 4 (lp:=HZ) rfl (by kernel_rfl) (by rintro⟨v0,v8,v9,v10,⟨⟩⟩; kernel_rfl) (by rintro⟨v0,⟨⟩⟩; kernel_rfl)
def EE(x:aK [.int .i64]):oK [.bool]:=match x with
 | (v0,()) =>
  some (!(eqI v0 0),())
abbrev aEY:Ent:=⟨211,_,_,EE⟩
theorem ZZ:Ent.OK tP aEY:=oI (aR oW) func211 (by kernel_rfl) (by rintro⟨v0,⟨⟩⟩; kernel_rfl)
abbrev pB:List (Nat×Kd):=[(0,.list TyE),(1,.fn 211),(7,.int .i64),(8,.int .i64)]
abbrev vC:List (Ex×List (Nat×Kd)):=[(.ret,[(4,.int .i64)]),(.exit 0,[])]
def eM(x:Shape.den pB):oS pB vC:=match x with
 | (v0,v1,v7,v8,()) =>
  bif ltI v8 v7 then
   bif aF v8 v0.length then aC (EE ((v0.getD v8.toNat 0),())) λy2 =>
   bif y2.1 then
    some (.inr (.inl (v8,())))
   else some (.inl (v0,(),v7,(aB .i64 (v8+1)),())) else none
  else some (.inr (.inr ((()))))
def mL(x:Shape.den pB):oX vC:=bF eM (2^64) x
def qU(x:aK [.list TyE,.fn 211]):oK [.int .i64]:=match x with
 | (v0,v1,()) =>
  aC (mL (v0,(),(v0.length:Int),0,())) λz3 =>
  vB z3 (λa4=>some (a4.1,())) λb5 =>
  some ((-1),())
abbrev J8:Ent:=⟨197,_,_,qU⟩
theorem HK:Ent.OK tP J8:=oU (aR (oV ZZ oW)) func197 2 (lp:=mL) rfl (by kernel_rfl) (by rintro⟨v0,v1,v7,v8,⟨⟩⟩; kernel_rfl) (by rintro⟨v0,v1,⟨⟩⟩; kernel_rfl)
def HT(x:aK [.list TyE]):oK [.int .i64]:=match x with
 | (v0,()) =>
  aC (qU (v0,(),())) λy1 =>
  some (y1.1,())
abbrev aJ7:Ent:=⟨173,_,_,HT⟩
theorem aDG:Ent.OK tP aJ7:=oI (aR (oV HK oW)) func173 (by kernel_rfl) (by rintro⟨v0,⟨⟩⟩; kernel_rfl)
def GD(x:aK [.list TyE,.ptr TyE,.ptr TyD]):oK [.bool]:=match x with
 | (v0,v1,v2,()) =>
  bif aF v1 v0.length then bif ltI (v0.getD v1.toNat 0) 0 then
   some (true,())
  else bif aF v1 v0.length then bif aF v1 v2.length then some (!(ltI (v0.getD v1.toNat 0) (v2.getD v1.toNat 0)),()) else none else none else none
abbrev aCA:Ent:=⟨174,_,_,GD⟩
theorem XL:Ent.OK tP aCA:=oI (aR oW) func174 (by kernel_rfl) (by rintro⟨v0,v1,v2,⟨⟩⟩; kernel_rfl)
abbrev jQ:List (Nat×Kd):=[(0,.list TyD),(1,.clo 174 [TyE,TyD]),(7,.int .i64),(8,.int .i64)]
abbrev qO:List (Ex×List (Nat×Kd)):=[(.ret,[(4,.int .i64)]),(.exit 0,[])]
def cU(x:Shape.den jQ):oS jQ qO:=match x with
 | (v0,v1,v7,v8,()) =>
  bif ltI v8 v7 then
   bif aF v8 v0.length then aC (GD ((v0.getD v8.toNat []),v1.1,v1.2.1,())) λy2 =>
   bif y2.1 then
    some (.inr (.inl (v8,())))
   else some (.inl (v0,(v1.1,v1.2.1,()),v7,(aB .i64 (v8+1)),())) else none
  else some (.inr (.inr ((()))))
def iT(x:Shape.den jQ):oX qO:=bF cU (2^64) x
def lN(x:aK [.list TyD,.clo 174 [TyE,TyD]]):oK [.int .i64]:=match x with
 | (v0,v1,()) =>
  aC (iT (v0,(v1.1,v1.2.1,()),(v0.length:Int),0,())) λz3 =>
  vB z3 (λa4=>some (a4.1,())) λb5 =>
  some ((-1),())
abbrev EM:Ent:=⟨100,_,_,lN⟩
theorem B4:Ent.OK tP EM:=oU (aR (oV XL oW)) func100 2 (lp:=iT) rfl (by kernel_rfl) (by rintro⟨v0,v1,v7,v8,⟨⟩⟩; kernel_rfl) (by rintro⟨v0,v1,⟨⟩⟩; kernel_rfl)
def eU(x:aK [.list TyD,.clo 174 [TyE,TyD]]):oK [.bool]:=match x with
 | (v0,v1,()) =>
  aC (lN (v0,(v1.1,v1.2.1,()),())) λy1 =>
  some (!(ltI y1.1 0),())
abbrev BU:Ent:=⟨43,_,_,eU⟩
theorem zQ:Ent.OK tP BU:=oI (aR (oV B4 oW)) func43 (by kernel_rfl) (by rintro⟨v0,v1,⟨⟩⟩; kernel_rfl)
abbrev GH:List (Nat×Kd):=[(0,.list TyD),(3,.int .i64),(7,.list TyD),(8,.int .i64),(9,.int .i64)]
abbrev PY:List (Ex×List (Nat×Kd)):=[(.ret,[(2,.bool)]),(.exit 0,[])]
def rZ(x:Shape.den GH):oS GH PY:=match x with
 | (v0,v3,v7,v8,v9,()) =>
  bif ltI v9 v8 then
   bif aF v9 v7.length then aC (HT ((v7.getD v9.toNat []),())) λy3 =>
   bif !(ltI v3 y3.1) then
    some (.inr (.inl (false,())))
   else bif aF y3.1 (v7.getD v9.toNat []).length then bif ltI ((v7.getD v9.toNat []).getD y3.1.toNat 0) 0 then
    some (.inr (.inl (false,())))
   else bif !(ltI v9 0) then bif Nat.ble 0 v9.toNat then bif Nat.ble v9.toNat v0.length then aC (eU (((v0.drop 0).take (v9.toNat-0)),(y3.1,(v7.getD v9.toNat []),()),())) λy4 =>
   bif y4.1 then
    some (.inr (.inl (false,())))
   else some (.inl (v0,y3.1,v7,v8,(aB .i64 (v9+1)),())) else none else none else none else none else none
  else some (.inr (.inr ((()))))
def C4(x:Shape.den GH):oX PY:=bF rZ (2^64) x
def FV(x:aK [.list TyD]):oK [.bool]:=match x with
 | (v0,()) =>
  aC (C4 (v0,(-1),v0,(v0.length:Int),0,())) λz5 =>
  vB z5 (λa6=>some (a6.1,())) λb7 =>
  some (true,())
abbrev aGZ:Ent:=⟨126,_,_,FV⟩
theorem aBN:Ent.OK tP aGZ:=oU (aR (oV aDG (oV zQ oW))) func126 3 (lp:=C4) rfl (by kernel_rfl) (by rintro⟨v0,v3,v7,v8,v9,⟨⟩⟩; kernel_rfl) (by rintro⟨v0,⟨⟩⟩; kernel_rfl)
def MC(x:aK [.list TyD]):oK [.bool,.int .i64]:=match x with
 | (v0,()) =>
  aC (NX (v0,())) λy1 =>
  bif !(eqI y1.1 0) then
   some (false,y1.1,())
  else aC (FV (v0,())) λy2 =>
  some (y2.1,0,())
abbrev aG9:Ent:=⟨71,_,_,MC⟩
theorem aBA:Ent.OK tP aG9:=oI (aR (oV aBN (oV aHL oW))) func71 (by kernel_rfl) (by rintro⟨v0,⟨⟩⟩; kernel_rfl)
def mK(x:aK [.agg TyH]):oK [.int .i64]:=match x with
 | (v0,()) =>
  aC (CX (v0.1,v0.2,())) λy1 =>
  bif !(eqI y1.1 0) then
   some (y1.1,())
  else aC (MC (v0.2,())) λy2 =>
  bif !(eqI y2.2.1 0) then
   some (7,())
  else bif y2.1 then
   some (0,())
  else some (7,())
abbrev PU:Ent:=⟨73,_,_,mK⟩
theorem CJ:Ent.OK tP PU:=oI (aR (oV aBA (oV RP oW))) func73 (by kernel_rfl) (by rintro⟨v0,⟨⟩⟩; kernel_rfl)
def aWW(x:aK [.agg TyH,.list TyE]):oK [.int .i64]:=match x with
 | (v0,v1,()) =>
  aC (mK (v0,())) λy1 =>
  bif !(eqI y1.1 0) then
   some (y1.1,())
  else aC (F9 (v1,())) λy2 =>
  bif !(eqI y2.1 0) then
   some (y2.1,())
  else bif !(eqI (v1.length:Int) v0.1) then
   some (5,())
  else some (0,())
def HB(x:aK [.agg TyH]):oK [.clo 239 [TyH]]:=match x with
 | (v0,()) =>
  some ((v0,()),())
abbrev HD:Ent:=⟨225,_,_,HB⟩
theorem O7:Ent.OK tP HD:=oI (aR oW) func225 (by kernel_rfl) (by rintro⟨v0,⟨⟩⟩; kernel_rfl)
abbrev cT:List (Nat×Kd):=[(4,.bown 148 110 .str),(5,.bown 148 110 .str),(14,.clo 239 [TyH])]
abbrev gN:List (Ex×List (Nat×Kd)):=[(.normal,[(4,.bown 148 110 .str),(5,.bown 148 110 .str)])]
def BN(x:Shape.den cT)(e:aK [.int .i64,.list .str]):oS cT gN:=match x,e with
 | (v4,v5,v14,()),(e0,e1,()) =>
  bif aF e0 v4.length then bif Nat.blt e0.toNat v4.length then bif aF e0 e1.length then aC (BR ((v4.getD e0.toNat ByteArray.empty),(e1.getD e0.toNat ByteArray.empty),())) λy3 =>
  aC (SY (t:=.str) rT v4 (y3.1,e1,())) λy4 =>
  bif Nat.ble [y3.1].length 1048576 then bif Nat.ble v5.length 1048576 then some (.inl (y4,(v5++[y3.1]),(v14.1,()),())) else none else none else none else none else none
def CR(x:Shape.den cT):Q5 [TyH]:=match x with
 | (v4,v5,v14,())=>(v14.1,())
def sO(x:Shape.den cT):oX gN:=a23 cT gN (λx=>aO7 (CR x)) BN x
def zH(x:aK [.agg TyH,.list TyE]):oK [.list .str,.list .str]:=match x with
 | (v0,v1,()) =>
  aC (n8 (v1,())) λy1 =>
  aC (HB (v0,())) λy2 =>
  aC (sO (y1,[],(y2.1.1,()),())) λz5 =>
  some (z5.1,z5.2.1,())
def sH:Code:=dM f196
abbrev yV:Env:=KE [HD,R2] [EJ,I9]
theorem C5:fR tP yV:=l8 ⟨O7,T0,trivial⟩ ⟨E5,SL,trivial⟩
def bP:Code:=aQJ sH 0
def QN:Code:=inLoop bP
def xU(id:Nat):Option cA:=none
def xF(id:Nat):Option cA:=bif Nat.beq id 5 then some ⟨cT,gN,sO⟩ else none
theorem LZ:bQ QN=5:=by kernel_rfl
theorem BJ:bP=.rangeFunc (aM1 bP) (aYE bP) (PD bP) (inLoop bP):=by kernel_rfl
theorem KZ:∀ y e,aPN tP yV 40 (aAU f196) xU xF (aYE bP).toList (PD bP) (inLoop bP) [.int .i64,.list .str] cT gN y e=BN y e:=by
 rintro⟨v4,v5,v14,⟨⟩⟩ ⟨e0,e1,⟨⟩⟩
 kernel_rfl
theorem OA:∀ x,a0I 239 [TyH] cT (aM1 bP) x=some (CR x):=by
 rintro⟨v4,v5,v14,⟨⟩⟩
 kernel_rfl
theorem MA:UB tP 40 false [] bP ⟨cT,gN,sO⟩:=aYW C5 bD BJ func239 (c:=dM f239) (by kernel_rfl) aXW (by kernel_rfl) (US (l:=[]) (by kernel_rfl) trivial) OA KZ
theorem N6:gX sH=[bP]:=by kernel_rfl
theorem O3:∀ x,a1I tP yV f196 (aAU f196) xU xF sH [.agg TyH,.list TyE] [.list .str,.list .str] x=zH x:=by
 rintro⟨v0,v1,⟨⟩⟩
 kernel_rfl
abbrev T7:Ent:=⟨196,_,_,zH⟩
theorem PN:Ent.OK tP T7:=a2E bD C5 func196 (c:=sH) (by kernel_rfl) (bG:=aAU f196) (lt:=xU) (rt:=xF) (US N6 ⟨aVE BJ LZ rfl MA,trivial⟩) O3
end Go.PM
namespace Go.PM
open Go Go.RowKit Go.Proofs Tryz
set_option maxHeartbeats 4000000
def l6(u0:Unit) (x:aK [.int .i64]) (A:List (List ByteArray)):Option ((List ByteArray)×List (List ByteArray)):=match x with
 | (v0,()) =>
  bif !(ltI v0 0) then bif !(ltI v0 v0) then bif !(ltI 1048576 v0) then aC (n8 ((List.replicate v0.toNat 0),())) λy1 =>
  some (y1,A) else none else none else none
def IA:Code:=dM f120
abbrev RX:Env:=KE [] [EJ]
theorem Y8:fR tP RX:=l8 trivial ⟨E5,trivial⟩
def PK(id:Nat):Option cA:=none
theorem XC:a8 IA=[]:=by kernel_rfl
theorem ZE:∀ l x A,EV tP RX f120 (aO f120) PK IA 110 .str .none [.int .i64] (.own 110 .str) l x A=l6 l x A:=by
 rintro u0 ⟨v0,⟨⟩⟩ A
 kernel_rfl
theorem aB3:LA tP 120 110 .str .none [.int .i64] (.own 110 .str) l6:=zG bD Y8 func120 (c:=IA) (by kernel_rfl) (bG:=aO f120) (lt:=PK) (by rfl) (aQ XC trivial) ZE
abbrev HQ:Shr:=(120,QL 0 (arH 110 .str .none [.int .i64] (.own 110 .str) l6))
theorem LW:uT tP HQ:=rK (g:=120) (f:=arH 110 .str .none [.int .i64] (.own 110 .str) l6) (DA aB3)
abbrev gF:List (Nat×Kd):=[(1,.int .i64),(2,.int .i64),(7,.own 148 (.hnd 1)),(10,.list (.hnd 1)),(11,.int .i64),(12,.int .i64),(100000,.ar 110 .str)]
abbrev kH:List (Ex×List (Nat×Kd)):=[(.exit 0,[(2,.int .i64),(7,.own 148 (.hnd 1)),(100000,.ar 110 .str)])]
def eY(x:Shape.den gF):oS gF kH:=match x with
 | (v1,v2,v7,v10,v11,v12,u00,()) =>
  bif ltI v12 v11 then
   bif aF v12 v10.length then aC (iN () (((v10.getD v12.toNat (0,0,0)).1,(v10.getD v12.toNat (0,0,0)).2.1,(v10.getD v12.toNat (0,0,0)).2.2),()) u00) λy2 =>
   bif !(ltI y2.1.1 v1) then
    bif !(ltI v1 0) then bif Nat.ble v1.toNat ((v10.getD v12.toNat (0,0,0)).2.2) then bif Nat.ble ((v10.getD v12.toNat (0,0,0)).2.2) ((v10.getD v12.toNat (0,0,0)).2.2) then bif Nat.ble [((v10.getD v12.toNat (0,0,0)).1,((v10.getD v12.toNat (0,0,0)).2.1+v1.toNat),((v10.getD v12.toNat (0,0,0)).2.2-v1.toNat))].length 1048576 then bif Nat.ble v7.length 1048576 then some (.inl (v1,v2,(v7++[((v10.getD v12.toNat (0,0,0)).1,((v10.getD v12.toNat (0,0,0)).2.1+v1.toNat),((v10.getD v12.toNat (0,0,0)).2.2-v1.toNat))]),v10,v11,(aB .i64 (v12+1)),y2.2,())) else none else none else none else none else none
   else some (.inl (v1,v2,v7,v10,v11,(aB .i64 (v12+1)),y2.2,())) else none
  else some (.inr ((v2,v7,u00,())))
def iM(x:Shape.den gF):oX kH:=bF eY (2^64) x
def dP(u0:Unit)(x:aK [.list (.hnd 1),.int .i64,.int .i64])(A:List (List ByteArray)):Option ((List (Nat×Nat×Nat))×List (List ByteArray)):=match x with
 | (v0,v1,v2,()) =>
  aC (iM (v1,v2,[],v0,(v0.length:Int),0,A,())) λz3 =>
  aC (cO z3.2.1 (z3.1,()) z3.2.2.1) λy4 =>
  some y4
def rF:Code:=dM f122
abbrev xJ:Env:=KE [] [LH,kP]
theorem CL:fR tP xJ:=l8 trivial ⟨TK,lF,trivial⟩
def uI:Code:=iD rF 0
def vN(id:Nat):Option cA:=bif Nat.beq id 3 then some ⟨gF,kH,iM⟩ else none
theorem JQ:∀ x,jU tP xJ 30 (aO f122) vN uI gF kH x=eY x:=by
 rintro⟨v1,v2,v7,v10,v11,v12,u00,⟨⟩⟩
 kernel_rfl
theorem KS:eS tP 30 uI ⟨gF,kH,iM⟩:=fF CL.callee bD.mixed _ (aQ (l:=[]) (by kernel_rfl) trivial) JQ
theorem L9:a8 rF=[uI]:=by kernel_rfl
theorem OB:∀ l x A,EV tP xJ f122 (aO f122) vN rF 110 .str .none [.list (.hnd 1),.int .i64,.int .i64] (.own 148 (.hnd 1)) l x A=dP l x A:=by
 rintro u0 ⟨v0,v1,v2,⟨⟩⟩ A
 kernel_rfl
theorem QT:LA tP 122 110 .str .none [.list (.hnd 1),.int .i64,.int .i64] (.own 148 (.hnd 1)) dP:=zG bD CL func122 (c:=rF) (by kernel_rfl) (bG:=aO f122) (lt:=vN) (by rfl) (aQ L9 ⟨fD (i:=3) (by kernel_rfl) rfl KS,trivial⟩) OB
abbrev xP:Shr:=(122,QL 0 (arH 110 .str .none [.list (.hnd 1),.int .i64,.int .i64] (.own 148 (.hnd 1)) dP))
theorem CO:uT tP xP:=rK (g:=122) (f:=arH 110 .str .none [.list (.hnd 1),.int .i64,.int .i64] (.own 148 (.hnd 1)) dP) (DA QT)
abbrev gC:List (Nat×Kd):=[(0,.list (.hnd 1)),(1,.int .i64),(5,.own 148 (.hnd 1)),(6,.int .i64),(7,.own 110 .str),(11,.int .i64),(12,.int .i64),(15,.list (.hnd 1)),(16,.int .i64),(17,.int .i64),(100000,.ar 110 .str)]
abbrev kE:List (Ex×List (Nat×Kd)):=[(.exit 2,[(0,.list (.hnd 1)),(1,.int .i64),(5,.own 148 (.hnd 1)),(6,.int .i64),(7,.own 110 .str),(11,.int .i64),(12,.int .i64),(100000,.ar 110 .str)])]
def iJ(x:Shape.den gC):oS gC kE:=match x with
 | (v0,v1,v5,v6,v7,v11,v12,v15,v16,v17,u00,()) =>
  bif ltI v17 v16 then
   bif aF v17 v15.length then bif aF v6 ((v15.getD v17.toNat (0,0,0)).2.2) then bif Nat.blt (((v15.getD v17.toNat (0,0,0)).2.1+v6.toNat)*1) (cS u00 ((v15.getD v17.toNat (0,0,0)).1)) then bif Nat.ble [(dK u00 ((v15.getD v17.toNat (0,0,0)).1) (((v15.getD v17.toNat (0,0,0)).2.1+v6.toNat)*1) ByteArray.empty)].length 1048576 then bif Nat.ble v7.length 1048576 then some (.inl (v0,v1,v5,v6,(v7++[(dK u00 ((v15.getD v17.toNat (0,0,0)).1) (((v15.getD v17.toNat (0,0,0)).2.1+v6.toNat)*1) ByteArray.empty)]),v11,v12,v15,v16,(aB .i64 (v17+1)),u00,())) else none else none else none else none else none
  else some (.inr ((v0,v1,v5,v6,v7,v11,v12,u00,())))
def l5(x:Shape.den gC):oX kE:=bF iJ (2^64) x
abbrev fZ:List (Nat×Kd):=[(0,.list (.hnd 1)),(1,.int .i64),(5,.own 148 (.hnd 1)),(11,.int .i64),(12,.int .i64),(100000,.ar 110 .str)]
abbrev jZ:List (Ex×List (Nat×Kd)):=[(.exit 0,[(0,.list (.hnd 1)),(1,.int .i64),(5,.own 148 (.hnd 1)),(100000,.ar 110 .str)])]
def iH(x:Shape.den fZ):oS fZ jZ:=match x with
 | (v0,v1,v5,v11,v12,u00,()) =>
  bif ltI v12 v11 then
   aC (l5 (v0,v1,v5,v12,[],v11,v12,v0,(v0.length:Int),0,u00,())) λz3 =>
   aC (l6 () (z3.2.1,()) z3.2.2.2.2.2.2.2.1) λy4 =>
   bif aF z3.2.2.2.1 y4.1.length then bif Nat.blt z3.2.2.2.1.toNat y4.1.length then bif Nat.ble (y4.1.set z3.2.2.2.1.toNat (ByteArray.mk #[49])).length 1048576 then bif Nat.ble z3.2.2.2.2.1.length 1048576 then bif Nat.ble [(y4.2.length,0,(z3.2.2.2.2.1++(y4.1.set z3.2.2.2.1.toNat (ByteArray.mk #[49]))).length)].length 1048576 then bif Nat.ble z3.2.2.1.length 1048576 then some (.inl (z3.1,z3.2.1,(z3.2.2.1++[(y4.2.length,0,(z3.2.2.2.2.1++(y4.1.set z3.2.2.2.1.toNat (ByteArray.mk #[49]))).length)]),z3.2.2.2.2.2.1,(aB .i64 (z3.2.2.2.2.2.2.1+1)),(y4.2++[(z3.2.2.2.2.1++(y4.1.set z3.2.2.2.1.toNat (ByteArray.mk #[49])))]),())) else none else none else none else none else none else none
  else some (.inr ((v0,v1,v5,u00,())))
def iL(x:Shape.den fZ):oX jZ:=bF iH (2^64) x
def cF(u0:Unit)(x:aK [.list (.hnd 1),.int .i64])(A:List (List ByteArray)):Option ((List (Nat×Nat×Nat))×List (List ByteArray)):=match x with
 | (v0,v1,()) =>
  aC (iL (v0,v1,[],v1,0,A,())) λz5 =>
  aC (cO z5.2.2.1 ((aB .i64 ((z5.1.length:Int)+z5.2.1)),()) z5.2.2.2.1) λy6 =>
  aC (dP () (y6.1,(z5.1.length:Int),z5.2.1,()) y6.2) λy7 =>
  some y7
def rN:Code:=dM f130
abbrev rA:Env:=KE [] [xP,kP,HQ]
theorem tA:fR tP rA:=l8 trivial ⟨CO,lF,LW,trivial⟩
def kU:Code:=iD rN 0
def uQ:Code:=iD kU 0
def p8(id:Nat):Option cA:=bif Nat.beq id 7 then some ⟨gC,kE,l5⟩ else bif Nat.beq id 3 then some ⟨fZ,jZ,iL⟩ else none
theorem J7:∀ x,jU tP rA 51 (aO f130) p8 uQ gC kE x=iJ x:=by
 rintro⟨v0,v1,v5,v6,v7,v11,v12,v15,v16,v17,u00,⟨⟩⟩
 kernel_rfl
theorem LU:eS tP 51 uQ ⟨gC,kE,l5⟩:=fF tA.callee bD.mixed _ (aQ (l:=[]) (by kernel_rfl) trivial) J7
theorem KA:∀ x,jU tP rA 51 (aO f130) p8 kU fZ jZ x=iH x:=by
 rintro⟨v0,v1,v5,v11,v12,u00,⟨⟩⟩
 kernel_rfl
theorem OI:a8 kU=[uQ]:=by kernel_rfl
theorem KO:eS tP 51 kU ⟨fZ,jZ,iL⟩:=fF tA.callee bD.mixed _ (aQ OI ⟨fD (i:=7) (by kernel_rfl) rfl LU,trivial⟩) KA
theorem MH:a8 rN=[kU]:=by kernel_rfl
theorem OC:∀ l x A,EV tP rA f130 (aO f130) p8 rN 110 .str .none [.list (.hnd 1),.int .i64] (.own 148 (.hnd 1)) l x A=cF l x A:=by
 rintro u0 ⟨v0,v1,⟨⟩⟩ A
 kernel_rfl
theorem QY:LA tP 130 110 .str .none [.list (.hnd 1),.int .i64] (.own 148 (.hnd 1)) cF:=zG bD tA func130 (c:=rN) (by kernel_rfl) (bG:=aO f130) (lt:=p8) (by rfl) (aQ MH ⟨fD (i:=3) (by kernel_rfl) rfl KO,trivial⟩) OC
abbrev xS:Shr:=(130,QL 0 (arH 110 .str .none [.list (.hnd 1),.int .i64] (.own 148 (.hnd 1)) cF))
theorem CH:uT tP xS:=rK (g:=130) (f:=arH 110 .str .none [.list (.hnd 1),.int .i64] (.own 148 (.hnd 1)) cF) (DA QY)
def pN(x:aK [.agg TyH]):oK [.agg TyH,.int .i64]:=match x with
 | (v0,()) =>
  aC (mK (v0,())) λy1 =>
  bif !(eqI y1.1 0) then
   some ((0,[]),y1.1,())
  else aC (cL () (v0.2,()) []) λy2 =>
  aC (cF () (y2.1,v0.1,()) y2.2) λy3 =>
  aC (cF () (y3.1,v0.1,()) y3.2) λy4 =>
  aC (cN y4.1 (v0.1,()) y4.2) λy5 =>
  some (y5.1.1,y5.1.2.1,())
def H9:Code:=dM f74
abbrev RI:Env:=KE [PU] [sU,xS,kO]
theorem X9:fR tP RI:=l8 ⟨CJ,trivial⟩ ⟨tD,CH,kY,trivial⟩
def PJ(id:Nat):Option cA:=none
theorem W7:a8 H9=[]:=by kernel_rfl
theorem YX:∀ x,aAL tP RI f74 (aO f74) PJ H9 110 .str _ _ x=pN x:=by
 rintro⟨v0,⟨⟩⟩
 kernel_rfl
abbrev aEH:Ent:=⟨74,_,_,pN⟩
theorem C8:Ent.OK tP aEH:=aGC bD X9 func74 (c:=H9) (by kernel_rfl) (bG:=aO f74) (lt:=PJ) (aQ W7 trivial) YX
def kS(x:aK [.agg TyH]):oK [.agg TyH,.int .i64]:=match x with
 | (v0,()) =>
  aC (mK (v0,())) λy1 =>
  bif !(eqI y1.1 0) then
   some ((0,[]),y1.1,())
  else aC (cL () (v0.2,()) []) λy2 =>
  aC (cF () (y2.1,v0.1,()) y2.2) λy3 =>
  aC (cN y3.1 (v0.1,()) y3.2) λy4 =>
  some (y4.1.1,y4.1.2.1,())
def DP:Code:=dM f76
abbrev LI:Env:=KE [PU] [sU,xS,kO]
theorem S8:fR tP LI:=l8 ⟨CJ,trivial⟩ ⟨tD,CH,kY,trivial⟩
def I7(id:Nat):Option cA:=none
theorem SF:a8 DP=[]:=by kernel_rfl
theorem UH:∀ x,aAL tP LI f76 (aO f76) I7 DP 110 .str _ _ x=kS x:=by
 rintro⟨v0,⟨⟩⟩
 kernel_rfl
abbrev YC:Ent:=⟨76,_,_,kS⟩
theorem zE:Ent.OK tP YC:=aGC bD S8 func76 (c:=DP) (by kernel_rfl) (bG:=aO f76) (lt:=I7) (aQ SF trivial) UH
end Go.PM
namespace Go.Lz
def d2(a b:V)(x y:Nat):Int:=a x*b y-a y*b x
def d3(a b c:V)(x y z:Nat):Int:=d2 a b x y*c z-d2 a b x z*c y+d2 a b y z*c x
def d4(a b c d:V)(x y z u:Nat):Int:=d3 a b c x y z*d u-d3 a b c x y u*d z+d3 a b c x z u*d y-d3 a b c y z u*d x
structure Lin (f:V->Int):Prop where
 zero:f (λ_=>0)=0
 add:∀ u t m,f (λi=>u i+t*m i)=f u+t*f m
theorem Lin.sp {f:V->Int}(h:Lin f){k:Nat}{M:Nat->V}(hz:∀ j,j<k->f (M j)=0){v:V}(hv:Sp k M v):f v=0:=by
 induction hv with
 | zero=>exact h.zero
 | add j t hj _ ih=>rw[h.add,ih,hz j hj]; simp
theorem Lin.pick {f:V->Int} (h:Lin f) {k:Nat} {M:Nat->V} {u:V} {t:Int} (ht:t≠0) (hs:Sp k M (λi=>t*u i)) (hu:f u≠0):∃ j,j<k/\f (M j)≠0:=by
 refine Classical.byContradiction λhn=>?_
 have hz:∀ j,j<k->f (M j)=0:=λj hj=>Classical.byContradiction λh0=>hn ⟨j,hj,h0⟩
 have h1:=h.sp hz hs;have h2:=h.add (λ_=>0) t u;have e:(λi=>(0:Int)+t*u i)=λi=>t*u i:=by funext i; simp
 rw[e,h1,h.zero,Int.zero_add]at h2;rcases Int.mul_eq_zero.1 h2.symm with h3|h3
 ·exact ht h3
 ·exact hu h3
theorem N5 {x y:Int}{A B:Nat}(hx:x.natAbs<=A)(hy:y.natAbs<=B):(x*y).natAbs<=A*B:=by rw[Int.natAbs_mul]; exact Nat.mul_le_mul hx hy
theorem d2B {a b:V}{E:Nat}(ha:∀ x,(a x).natAbs<=E)(hb:∀ x,(b x).natAbs<=E)(x y:Nat):(d2 a b x y).natAbs<=2*(E*E):=by
 have h1:=N5 (ha x) (hb y);have h2:=N5 (ha y) (hb x);unfold d2;omega
theorem d3B {a b c:V}{E:Nat}(ha:∀ x,(a x).natAbs<=E)(hb:∀ x,(b x).natAbs<=E)(hc:∀ x,(c x).natAbs<=E)(x y z:Nat):(d3 a b c x y z).natAbs<=6*(E*E*E):=by
 have h1:=N5 (d2B ha hb x y) (hc z);have h2:=N5 (d2B ha hb x z) (hc y);have h3:=N5 (d2B ha hb y z) (hc x);have e:2*(E*E)*E=2*(E*E*E):=by grind
 rw[e]at h1 h2 h3;unfold d3;omega
theorem d4B {a b c d:V}{E:Nat}(ha:∀ x,(a x).natAbs<=E)(hb:∀ x,(b x).natAbs<=E)(hc:∀ x,(c x).natAbs<=E)(hd:∀ x,(d x).natAbs<=E)(x y z u:Nat):(d4 a b c d x y z u).natAbs<=24*(E*E*E*E):=by
 have h1:=N5 (d3B ha hb hc x y z) (hd u);have h2:=N5 (d3B ha hb hc x y u) (hd z);have h3:=N5 (d3B ha hb hc x z u) (hd y);have h4:=N5 (d3B ha hb hc y z u) (hd x);have e:6*(E*E*E)*E=6*(E*E*E*E):=by grind
 rw[e]at h1 h2 h3 h4;unfold d4;omega
def Dg(k:Nat) (M:Nat->V) (r:Nat) (p:Nat->Nat) (W:Nat):Prop :=
 ∃ (D:Int) (w:Nat->V),D≠0/\∀ j,j<r->Sp k M (w j)/\w j (p j)=D/\(∀ i,i<r->i≠j->w j (p i)=0)/\∀ x,(w j x).natAbs<=W
theorem Dg.mono {k k':Nat}{M M':Nat->V}{r:Nat}{p:Nat->Nat}{W:Nat}(h:Dg k M r p W)(hs:∀ v,Sp k M v->Sp k' M' v):Dg k' M' r p W:=by
 obtain⟨D,w,h0,h1⟩:=h;exact⟨D,w,h0,λj hj=>⟨hs _ (h1 j hj).1,(h1 j hj).2⟩⟩
section
variable {k:Nat} {M:Nat->V}
theorem Sp.a4T {a b:Nat}(ha:a<k)(hb:b<k)(s t:Int):Sp k M (λi=>s*M a i+t*M b i):=Sp.comb t (Sp.smul s (Sp.mem ha)) (Sp.mem hb)
theorem Sp.a38 {a b c:Nat}(ha:a<k)(hb:b<k)(hc:c<k)(s t u:Int):Sp k M (λi=>s*M a i+t*M b i+u*M c i):=Sp.comb u (Sp.a4T ha hb s t) (Sp.mem hc)
theorem Sp.a3J {a b c d:Nat}(ha:a<k)(hb:b<k)(hc:c<k)(hd:d<k)(s t u v:Int):Sp k M (λi=>s*M a i+t*M b i+u*M c i+v*M d i):=Sp.comb v (Sp.a38 ha hb hc s t u) (Sp.mem hd)
theorem aAV {u:V} {p0:Nat} {t:Int} (ht:t≠0) (hs:Sp k M (λi=>t*u i)) (h0:u p0≠0):∃ a,a<k/\M a p0≠0 :=
 Lin.pick (f:=λv=>v p0) ⟨rfl,λ_ _ _=>rfl⟩ ht hs h0
theorem aGP {u:V}{a p0 p1:Nat}{t:Int}(ht:t≠0)(hs:Sp k M (λi=>t*u i))(h0:u p0=0)(h1:u p1≠0)(ha:M a p0≠0):∃ b,b<k/\d2 (M a) (M b) p0 p1≠0:=by
 refine Lin.pick (f:=λv=>d2 (M a) v p0 p1) ⟨by simp[d2],λu t m=>by simp only[d2]; grind⟩ ht hs ?_;simp only[d2,h0,Int.mul_zero,Int.sub_zero];exact λh=>(Int.mul_eq_zero.1 h).elim ha h1
theorem aQN {u:V}{a b p0 p1 p2:Nat}{t:Int}(ht:t≠0)(hs:Sp k M (λi=>t*u i))(h0:u p0=0)(h1:u p1=0)(h2:u p2≠0)(ha:d2 (M a) (M b) p0 p1≠0):∃ c,c<k/\d3 (M a) (M b) (M c) p0 p1 p2≠0:=by
 refine Lin.pick (f:=λv=>d3 (M a) (M b) v p0 p1 p2) ⟨by simp[d3],λu t m=>by simp only[d3]; grind⟩ ht hs ?_;simp only[d3,h0,h1,Int.mul_zero,Int.sub_zero,Int.add_zero];exact λh=>(Int.mul_eq_zero.1 h).elim ha h2
theorem a1B {u:V}{a b c p0 p1 p2 p3:Nat}{t:Int}(ht:t≠0)(hs:Sp k M (λi=>t*u i))(h0:u p0=0)(h1:u p1=0)(h2:u p2=0)(h3:u p3≠0)(ha:d3 (M a) (M b) (M c) p0 p1 p2≠0):∃ d,d<k/\d4 (M a) (M b) (M c) (M d) p0 p1 p2 p3≠0:=by
 refine Lin.pick (f:=λv=>d4 (M a) (M b) (M c) v p0 p1 p2 p3) ⟨by simp[d4],λu t m=>by simp only[d4]; grind⟩ ht hs ?_;simp only[d4,h0,h1,h2,Int.mul_zero,Int.sub_zero,Int.add_zero];exact λh=>(Int.mul_eq_zero.1 h).elim ha h3
theorem a6R {p:Nat->Nat}{W a:Nat}(hB:∀ x,(M a x).natAbs<=W)(ha:a<k)(h:M a (p 0)≠0):Dg k M 1 p W :=
 ⟨_,λ_=>M a,h,λj hj=>by
  obtain rfl:j=0:=by omega
  exact⟨Sp.mem ha,rfl,λi hi hne=>by omega,hB⟩⟩
theorem a7H {p:Nat->Nat}{W a b:Nat}(hB:∀ x y,(d2 (M a) (M b) x y).natAbs<=W)(ha:a<k)(hb:b<k)(h:d2 (M a) (M b) (p 0) (p 1)≠0):Dg k M 2 p W:=by
 refine⟨_,λj=>if j=0 then (λx=>d2 (M a) (M b) x (p 1)) else λx=>d2 (M a) (M b) (p 0) x,h,λj hj=>?_⟩;rcases(show j=0\/j=1 by omega)with rfl|rfl
 ·refine⟨?_,rfl,λi hi hne=>?_,λx=>hB _ _⟩
  ·refine cast (congrArg (Sp k M) ?_) (Sp.a4T ha hb (M b (p 1)) (-(M a (p 1))))
   funext x
   simp only[if_true,d2]; grind
  ·obtain rfl:i=1:=by omega
   simp only[if_true,d2]; grind
 ·refine⟨?_,rfl,λi hi hne=>?_,λx=>hB _ _⟩
  ·refine cast (congrArg (Sp k M) ?_) (Sp.a4T ha hb (-(M b (p 0))) (M a (p 0)))
   funext x
   simp only[d2,Nat.one_ne_zero,if_false]; grind
  ·obtain rfl:i=0:=by omega
   simp only[d2,Nat.one_ne_zero,if_false]; grind
theorem a63 {p:Nat->Nat}{W a b c:Nat}(hB:∀ x y z,(d3 (M a) (M b) (M c) x y z).natAbs<=W)(ha:a<k)(hb:b<k)(hc:c<k)(h:d3 (M a) (M b) (M c) (p 0) (p 1) (p 2)≠0):Dg k M 3 p W:=by
 refine⟨_,λj=>if j=0 then (λx=>d3 (M a) (M b) (M c) x (p 1) (p 2)) else if j=1 then (λx=>d3 (M a) (M b) (M c) (p 0) x (p 2)) else λx=>d3 (M a) (M b) (M c) (p 0) (p 1) x,h,λj hj=>?_⟩;rcases(show j=0\/j=1\/j=2 by omega)with rfl|rfl|rfl
 ·refine⟨?_,rfl,λi hi hne=>?_,λx=>hB _ _ _⟩
  ·refine cast (congrArg (Sp k M) ?_) (Sp.a38 ha hb hc (d2 (M b) (M c) (p 1) (p 2)) (-(d2 (M a) (M c) (p 1) (p 2))) (d2 (M a) (M b) (p 1) (p 2)))
   funext x
   show _=d3 (M a) (M b) (M c) x (p 1) (p 2);simp only[d3,d2]; grind
  ·show (λx=>d3 (M a) (M b) (M c) x (p 1) (p 2)) (p i)=0;rcases(show i=1\/i=2 by omega)with rfl|rfl
   ·simp only[d3,d2]; grind
   ·simp only[d3,d2]; grind
 ·refine⟨?_,rfl,λi hi hne=>?_,λx=>hB _ _ _⟩
  ·refine cast (congrArg (Sp k M) ?_) (Sp.a38 ha hb hc (-(d2 (M b) (M c) (p 0) (p 2))) (d2 (M a) (M c) (p 0) (p 2)) (-(d2 (M a) (M b) (p 0) (p 2))))
   funext x
   show _=d3 (M a) (M b) (M c) (p 0) x (p 2);simp only[d3,d2]; grind
  ·show (λx=>d3 (M a) (M b) (M c) (p 0) x (p 2)) (p i)=0;rcases(show i=0\/i=2 by omega)with rfl|rfl
   ·simp only[d3,d2]; grind
   ·simp only[d3,d2]; grind
 ·refine⟨?_,rfl,λi hi hne=>?_,λx=>hB _ _ _⟩
  ·refine cast (congrArg (Sp k M) ?_) (Sp.a38 ha hb hc (d2 (M b) (M c) (p 0) (p 1)) (-(d2 (M a) (M c) (p 0) (p 1))) (d2 (M a) (M b) (p 0) (p 1)))
   funext x
   show _=d3 (M a) (M b) (M c) (p 0) (p 1) x;simp only[d3,d2]; grind
  ·show (λx=>d3 (M a) (M b) (M c) (p 0) (p 1) x) (p i)=0;rcases(show i=0\/i=1 by omega)with rfl|rfl
   ·simp only[d3,d2]; grind
   ·simp only[d3,d2]; grind
theorem a6O {p:Nat->Nat}{W a b c d:Nat}(hB:∀ x y z u,(d4 (M a) (M b) (M c) (M d) x y z u).natAbs<=W)(ha:a<k)(hb:b<k)(hc:c<k)(hd:d<k)(h:d4 (M a) (M b) (M c) (M d) (p 0) (p 1) (p 2) (p 3)≠0):Dg k M 4 p W:=by
 refine⟨_,λj=>if j=0 then (λx=>d4 (M a) (M b) (M c) (M d) x (p 1) (p 2) (p 3)) else if j=1 then (λx=>d4 (M a) (M b) (M c) (M d) (p 0) x (p 2) (p 3)) else if j=2 then (λx=>d4 (M a) (M b) (M c) (M d) (p 0) (p 1) x (p 3)) else λx=>d4 (M a) (M b) (M c) (M d) (p 0) (p 1) (p 2) x,h,λj hj=>?_⟩;rcases(show j=0\/j=1\/j=2\/j=3 by omega)with rfl|rfl|rfl|rfl
 ·refine⟨?_,rfl,λi hi hne=>?_,λx=>hB _ _ _ _⟩
  ·refine cast (congrArg (Sp k M) ?_) (Sp.a3J ha hb hc hd (d3 (M b) (M c) (M d) (p 1) (p 2) (p 3)) (-(d3 (M a) (M c) (M d) (p 1) (p 2) (p 3))) (d3 (M a) (M b) (M d) (p 1) (p 2) (p 3)) (-(d3 (M a) (M b) (M c) (p 1) (p 2) (p 3))))
   funext x
   show _=d4 (M a) (M b) (M c) (M d) x (p 1) (p 2) (p 3);simp only[d4,d3,d2]; grind
  ·show (λx=>d4 (M a) (M b) (M c) (M d) x (p 1) (p 2) (p 3)) (p i)=0;rcases(show i=1\/i=2\/i=3 by omega)with rfl|rfl|rfl
   ·simp only[d4,d3,d2]; grind
   ·simp only[d4,d3,d2]; grind
   ·simp only[d4,d3,d2]; grind
 ·refine⟨?_,rfl,λi hi hne=>?_,λx=>hB _ _ _ _⟩
  ·refine cast (congrArg (Sp k M) ?_) (Sp.a3J ha hb hc hd (-(d3 (M b) (M c) (M d) (p 0) (p 2) (p 3))) (d3 (M a) (M c) (M d) (p 0) (p 2) (p 3)) (-(d3 (M a) (M b) (M d) (p 0) (p 2) (p 3))) (d3 (M a) (M b) (M c) (p 0) (p 2) (p 3)))
   funext x
   show _=d4 (M a) (M b) (M c) (M d) (p 0) x (p 2) (p 3);simp only[d4,d3,d2]; grind
  ·show (λx=>d4 (M a) (M b) (M c) (M d) (p 0) x (p 2) (p 3)) (p i)=0;rcases(show i=0\/i=2\/i=3 by omega)with rfl|rfl|rfl
   ·simp only[d4,d3,d2]; grind
   ·simp only[d4,d3,d2]; grind
   ·simp only[d4,d3,d2]; grind
 ·refine⟨?_,rfl,λi hi hne=>?_,λx=>hB _ _ _ _⟩
  ·refine cast (congrArg (Sp k M) ?_) (Sp.a3J ha hb hc hd (d3 (M b) (M c) (M d) (p 0) (p 1) (p 3)) (-(d3 (M a) (M c) (M d) (p 0) (p 1) (p 3))) (d3 (M a) (M b) (M d) (p 0) (p 1) (p 3)) (-(d3 (M a) (M b) (M c) (p 0) (p 1) (p 3))))
   funext x
   show _=d4 (M a) (M b) (M c) (M d) (p 0) (p 1) x (p 3);simp only[d4,d3,d2]; grind
  ·show (λx=>d4 (M a) (M b) (M c) (M d) (p 0) (p 1) x (p 3)) (p i)=0;rcases(show i=0\/i=1\/i=3 by omega)with rfl|rfl|rfl
   ·simp only[d4,d3,d2]; grind
   ·simp only[d4,d3,d2]; grind
   ·simp only[d4,d3,d2]; grind
 ·refine⟨?_,rfl,λi hi hne=>?_,λx=>hB _ _ _ _⟩
  ·refine cast (congrArg (Sp k M) ?_) (Sp.a3J ha hb hc hd (-(d3 (M b) (M c) (M d) (p 0) (p 1) (p 2))) (d3 (M a) (M c) (M d) (p 0) (p 1) (p 2)) (-(d3 (M a) (M b) (M d) (p 0) (p 1) (p 2))) (d3 (M a) (M b) (M c) (p 0) (p 1) (p 2)))
   funext x
   show _=d4 (M a) (M b) (M c) (M d) (p 0) (p 1) (p 2) x;simp only[d4,d3,d2]; grind
  ·show (λx=>d4 (M a) (M b) (M c) (M d) (p 0) (p 1) (p 2) x) (p i)=0;rcases(show i=0\/i=1\/i=2 by omega)with rfl|rfl|rfl
   ·simp only[d4,d3,d2]; grind
   ·simp only[d4,d3,d2]; grind
   ·simp only[d4,d3,d2]; grind
def fac(E:Nat):Nat->Nat
 | 0=>1
 | 1=>E
 | 2=>2*(E*E)
 | 3=>6*(E*E*E)
 | _=>24*(E*E*E*E)
theorem aO0 {r E:Nat}{H:Nat->V}{p:Nat->Nat}(hr:r<=4)(hH:Hn r H p)(hs:∀ j,j<r->∃ t:Int,t≠0/\Sp k M (λi=>t*H j i))(hE:∀ j,j<k->∀ x,(M j x).natAbs<=E):Dg k M r p (fac E r):=by
 have pv:∀ j,j<r->H j (p j)≠0:=λj hj=>by have:=hH.pos j hj; omega
 have lo:∀ i j,i<j->j<r->H j (p i)=0:=λi j hij hj=>hH.low j hj _ (hH.inc i j hij hj)
 rcases(show r=0\/r=1\/r=2\/r=3\/r=4 by omega)with rfl|rfl|rfl|rfl|rfl
 ·exact⟨1,λ_ _=>0,by decide,λj hj=>by omega⟩
 ·obtain⟨t,ht,h0⟩:=hs 0 (by omega);obtain⟨a,ha,q0⟩:=aAV ht h0 (pv 0 (by omega));exact a6R (hE a ha) ha q0
 ·obtain⟨t,ht,h0⟩:=hs 0 (by omega);obtain⟨a,ha,q0⟩:=aAV ht h0 (pv 0 (by omega));obtain⟨t,ht,h0⟩:=hs 1 (by omega);obtain⟨b,hb,q1⟩:=aGP ht h0 (lo 0 1 (by omega) (by omega)) (pv 1 (by omega)) q0;exact a7H (d2B (hE a ha) (hE b hb)) ha hb q1
 ·obtain⟨t,ht,h0⟩:=hs 0 (by omega);obtain⟨a,ha,q0⟩:=aAV ht h0 (pv 0 (by omega));obtain⟨t,ht,h0⟩:=hs 1 (by omega);obtain⟨b,hb,q1⟩:=aGP ht h0 (lo 0 1 (by omega) (by omega)) (pv 1 (by omega)) q0;obtain⟨t,ht,h0⟩:=hs 2 (by omega);obtain⟨c,hc,q2⟩:=aQN ht h0 (lo 0 2 (by omega) (by omega)) (lo 1 2 (by omega) (by omega)) (pv 2 (by omega)) q1;exact a63 (d3B (hE a ha) (hE b hb) (hE c hc)) ha hb hc q2
 ·obtain⟨t,ht,h0⟩:=hs 0 (by omega);obtain⟨a,ha,q0⟩:=aAV ht h0 (pv 0 (by omega));obtain⟨t,ht,h0⟩:=hs 1 (by omega);obtain⟨b,hb,q1⟩:=aGP ht h0 (lo 0 1 (by omega) (by omega)) (pv 1 (by omega)) q0;obtain⟨t,ht,h0⟩:=hs 2 (by omega);obtain⟨c,hc,q2⟩:=aQN ht h0 (lo 0 2 (by omega) (by omega)) (lo 1 2 (by omega) (by omega)) (pv 2 (by omega)) q1;obtain⟨t,ht,h0⟩:=hs 3 (by omega);obtain⟨d,hd,q3⟩:=a1B ht h0 (lo 0 3 (by omega) (by omega)) (lo 1 3 (by omega) (by omega)) (lo 2 3 (by omega) (by omega)) (pv 3 (by omega)) q2
  exact a6O (d4B (hE a ha) (hE b hb) (hE c hc) (hE d hd)) ha hb hc hd q3
end
theorem Hn.zero {k:Nat} {M:Nat->V} {c:Nat->Nat} (h:Hn k M c) {v:V} (hv:Sp k M v) (hz:∀ i,i<k->v (c i)=0):v=λ_=>0 :=
 h.small hv λi hi=>by have:=h.pos i hi; rw[hz i hi]; constructor <;> omega
theorem Hn.aTI:∀ {k:Nat} {M:Nat->V} {c:Nat->Nat},Hn k M c->∀ {v:V},Sp k M v->∀ j,j<k->(∀ i,i<j->v (c i)=0)->M j (c j) ∣ v (c j)
 | 0,_,_,_,_,_,j,hj,_=>by omega
 | k+1,M,c,h,v,hv,j,hj,hz=>by
  obtain⟨t,u,hu,rfl⟩:=hv.first;have h0:=h.aG8 hu (Nat.le_refl _);cases j with
  | zero=>exact⟨t,by simp only[h0,Int.zero_add]; exact Int.mul_comm _ _⟩
  | succ j =>
   have h1:=hz 0 (by omega);have hp:=h.pos 0 (by omega);simp only[h0,Int.zero_add]at h1;have ht:t=0:=by
    rcases Int.mul_eq_zero.1 h1 with h2|h2
    ·exact h2
    ·omega
   subst ht;have:=Hn.aTI h.tail hu j (by omega) λi hi=>by have:=hz (i+1) (by omega); simpa using this
   simpa using this
def sm(f:Nat->Int):Nat->Int
 | 0=>0
 | n+1=>sm f n+f n
theorem KI {f:Nat->Int}:∀ {n:Nat},(∀ i,i<n->f i=0)->sm f n=0
 | 0,_=>rfl
 | n+1,h=>by rw[sm,KI λi hi=>h i (by omega),h n (by omega)]; rfl
theorem R0 {f:Nat->Int}{j:Nat}:∀ {n:Nat},j<n->(∀ i,i<n->i≠j->f i=0)->sm f n=f j
 | 0,h,_=>by omega
 | n+1,h,hz=>by
  rw[sm]
  by_cases hj:j=n
  ·subst hj;rw[KI λi hi=>hz i (by omega) (by omega),Int.zero_add]
  ·rw[R0 (by omega) λi hi=>hz i (by omega),hz n (by omega) (Ne.symm hj),Int.add_zero]
theorem aZ8 {f:Nat->Int}{B:Nat}:∀ {n:Nat},(∀ i,i<n->(f i).natAbs<=B)->(sm f n).natAbs<=n*B
 | 0,_=>by simp[sm]
 | n+1,h=>by
  have h1:=aZ8 (n:=n) λi hi=>h i (by omega)
  have h2:=h n (by omega);rw[Nat.succ_mul];show (sm f n+f n).natAbs<=_;omega
theorem Sp.sm {k:Nat}{M:Nat->V}{w:Nat->V}{s:Nat->Int}:∀ {n:Nat},(∀ j,j<n->Sp k M (w j))->Sp k M (λx=>Lz.sm (λj=>s j*w j x) n)
 | 0,_=>Sp.zero
 | n+1,h=>Sp.comb (s n) (Sp.sm λj hj=>h j (by omega)) (h n (by omega))
theorem Hn.aEI {r W:Nat} {H:Nat->V} {p:Nat->Nat} (h:Hn r H p) (hd:Dg r H r p W):∀ i,i<r->∀ x,(H i x).natAbs<=r*W:=by
 obtain⟨D,w,hD,hw⟩:=hd;intro i hi x;have hz:(λy=>D*H i y-Lz.sm (λj=>H i (p j)*w j y) r)=λ_=>0:=by
  refine h.zero (Sp.sub (Sp.smul D (Sp.mem hi)) (Sp.sm λj hj=>(hw j hj).1)) λl hl=>?_
  rw[R0 (f:=λj=>H i (p j)*w j (p l)) hl λj hj hne=>by rw[(hw j hj).2.2.1 l hl (Ne.symm hne),Int.mul_zero]];rw[(hw l hl).2.1];grind
 have h1:=congrFun hz x;have h2:D*H i x=Lz.sm (λj=>H i (p j)*w j x) r:=by
  have:D*H i x-Lz.sm (λj=>H i (p j)*w j x) r=0:=h1;omega
 have h3:(Lz.sm (λj=>H i (p j)*w j x) r).natAbs<=r*(D.natAbs*W):=by
  refine aZ8 λj hj=>N5 ?_ ((hw j hj).2.2.2 x)
  have e1:H j (p j) ∣ D:=by
   have:=h.aTI (hw j hj).1 j hj λl hl=>(hw j hj).2.2.1 l (by omega) (by omega)
   rwa[(hw j hj).2.1]at this
  have e2:=Int.natAbs_dvd_natAbs.2 e1;have e3:=Nat.le_of_dvd (by omega) e2;rcases Nat.lt_trichotomy i j with g|g|g
  ·have:=h.red i j g hj;omega
  ·subst g; exact e3
  ·rw[h.low i hi _ (h.inc j i g hi)]; simp
 rw[<- h2,Int.natAbs_mul]at h3;have e:r*(D.natAbs*W)=D.natAbs*(r*W):=by grind
 rw[e]at h3;exact Nat.le_of_mul_le_mul_left h3 (by omega)
end Go.Lz
namespace Go.PM
open Go Go.RowKit Go.Proofs Go.Lz
theorem aOY(a n:Nat)(v:V):Zr (a+n) v=Zr a v++Zr n (λy=>v (a+y)):=by
 unfold Zr;rw[List.range_add,List.map_append,List.map_map];rfl
theorem a5X:Zn 1=ByteArray.mk #[49]:=by kernel_rfl
def aAP(J:Nat->Nat) (i o n:Nat) (A:List (List ByteArray)) (t:Nat):=bC ((J i,o,n),(),(n:Int),(t:Int),A,())
section
variable {o k n:Nat} {m:List (Nat×Nat×Nat)} {A:List (List ByteArray)} {J:Nat->Nat} {M:Nat->V}
theorem lH.ext (h:lH o k n m A J M)(R:List (List ByteArray)):lH o k n m (A++R) J M :=
 ⟨h.ml,λi hi=>by
  obtain⟨pre,h1,h2⟩:=h.at_ i hi;refine⟨pre,h1,?_⟩;have:=(oO.1 h2).1;rw[List.getElem?_append_left this]; exact h2,h.inj⟩
theorem lH.take (h:lH o k n m A J M){d:Nat}(hd:d<=k):lH o d n (m.take d) A J M :=
 ⟨by rw[h.ml,<- List.map_take,List.take_range,Nat.min_eq_left hd],λi hi=>h.at_ i (by omega),λi j hi hj=>h.inj i j (by omega) (by omega)⟩
theorem a0R(h:lH o k n m A J M) (hn:n<1048576) {i:Nat} (hi:i<k) :
  ∃ L:Int,iN () ((J i,o,n),()) A=some ((L,()),A)/\((L = -1/\∀ x,x<n->M i x=0)\/∃ x,x<n/\L=(x:Int)/\M i x≠0/\∀ y,y<x->M i y=0):=by
 have hg:∀ t,t<n->PM.cS A (J i)=o+n/\PM.dK A (J i) ((o+t)*1) ByteArray.empty=Zn (M i t):=λt ht=>⟨h.cS hi,by rw[Nat.mul_one]; exact h.dK hi ht⟩
 have step1:∀ t,t<n->∀ b,decide (M i t=0)=b->aAP J i o n A t=(bif b then some (.inl ((J i,o,n),(),(n:Int),((t+1:Nat):Int),A,())) else some (.inr (.inl ((t:Int),A,())))):=λt ht b hb=>by
  have e1:ltI (t:Int) (n:Int)=true:=by rw[aE]; exact oT (by omega)
  have e2:aF (t:Int) n=true:=by rw[aM]; exact oT (by omega)
  have e3:((t:Nat):Int).toNat=t:=oN _;have e4:Nat.blt ((o+t)*1) (o+n)=true:=by rw[cD]; exact oT (by omega)
  have e5:=bX t (by omega);unfold aAP;simp only[bC,e1,e2,e3,(hg t ht).1,e4,(hg t ht).2,oC,wL,NW,aD,hb,e5];cases b <;> rfl
 by_cases hz:∀ x,x<n->M i x=0
 ·refine⟨-1,?_,.inl ⟨rfl,hz⟩⟩;have key:=aU (step:=bC) (N:=2^64) (λt=>((J i,o,n),(),(n:Int),(t:Int),A,())) n (.inr (A,())) (by omega) (λt ht=>step1 t ht true (oT (hz t ht))) (by
   have e1:ltI (n:Int) (n:Int)=false:=by rw[aE]; exact oF (by omega)
   simp only[bC,e1,oD])
  have key:cK ((J i,o,n),(),((n:Nat):Int),0,A,())=_:=key;simp only[iN,bO,key,aD,jN]
 ·obtain⟨x,hx1,hx2,hx3⟩:∃ x,x<n/\M i x≠0/\∀ y,y<x->M i y=0:=by
   obtain⟨x0,h1⟩:=Classical.not_forall.1 hz;obtain⟨h1,h2⟩:=Classical.not_imp.1 h1;have:∀ N x0,x0<N->x0<n->M i x0≠0->∃ x,x<n/\M i x≠0/\∀ y,y<x->M i y=0:=by
    intro N
    induction N with
    | zero=>intro x0 h; omega
    | succ N ih =>
     intro x0 h0 h1 h2
     by_cases hy:∀ y,y<x0->M i y=0
     ·exact⟨x0,h1,h2,hy⟩
     ·obtain⟨y,g1⟩:=Classical.not_forall.1 hy;obtain⟨g1,g2⟩:=Classical.not_imp.1 g1;exact ih y (by omega) (by omega) g2
   exact this (x0+1) x0 (by omega) h1 h2
  refine⟨(x:Int),?_,.inr ⟨x,hx1,rfl,hx2,hx3⟩⟩;have key:=aU (step:=bC) (N:=2^64) (λt=>((J i,o,n),(),(n:Int),(t:Int),A,())) x (.inl ((x:Int),A,())) (by omega) (λt ht=>step1 t (by omega) true (oT (hx3 t ht))) (step1 x hx1 false (oF hx2));have key:cK ((J i,o,n),(),((n:Nat):Int),0,A,())=_:=key;simp only[iN,bO,key,aD,EL]
theorem aQ8(hn:n<1048576) (A:List (List ByteArray)):l6 () ((n:Int),()) A=some (Zr n (λ_=>0),A):=by
 have e1:ltI (n:Int) 0=false:=by rw[aE]; exact oF (by omega)
 have e2:ltI (n:Int) (n:Int)=false:=by rw[aE]; exact oF (by omega)
 have e3:ltI 1048576 (n:Int)=false:=by rw[aE]; exact oF (by omega)
 have e4:((n:Nat):Int).toNat=n:=oN _;have e5:=aFM (List.replicate n 0) (by simp; omega) (λa ha=>by have:=List.eq_of_mem_replicate ha; omega);have e6:(List.replicate n (0:Int)).map Zn=Zr n (λ_=>0):=by
  unfold Zr;rw[List.map_replicate];refine List.ext_getElem (by simp) λi h1 h2=>by simp
 rw[e6]at e5;simp only[l6,e1,e2,e3,e4,e5,aD,Bool.not_false,oC]
theorem aZZ(M:Nat->V) {c:Nat} (hc:c<n):(List.range k).map (λi=>Zn (M i c))++(Zr n (λ_=>0)).set c (ByteArray.mk #[49])=Zr (k+n) (wide n k M c):=by
 rw[aOY]
 congr 1
 ·unfold Zr;refine List.map_congr_left λi hi=>?_
  have:=List.mem_range.1 hi;simp only[wide,this,if_true]
 ·refine List.ext_getElem (by simp[mC]) λi h1 h2=>?_
  rw[mC]at h2;rw[List.getElem_set];have e1:¬ k+i<k:=by omega
  by_cases hic:c=i
  ·subst hic;simp only[if_true,Zr,List.getElem_map,List.getElem_range,wide,e1,if_false];exact a5X.symm
  ·have e2:¬ k+i=k+c:=by omega
   simp only[hic,if_false,Zr,List.getElem_map,List.getElem_range,wide,e1,e2]
theorem aXV(hk:k<1048576) (hn:n<1048576) (hkn:k+n<1048576) (h:lH o k n m A J M) :
  iL (m,(n:Int),[],(n:Int),0,A,())=some (m,(n:Int),(List.range n).map (λc=>(A.length+c,0,k+n)),A++(List.range n).map (λc=>Zr (k+n) (wide n k M c)),()):=by
 have key:=aU (step:=iH) (N:=2^64)
  (λt=>(m,(n:Int),(List.range t).map (λc=>(A.length+c,0,k+n)),(n:Int),(t:Int),A++(List.range t).map (λc=>Zr (k+n) (wide n k M c)),())) n
  (m,(n:Int),(List.range n).map (λc=>(A.length+c,0,k+n)),A++(List.range n).map (λc=>Zr (k+n) (wide n k M c)),()) (by omega) (λt ht=>?_) ?_
 ·have e0:A++(List.range 0).map (λc=>Zr (k+n) (wide n k M c))=A:=by simp
  have key:iL (m,(n:Int),[],(n:Int),0,A++(List.range 0).map (λc=>Zr (k+n) (wide n k M c)),())=_:=key;rwa[e0]at key
 ·generalize hR:(List.range t).map (λc=>Zr (k+n) (wide n k M c))=R;have h':=h.ext R;generalize hB:A++R=B at h' ⊢;have hlen:B.length=A.length+t:=by rw[<- hB,<- hR]; simp
  have col:=aU (step:=iJ) (N:=2^64)
   (λs=>(m,(n:Int),(List.range t).map (λc=>(A.length+c,0,k+n)),(t:Int),(List.range s).map (λi=>Zn (M i t)),(n:Int),(t:Int),m,(m.length:Int),(s:Int),B,())) k
   (m,(n:Int),(List.range t).map (λc=>(A.length+c,0,k+n)),(t:Int),(List.range k).map (λi=>Zn (M i t)),(n:Int),(t:Int),B,()) (by omega) (λs hs=>?_) ?_
  ·have col:l5 (m,(n:Int),(List.range t).map (λc=>(A.length+c,0,k+n)),(t:Int),[],(n:Int),(t:Int),m,(m.length:Int),0,B,())=_:=col;have e1:ltI (t:Int) (n:Int)=true:=by rw[aE]; exact oT (by omega)
   have e2:aF (t:Int) n=true:=by rw[aM]; exact oT (by omega)
   have e3:((t:Nat):Int).toNat=t:=oN _;have e4:Nat.blt t n=true:=by rw[cD]; exact oT ht
   have e5:(Zr n (λ_=>0)).length=n:=mC _ _;have e6:Nat.ble n 1048576=true:=by rw[dN]; exact oT (by omega)
   have e7:Nat.ble ((List.range k).map (λi=>Zn (M i t))).length 1048576=true:=by rw[dN,List.length_map,List.length_range]; exact oT (by omega)
   have e8:=aZZ (n:=n) (k:=k) M ht;have e9:(Zr (k+n) (wide n k M t)).length=k+n:=mC _ _;have e10:Nat.ble [(A.length+t,0,k+n)].length 1048576=true:=rfl;have e11:Nat.ble ((List.range t).map (λc=>(A.length+c,0,k+n))).length 1048576=true:=by rw[dN,List.length_map,List.length_range]; exact oT (by omega)
   have e12:=bX t (by omega);have e13:(List.range t).map (λc=>(A.length+c,0,k+n))++[(A.length+t,0,k+n)]=(List.range (t+1)).map (λc=>(A.length+c,0,k+n)):=by rw[List.range_succ,List.map_append]; rfl
   have e14:B++[Zr (k+n) (wide n k M t)]=A++(List.range (t+1)).map (λc=>Zr (k+n) (wide n k M c)):=by rw[<- hB,<- hR,List.range_succ,List.map_append,List.append_assoc]; rfl
   have e15:((Zr n (λ_=>0)).set t (ByteArray.mk #[49])).length=n:=by rw[List.length_set,mC]
   simp only[iH,e1,oC,col,aD,aQ8 hn,e5,e2,e3,e4,e15,e6,e7,e8,e9,hlen,e10,e11,e12,e13,e14]
  ·have e1:ltI (s:Int) (k:Int)=true:=by rw[aE]; exact oT (by omega)
   have e2:aF (s:Int) k=true:=by rw[aM]; exact oT (by omega)
   have e3:((s:Nat):Int).toNat=s:=oN _;have e4:aF (t:Int) n=true:=by rw[aM]; exact oT (by omega)
   have e5:((t:Nat):Int).toNat=t:=oN _;have e6:Nat.blt ((o+t)*1) (o+n)=true:=by rw[cD]; exact oT (by omega)
   have e7:PM.dK B (J s) ((o+t)*1) ByteArray.empty=Zn (M s t):=by rw[Nat.mul_one]; exact h'.dK hs ht
   have e8:Nat.ble [Zn (M s t)].length 1048576=true:=rfl;have e9:Nat.ble ((List.range s).map (λi=>Zn (M i t))).length 1048576=true:=by rw[dN,List.length_map,List.length_range]; exact oT (by omega)
   have e10:=bX s (by omega);have e11:(List.range s).map (λi=>Zn (M i t))++[Zn (M s t)]=(List.range (s+1)).map (λi=>Zn (M i t)):=by rw[List.range_succ,List.map_append]; rfl
   simp only[iJ,h.len,e1,e2,e3,h'.get hs,e4,e5,h'.cS hs,e6,e7,e8,e9,e10,e11,oC]
  ·have e1:ltI (k:Int) (k:Int)=false:=by rw[aE]; exact oF (by omega)
   simp only[iJ,h.len,e1,oD]
 ·have e1:ltI (n:Int) (n:Int)=false:=by rw[aE]; exact oF (by omega)
  simp only[iH,e1,oD]
end
theorem Hn.split {d:Nat}{W:Nat->V}{p:Nat->Nat}(h:Hn d W p)(k:Nat):∃ j,j<=d/\(∀ i,i<j->p i<k)/\∀ i,j<=i->i<d->k<=p i:=by
 have:∀ t,t<=d->∃ j,j<=t/\(∀ i,i<j->p i<k)/\∀ i,j<=i->i<t->k<=p i:=by
  intro t
  induction t with
  | zero=>exact λ_=>⟨0,oM _,λi hi=>by omega,λi _ hi=>by omega⟩
  | succ t ih =>
   intro ht;obtain⟨j,h1,h2,h3⟩:=ih (by omega)
   by_cases hj:j=t
   ·by_cases hp:p t<k
    ·exact⟨t+1,by omega,λi hi=>by
      by_cases e:i=t
      ·subst e; exact hp
      ·exact h2 i (by omega),λi g1 g2=>by omega⟩
    ·exact⟨j,by omega,h2,λi g1 g2=>by
      have:i=t:=by omega
      subst this; omega⟩
   ·exact⟨j,by omega,h2,λi g1 g2=>by
     by_cases e:i=t
     ·subst e;have a1:=h3 j (oM _) (by omega);have a2:=h.inc j i (by omega) (by omega);omega
     ·exact h3 i g1 (by omega)⟩
 exact this d (oM _)
section
variable {o k n d:Nat} {m:List (Nat×Nat×Nat)} {A:List (List ByteArray)} {J:Nat->Nat} {M:Nat->V}
theorem lH.behind (h:lH o d (k+n) m A J M){j:Nat}(hj:j<=d):lH (o+k) (d-j) n ((List.range (d-j)).map λi=>(J (j+i),o+k,n)) A (λi=>J (j+i)) (λi y=>M (j+i) (k+y)) :=
 ⟨rfl,λi hi=>by
  obtain⟨pre,h1,h2⟩:=h.at_ (j+i) (by omega);refine⟨pre++Zr k (M (j+i)),by rw[oH,mC,h1],?_⟩;rw[h2,aOY,List.append_assoc],λa b ha hb e=>by
  have:=h.inj (j+a) (j+b) (by omega) (by omega) e;omega⟩
theorem aGD(hkn:k+n<1048576) (hd:d<1048576) (h:lH o d (k+n) m A J M) {p:Nat->Nat} (hH:Hn d M p) (hw:Wd d (k+n) M) {j:Nat} (hj:j<=d) (h1:∀ i,i<j->p i<k) (h2:∀ i,j<=i->i<d->k<=p i) :
  iM ((k:Int),(n:Int),[],m,(m.length:Int),0,A,())=some ((n:Int),(List.range (d-j)).map (λi=>(J (j+i),o+k,n)),A,()):=by
 have key:=aU (step:=eY) (N:=2^64)
  (λt=>((k:Int),(n:Int),(List.range (t-j)).map (λi=>(J (j+i),o+k,n)),m,(m.length:Int),(t:Int),A,())) d
  ((n:Int),(List.range (d-j)).map (λi=>(J (j+i),o+k,n)),A,()) (by omega) (λt ht=>?_) ?_
 ·have key:iM ((k:Int),(n:Int),(List.range (0-j)).map (λi=>(J (j+i),o+k,n)),m,(m.length:Int),0,A,())=_:=key;rwa[Nat.zero_sub]at key
 ·have e1:ltI (t:Int) (d:Int)=true:=by rw[aE]; exact oT (by omega)
  have e2:aF (t:Int) d=true:=by rw[aM]; exact oT (by omega)
  have e3:((t:Nat):Int).toNat=t:=oN _;obtain⟨L,q1,q2⟩:=a0R h (by omega) ht;have hp:=hH.pos t ht;have hpl:p t<k+n:=by
   refine Classical.byContradiction λhc=>?_
   have:=hw t ht (p t) (by omega);omega
  have hL:L=(p t:Int):=by
   rcases q2 with ⟨_,q3⟩|⟨x,g1,g2,g3,g4⟩
   ·have:=q3 (p t) hpl; omega
   ·rw[g2]
    congr 1
    rcases Nat.lt_trichotomy x (p t)with g|g|g
    ·exact absurd (hH.low t ht x g) g3
    ·exact g
    ·have:=g4 (p t) g; omega
  subst hL;have e4:=bX t (by omega)
  by_cases htj:t<j
  ·have e5:ltI (p t:Int) (k:Int)=true:=by rw[aE]; exact oT (by have:=h1 t htj; omega)
   have e6:t+1-j=0:=by omega
   have e7:t-j=0:=by omega
   simp only[eY,h.len,e1,e2,e3,h.get ht,q1,aD,e5,e4,e6,e7,oC,oD,Bool.not_true]
  ·have e5:ltI (p t:Int) (k:Int)=false:=by rw[aE]; exact oF (by have:=h2 t (by omega) ht; omega)
   have e6:ltI (k:Int) 0=false:=by rw[aE]; exact oF (by omega)
   have e7:((k:Nat):Int).toNat=k:=oN _;have e8:Nat.ble k (k+n)=true:=by rw[dN]; exact oT (by omega)
   have e9:Nat.ble (k+n) (k+n)=true:=by rw[dN]; exact oT (by omega)
   have e10:k+n-k=n:=by omega
   have e11:Nat.ble [(J t,o+k,n)].length 1048576=true:=rfl;have e12:Nat.ble ((List.range (t-j)).map (λi=>(J (j+i),o+k,n))).length 1048576=true:=by rw[dN,List.length_map,List.length_range]; exact oT (by omega)
   have e13:(List.range (t-j)).map (λi=>(J (j+i),o+k,n))++[(J t,o+k,n)]=(List.range (t+1-j)).map (λi=>(J (j+i),o+k,n)):=by
    rw[show t+1-j=(t-j)+1 by omega,List.range_succ,List.map_append];have:j+(t-j)=t:=by omega
    simp only[List.map_cons,List.map_nil,this]
   simp only[eY,h.len,e1,e2,e3,h.get ht,q1,aD,e5,e4,e6,e7,e8,e9,e10,e11,e12,e13,oC,oD,Bool.not_false]
 ·have e1:ltI (d:Int) (d:Int)=false:=by rw[aE]; exact oF (by omega)
  simp only[eY,h.len,e1,oD]
theorem Wd.wide (hw:Wd k n M):Wd n (k+n) (wide n k M):=λi hi x hx=>by
 have e1:¬ x<k:=by omega
 have e2:¬ x=k+i:=by omega
 simp only[Lz.wide,e1,e2,if_false]
theorem Big.wide {E:Nat}(hE:Big k n M E)(h1:1<=E):Big n (k+n) (wide n k M) E:=λi hi x hx=>by
 simp only[Lz.wide];split
 ·rename_i hk; exact hE x hk i hi
 ·split
  ·simpa using h1
  ·simp
theorem YR {W:Nat->V} {p:Nat->Nat} (hH:Hn d W p) (hs:Same n (wide n k M) d W) {j:Nat} (hj:j<=d) (h1:∀ i,i<j->p i<k) (h2:∀ i,j<=i->i<d->k<=p i) :
  Hn (d-j) (λi y=>W (j+i) (k+y)) (λi=>p (j+i)-k)/\jX n k M (d-j) (λi y=>W (j+i) (k+y)):=by
 refine⟨⟨λa b hab hb=>?_,λi hi x hx=>?_,λi hi=>?_,λa b hab hb=>?_⟩,aW1 hH hs hj h1 h2⟩
 ·have g1:=h2 (j+a) (by omega) (by omega);have g2:=hH.inc (j+a) (j+b) (by omega) (by omega);show p (j+a)-k<p (j+b)-k;omega
 ·exact hH.low (j+i) (by omega) (k+x) (by have:x<p (j+i)-k:=hx; omega)
 ·have g1:=h2 (j+i) (by omega) (by omega);show 0<W (j+i) (k+(p (j+i)-k));rw[show k+(p (j+i)-k)=p (j+i)by omega];exact hH.pos (j+i) (by omega)
 ·have g1:=h2 (j+b) (by omega) (by omega);show 0<=W (j+a) (k+(p (j+b)-k))/\W (j+a) (k+(p (j+b)-k))<W (j+b) (k+(p (j+b)-k));rw[show k+(p (j+b)-k)=p (j+b)by omega];exact hH.red (j+a) (j+b) (by omega) (by omega)
theorem aMJ {E T:Nat->Nat} (hk:k<1048576) (hn:n<1048576) (hkn:k+n<1048576) (h:lH o k n m A J M) (hw:Wd k n M) (hE:Big k n M (E 0)) (h1E:1<=E 0) (hb:Bds n (k+n) E T)
  (hK:∀ r K p,r<=n->Hn r K p->jX n k M r K->∃ E2 T2:Nat->Nat,Big r n K (E2 0)/\Bds r n E2 T2) :
  ∃ m' A' J' K p r,cF () (m,(n:Int),()) A=some (m',A')/\lH k r n m' A' J' K/\r<=n/\Hn r K p/\jX n k M r K/\Wd r n K:=by
 have hl:=aXV hk hn hkn h;have hL:lH 0 n (k+n) ((List.range n).map λc=>(A.length+c,0,k+n)) (A++(List.range n).map λc=>Zr (k+n) (wide n k M c)) (λc=>A.length+c) (wide n k M) :=
  ⟨rfl,λi hi=>⟨[],rfl,by
   rw[List.getElem?_append_right (by omega),show A.length+i-A.length=i by omega,List.getElem?_map,List.getElem?_range hi];rfl⟩,λi j _ _ e=>by omega⟩
 obtain⟨m1,A1,J1,W,d,p,g1,g2,g3,g4,g5,g6,g7⟩:=UP hn hkn hL hw.wide (hE.wide h1E) hb;obtain⟨j,b1,b2,b3⟩:=Hn.split g4 k;have hL2:=g3.take g2;have hwd:Wd d (k+n) W:=λi hi x hx=>g6 i (by omega) x hx
 have hbl:=aGD hkn (by omega) hL2 g4 hwd b1 b2 b3;obtain⟨c1,c2⟩:=YR g4 g5 b1 b2 b3;have hL3:=hL2.behind b1;have hwK:Wd (d-j) n (λi y=>W (j+i) (k+y)):=λi hi x hx=>hwd (j+i) (by omega) (k+x) (by omega)
 obtain⟨E2,T2,k1,k2⟩:=hK _ _ _ (by omega) c1 c2;obtain⟨m2,A2,J2,K,r,p2,f1,f2,f3,f4,f5,f6,f7⟩:=UP (show d-j<1048576 by omega) hn hL3 hwK k1 k2;rw[Nat.zero_add]at f3;refine⟨m2.take r,A2,J2,K,p2,r,?_,f3.take f2,by omega,f4,?_,λi hi x hx=>f6 i (by omega) x hx⟩
 ·have e1:aB .i64 ((k:Int)+(n:Int))=((k+n:Nat):Int):=by rw[wrap64 (by omega) (by omega)]; omega
  have hml:=h.len;simp only[cF,hl,aD,hml,e1,g1,dP,hbl,f1]
 ·intro y;rw[<- f5 y];exact c2 y
end
theorem vW(n:Nat)(v:V):(Vr n v).length=n:=by simp[Vr]
theorem aJY {n i:Nat}(v:V)(h:i<n):(Vr n v).getD i 0=v i:=by simp[Vr,List.getD,h]
theorem aBJ {n:Nat}{v:V}{B:Nat}(h:∀ x,x<n->(v x).natAbs<=B):∀ a∈Vr n v,a.natAbs<=B:=by
 intro a ha;obtain⟨x,hx,rfl⟩:=List.mem_map.1 ha;exact h x (List.mem_range.1 hx)
def Mr(d n:Nat) (M:Nat->V):List (List Int):=(List.range d).map λi=>Vr n (M i)
theorem cJ(d n:Nat)(M:Nat->V):(Mr d n M).length=d:=by simp[Mr]
theorem Y5 {d n i:Nat}(M:Nat->V)(h:i<d)(z:List Int):(Mr d n M).getD i z=Vr n (M i):=by simp[Mr,List.getD,h]
theorem aCM {d n:Nat}{M:Nat->V}{r:List Int}(h:r∈Mr d n M):∃ i,i<d/\r=Vr n (M i):=by
 obtain⟨i,hi,rfl⟩:=List.mem_map.1 h;exact⟨i,List.mem_range.1 hi,rfl⟩
theorem a0C(r:List Int)(hl:r.length<1048576)(hr:∀ a∈r,a.natAbs<=1000000000):jH (r,(),())=some (false,()):=by
 have key:=aU (step:=eN) (N:=2^64) (λt=>(r,(),(r.length:Int),(t:Int),())) r.length (.inr ()) (by omega) (λt ht=>?_) ?_
 ·have key:bF eN (2^64) (r,(),(r.length:Int),0,())=some (.inr ()):=key;have e2:ltI (-1) 0=true:=by decide
  simp only[jH,qQ,mR,key,aD,jN,e2,Bool.not_true]
 ·have e1:ltI (t:Int) (r.length:Int)=true:=by rw[aE]; exact oT (by omega)
  have e2:aF (t:Int) r.length=true:=by rw[aM]; exact oT (by omega)
  have e3:((t:Nat):Int).toNat=t:=oN _;have e4:r.getD t 0=r[t]:=by simp[List.getD,ht]
  have b:=hr r[t] (List.getElem_mem ht);have e5:ltI r[t] (-1000000000)=false:=by rw[aE]; exact oF (by omega)
  have e6:ltI 1000000000 r[t]=false:=by rw[aE]; exact oF (by omega)
  have e7:=bX t (by omega);simp only[eN,e1,e2,e3,e4,UK,e5,e6,aD,oC,oD,e7]
 ·have e1:ltI (r.length:Int) (r.length:Int)=false:=by rw[aE]; exact oF (by omega)
  simp only[eN,e1,oD]
theorem aJX(rows:List (List Int)){n:Nat}(hk:rows.length<=12)(hn:n<=12)(hlen:∀ r∈rows,r.length=n)(hr:∀ r∈rows,∀ a∈r,a.natAbs<=1000000000):NX (rows,())=some (0,()):=by
 have key:=aU (step:=wQ) (N:=2^64) (λt=>(rows,rows,(rows.length:Int),(t:Int),())) rows.length (.inr ()) (by omega) (λt ht=>?_) ?_
 ·have key:bF wQ (2^64) (rows,rows,(rows.length:Int),0,())=some (.inr ()):=key;have e1:ltI 12 (rows.length:Int)=false:=by rw[aE]; exact oF (by omega)
  simp only[NX,HZ,e1,oD,key,aD,jN]
 ·have e1:ltI (t:Int) (rows.length:Int)=true:=by rw[aE]; exact oT (by omega)
  have e2:aF (t:Int) rows.length=true:=by rw[aM]; exact oT (by omega)
  have e3:((t:Nat):Int).toNat=t:=oN _;have e4:rows.getD t []=rows[t]:=by simp[List.getD,ht]
  have e4':rows.getD 0 []=rows[0]:=by simp[List.getD,show 0<rows.length by omega]
  have hm:=List.getElem_mem ht;have hm0:=List.getElem_mem (show 0<rows.length by omega);have e5:ltI 12 (rows[t].length:Int)=false:=by rw[aE,hlen _ hm]; exact oF (by omega)
  have e6:aF 0 rows.length=true:=by rw[aM]; exact oT (by omega)
  have e7:eqI (rows[t].length:Int) (rows[0].length:Int)=true:=by rw[fP,hlen _ hm,hlen _ hm0]; exact oT rfl
  have e8:=a0C rows[t] (by rw[hlen _ hm]; omega) (hr _ hm);have e9:=bX t (by omega);simp only[wQ,e1,e2,e3,e4,e4',e5,e6,e7,e8,e9,aD,Bool.not_true,oC,oD]
 ·have e1:ltI (rows.length:Int) (rows.length:Int)=false:=by rw[aE]; exact oF (by omega)
  simp only[wQ,e1,oD]
theorem a0H {n c:Nat} {v:V} (hn:n<1048576) (hc:c<n) (hz:∀ x,x<c->v x=0) (hp:v c≠0):HT (Vr n v,())=some ((c:Int),()):=by
 have hl:=vW n v;have key:=aU (step:=eM) (N:=2^64) (λt=>(Vr n v,(),(n:Int),(t:Int),())) c (.inl ((c:Int),())) (by omega) (λt ht=>?_) ?_
 ·have key:bF eM (2^64) (Vr n v,(),(n:Int),0,())=some (.inl ((c:Int),())):=key;simp only[HT,qU,mL,hl,key,aD,EL]
 ·have e1:ltI (t:Int) (n:Int)=true:=by rw[aE]; exact oT (by omega)
  have e2:aF (t:Int) n=true:=by rw[aM]; exact oT (by omega)
  have e3:((t:Nat):Int).toNat=t:=oN _;have e4:(Vr n v).getD t 0=0:=by rw[aJY v (by omega)]; exact hz t ht
  have e5:eqI 0 0=true:=by decide
  have e9:=bX t (by omega);simp only[eM,hl,e1,e2,e3,e4,EE,e5,e9,aD,Bool.not_true,oC,oD]
 ·have e1:ltI (c:Int) (n:Int)=true:=by rw[aE]; exact oT (by omega)
  have e2:aF (c:Int) n=true:=by rw[aM]; exact oT (by omega)
  have e3:((c:Nat):Int).toNat=c:=oN _;have e4:eqI ((Vr n v).getD c 0) 0=false:=by rw[aJY v hc,fP]; exact oF hp
  simp only[eM,hl,e1,e2,e3,EE,e4,aD,Bool.not_false,oC]
theorem Hn.aT0 {d n:Nat} {M:Nat->V} {p:Nat->Nat} (h:Hn d M p) (hw:∀ i,i<d->∀ x,n<=x->M i x=0) {i:Nat} (hi:i<d):p i<n:=by
 rcases oG (p i) n with g|g
 ·exact g
 ·have:=hw i hi _ g;have:=h.pos i hi;omega
theorem a2A {d n t:Nat}{M:Nat->V}{p:Nat->Nat}(h:Hn d M p)(hw:∀ i,i<d->∀ x,n<=x->M i x=0)(hd:d<1048576)(hn:n<1048576)(ht:t<d) :
  eU (Mr t n M,((p t:Int),Vr n (M t),()),())=some (false,()):=by
 have hl:=cJ t n M;have hp:=Hn.aT0 h hw ht;have key:=aU (step:=cU) (N:=2^64) (λs=>(Mr t n M,((p t:Int),Vr n (M t),()),(t:Int),(s:Int),())) t (.inr ()) (by omega) (λs hs=>?_) ?_
 ·have key:bF cU (2^64) (Mr t n M,((p t:Int),Vr n (M t),()),(t:Int),0,())=some (.inr ()):=key;have e2:ltI (-1) 0=true:=by decide
  simp only[eU,lN,iT,hl,key,aD,jN,e2,Bool.not_true]
 ·have e1:ltI (s:Int) (t:Int)=true:=by rw[aE]; exact oT (by omega)
  have e2:aF (s:Int) t=true:=by rw[aM]; exact oT (by omega)
  have e3:∀ a:Nat,((a:Nat):Int).toNat=a:=λa=>oN _
  have e4:=Y5 (n:=n) M hs [];have e5:aF (p t:Int) n=true:=by rw[aM]; exact oT (by omega)
  obtain⟨r1,r2⟩:=h.red s t hs ht;have e6:ltI (M s (p t)) 0=false:=by rw[aE]; exact oF (by omega)
  have e7:ltI (M s (p t)) (M t (p t))=true:=by rw[aE]; exact oT r2
  have e9:=bX s (by omega);simp only[cU,hl,e1,e2,e3,e4,GD,vW,e5,aJY _ hp,e6,e7,e9,aD,Bool.not_true,oC,oD]
 ·have e1:ltI (t:Int) (t:Int)=false:=by rw[aE]; exact oF (by omega)
  simp only[cU,e1,oD]
theorem aX1 {d n:Nat}{M:Nat->V}{p:Nat->Nat}(h:Hn d M p)(hw:∀ i,i<d->∀ x,n<=x->M i x=0)(hd:d<1048576)(hn:n<1048576):FV (Mr d n M,())=some (true,()):=by
 have hl:=cJ d n M;obtain⟨q,hq⟩:∃ q:Nat->Int,q=λt=>if t=0 then -1 else (p (t-1):Int):=⟨_,rfl⟩
 have key:=aU (step:=rZ) (N:=2^64) (λt=>(Mr d n M,q t,Mr d n M,(d:Int),(t:Int),())) d (.inr ()) (by omega) (λt ht=>?_) ?_
 ·have q0:q 0 = -1:=by rw[hq]; rfl
  rw[q0]at key;have key:bF rZ (2^64) (Mr d n M,-1,Mr d n M,(d:Int),0,())=some (.inr ()):=key;simp only[FV,C4,hl,key,aD,jN]
 ·have hp:=Hn.aT0 h hw ht;have e1:ltI (t:Int) (d:Int)=true:=by rw[aE]; exact oT (by omega)
  have e2:aF (t:Int) d=true:=by rw[aM]; exact oT (by omega)
  have e3:∀ a:Nat,((a:Nat):Int).toNat=a:=λa=>oN _
  have e4:=Y5 (n:=n) M ht [];have e5:=a0H hn hp (h.low t ht) (by have:=h.pos t ht; omega);have e6:ltI (q t) (p t:Int)=true:=by
   rw[aE,hq];dsimp only;split
   ·exact oT (by omega)
   ·have:=h.inc (t-1) t (by omega) ht;exact oT (by omega)
  have e7:aF (p t:Int) n=true:=by rw[aM]; exact oT (by omega)
  have e8:ltI (M t (p t)) 0=false:=by rw[aE]; exact oF (by have:=h.pos t ht; omega)
  have e9:ltI (t:Int) 0=false:=by rw[aE]; exact oF (by omega)
  have e10:Nat.ble 0 t=true:=rfl;have e11:Nat.ble t d=true:=by rw[dN]; exact oT (by omega)
  have e12:((Mr d n M).drop 0).take (t-0)=Mr t n M:=by
   rw[List.drop_zero,Nat.sub_zero];unfold Mr;rw[<- List.map_take,List.take_range,Nat.min_eq_left (by omega)]
  have e13:=a2A h hw hd hn ht;have e14:=bX t (by omega);have e15:q (t+1)=(p t:Int):=by rw[hq]; simp
  simp only[rZ,hl,e1,e2,e3,e4,e5,aD,e6,vW,e7,aJY _ hp,e8,e9,e10,e11,e12,e13,e14,e15,Bool.not_true,Bool.not_false,oC,oD]
 ·have e1:ltI (d:Int) (d:Int)=false:=by rw[aE]; exact oF (by omega)
  simp only[rZ,e1,oD]
theorem XR {d n:Nat} {M:Nat->V} {p:Nat->Nat} (h:Hn d M p) (hw:∀ i,i<d->∀ x,n<=x->M i x=0) (hd:d<=12) (hn:n<=12) (hM:∀ i,i<d->∀ x,x<n->(M i x).natAbs<=1000000000):mK (((n:Int),Mr d n M),())=some (0,()):=by
 have hlen:∀ r∈Mr d n M,r.length=n:=λr hr=>by
  obtain⟨i,_,rfl⟩:=aCM hr;exact vW _ _
 have hr:∀ r∈Mr d n M,∀ a∈r,a.natAbs<=1000000000:=λr hr=>by
  obtain⟨i,hi,rfl⟩:=aCM hr;exact aBJ (hM i hi)
 have e0:eqI 0 0=true:=by decide
 have c1:=aSM (Mr d n M) (n:=n) (by rw[cJ]; exact hd) hn hlen hr;have c2:=aJX (Mr d n M) (n:=n) (by rw[cJ]; exact hd) hn hlen hr;simp only[mK,c1,aD,e0,Bool.not_true,oD,MC,c2,aX1 h hw (by omega) (by omega),oC]
end Go.PM
namespace Go.Lz
theorem aU9 {E d:Nat}(h:1<=E)(hd:d<=4):fac E d<=24*(E*E*E*E):=by
 have h1:E<=E*E:=Nat.le_mul_of_pos_left E h;have h2:E*E<=E*E*E:=Nat.le_mul_of_pos_right _ h;have h3:E*E*E<=E*E*E*E:=Nat.le_mul_of_pos_right _ h;rcases(show d=0\/d=1\/d=2\/d=3\/d=4 by omega)with rfl|rfl|rfl|rfl|rfl <;> simp only[fac] <;> omega
def un(q:Nat):V:=λc=>if c=q then 1 else 0
theorem aA5(b:V){q:Nat}:∀ {n:Nat},(q<n->dot n (un q) b=b q)/\(n<=q->dot n (un q) b=0)
 | 0=>⟨λh=>by omega,λ_=>rfl⟩
 | n+1=>by
  have ih:=aA5 b (q:=q) (n:=n);refine⟨λh=>?_,λh=>?_⟩
  ·show dot n (un q) b+un q n*b n=b q
   by_cases hq:q=n
   ·subst hq;rw[ih.2 (Nat.le_refl _)];simp[un]
   ·rw[ih.1 (by omega)];have:¬ n=q:=λe=>hq e.symm
    simp[un,this]
  ·show dot n (un q) b+un q n*b n=0;have:¬ n=q:=by omega
   rw[ih.2 (by omega)];simp[un,this]
theorem aOM {n:Nat}(b:V)(s:Nat->Int)(U:Nat->V):∀ d,dot n (λc=>sm (λj=>s j*U j c) d) b=sm (λj=>s j*dot n (U j) b) d
 | 0=>HW b n
 | d+1=>by
  show dot n (λc=>sm (λj=>s j*U j c) d+s d*U d c) b=_;rw[vY,aOM b s U d];rfl
theorem aI9 {n k r r2 d W:Nat} {M K S H:Nat->V} {p:Nat->Nat} (hw:∀ i,i<k->∀ x,n<=x->M i x=0) (hH:Hn d H p) (hs:Same k M d H) (hp:∀ j,j<d->p j<n) (hd:Dg k M d p W) (h1:jX n k M r K) (h2:jX n r K r2 S) :
  ∃ D:Int,D≠0/\∀ v,Sp r2 S v->Sp k M (λx=>D*v x):=by
 obtain⟨D,w,h0,hw'⟩:=hd;refine⟨D,h0,λv hv=>?_⟩;have hwid:∀ {b:V},Sp k M b->∀ x,n<=x->b x=0:=λhb x hx=>Sp.lC (λj hj=>hw j hj x hx) hb
 -- what the rows of the lattice are
 have comb:∀ b,Sp k M b->∀ x,D*b x=sm (λj=>b (p j)*w j x) d:=λb hb x=>by
  have hz:(λy=>D*b y-sm (λj=>b (p j)*w j y) d)=λ_=>0:=by
   refine hH.zero ((hs _).1 (Sp.sub (Sp.smul D hb) (Sp.sm λj hj=>(hw' j hj).1))) λl hl=>?_
   rw[R0 (f:=λj=>b (p j)*w j (p l)) hl λj hj hne=>by rw[(hw' j hj).2.2.1 l hl (Ne.symm hne),Int.mul_zero]];rw[(hw' l hl).2.1];grind
  have:=congrFun hz x;have:D*b x-sm (λj=>b (p j)*w j x) d=0:=this;omega
 have main:∀ x,D*v x=sm (λj=>v (p j)*w j x) d:=λx=>by
  by_cases hx:x<n
  ·-- a row of the kernel
   have hy:∀ b:V,dot n (λc=>sm (λj=>-(w j x)*un (p j) c) d+D*un x c) b=D*b x-sm (λj=>b (p j)*w j x) d:=λb=>by
    rw[vY,aOM,(aA5 b).1 hx];have:sm (λj=>-(w j x)*dot n (un (p j)) b) d = -(sm (λj=>b (p j)*w j x) d):=by
     have:∀ e,e<=d->sm (λj=>-(w j x)*dot n (un (p j)) b) e = -(sm (λj=>b (p j)*w j x) e):=by
      intro e
      induction e with
      | zero=>exact λ_=>rfl
      | succ e ih =>
       intro he;rw[sm,sm,ih (by omega),(aA5 b).1 (hp e (by omega))];grind
     exact this d (Nat.le_refl _)
    rw[this];omega
   have hk:Ker n k M (λc=>sm (λj=>-(w j x)*un (p j) c) d+D*un x c):=by
    refine⟨λc hc=>?_,λi hi=>?_⟩
    ·have e1:¬ c=x:=by omega
     show sm (λj=>-(w j x)*un (p j) c) d+D*un x c=0;rw[KI λj hj=>by
      have:=hp j hj;have e2:¬ c=p j:=by omega
      simp[un,e2]]
     simp[un,e1]
    ·rw[hy,comb _ (Sp.mem hi) x]; omega
   have hv2:=(h2 v).1 hv;have:=hv2.span ((h1 _).2 hk);rw[nI,hy]at this;omega
  ·have g1:=((h2 v).1 hv).1 x (by omega);rw[g1,KI λj hj=>by rw[hwid (hw' j hj).1 x (by omega),Int.mul_zero],Int.mul_zero]
 have:=Sp.sm (k:=k) (M:=M) (w:=w) (s:=λj=>v (p j)) (n:=d) λj hj=>(hw' j hj).1
 refine cast (congrArg _ ?_) this
 funext x
 exact(main x).symm
theorem d2W {a b:V}{A B:Nat}(ha:∀ x,(a x).natAbs<=A)(hb:∀ x,(b x).natAbs<=B)(x y:Nat):(d2 a b x y).natAbs<=2*(A*B):=by
 have h1:=N5 (ha x) (hb y);have h2:=N5 (ha y) (hb x);unfold d2;omega
theorem sg3 {x y z s t u:Int}{B:Nat}(b1:x.natAbs<=B)(b2:y.natAbs<=B)(b3:z.natAbs<=B)(hs:s=1\/s = -1)(ht:t=1\/t = -1)(hu:u=1\/u = -1):(s*y+t*z).natAbs+(u*z-s*x).natAbs+(t*x+u*y).natAbs<=4*B:=by rcases hs with rfl|rfl <;> rcases ht with rfl|rfl <;> rcases hu with rfl|rfl <;> (simp only[Int.one_mul,Int.neg_mul]; omega)
theorem m3s {a b:V} {A B:Nat} (ha:∀ x,(a x).natAbs<=A) (hb:∀ x,(b x).natAbs<=B) (x y z:Nat) {s t u:Int} (hs:s=1\/s = -1) (ht:t=1\/t = -1) (hu:u=1\/u = -1) :
  (s*d2 a b x y+t*d2 a b x z+u*d2 a b y z).natAbs<=4*(A*B):=by
 have e:s*d2 a b x y+t*d2 a b x z+u*d2 a b y z=a x*(s*b y+t*b z)+a y*(u*b z-s*b x)-a z*(t*b x+u*b y):=by simp only[d2]; grind
 have h1:=N5 (ha x) (Nat.le_refl (s*b y+t*b z).natAbs);have h2:=N5 (ha y) (Nat.le_refl (u*b z-s*b x).natAbs);have h3:=N5 (ha z) (Nat.le_refl (t*b x+u*b y).natAbs);have h4:=sg3 (hb x) (hb y) (hb z) hs ht hu;have h5:=Nat.mul_le_mul_left A h4;rw[Nat.mul_add,Nat.mul_add]at h5;have e2:A*(4*B)=4*(A*B):=by grind
 rw[e];omega
theorem m3 {a b:V}{A B:Nat}(ha:∀ x,(a x).natAbs<=A)(hb:∀ x,(b x).natAbs<=B)(x y z:Nat):(d2 a b x y).natAbs+(d2 a b x z).natAbs+(d2 a b y z).natAbs<=4*(A*B):=by
 have sg:∀ v:Int,∃ s:Int,(s=1\/s = -1)/\s*v=(v.natAbs:Int):=λv=>by
  rcases(by omega:0<=v\/v<0)with h|h
  ·exact⟨1,.inl rfl,by omega⟩
  ·exact⟨-1,.inr rfl,by omega⟩
 obtain⟨s,hs,e1⟩:=sg (d2 a b x y);obtain⟨t,ht,e2⟩:=sg (d2 a b x z);obtain⟨u,hu,e3⟩:=sg (d2 a b y z);have:=m3s ha hb x y z hs ht hu;rw[e1,e2,e3]at this;omega
theorem d3W {a b c:V}{A B C:Nat}(ha:∀ x,(a x).natAbs<=A)(hb:∀ x,(b x).natAbs<=B)(hc:∀ x,(c x).natAbs<=C)(x y z:Nat):(d3 a b c x y z).natAbs<=4*(A*B*C):=by
 have h:=Nat.mul_le_mul_right C (m3 ha hb x y z);have h1:=N5 (Nat.le_refl (d2 a b x y).natAbs) (hc z);have h2:=N5 (Nat.le_refl (d2 a b x z).natAbs) (hc y);have h3:=N5 (Nat.le_refl (d2 a b y z).natAbs) (hc x);rw[Nat.add_mul,Nat.add_mul]at h;have e:4*(A*B)*C=4*(A*B*C):=by grind
 unfold d3;omega
theorem d4W {a b c d:V}{A B C D:Nat}(ha:∀ x,(a x).natAbs<=A)(hb:∀ x,(b x).natAbs<=B)(hc:∀ x,(c x).natAbs<=C)(hd:∀ x,(d x).natAbs<=D)(x y z u:Nat):(d4 a b c d x y z u).natAbs<=16*(A*B*C*D):=by
 have h1:=N5 (d3W ha hb hc x y z) (hd u);have h2:=N5 (d3W ha hb hc x y u) (hd z);have h3:=N5 (d3W ha hb hc x z u) (hd y);have h4:=N5 (d3W ha hb hc y z u) (hd x);have e:4*(A*B*C)*D=4*(A*B*C*D):=by grind
 rw[e]at h1 h2 h3 h4;unfold d4;omega
def aKG(k:Nat) (B:Nat->Nat) (W:Nat):Nat->Prop
 | 0=>1<=W
 | 1=>∀ a,a<k->B a<=W
 | 2=>∀ a b,a<k->b<k->a≠b->2*(B a*B b)<=W
 | 3=>∀ a b c,a<k->b<k->c<k->a≠b->a≠c->b≠c->4*(B a*B b*B c)<=W
 | _=>∀ a b c d,a<k->b<k->c<k->d<k->a≠b->a≠c->a≠d->b≠c->b≠d->c≠d->16*(B a*B b*B c*B d)<=W
def aZ1(k:Nat) (M:Nat->V) (r:Nat) (p:Nat->Nat):Prop:=∀ i,i<r->∃ u:V,(∃ t:Int,t≠0/\Sp k M (λx=>t*u x))/\(∀ l,l<i->u (p l)=0)/\u (p i)≠0
theorem Hn.chain {r k:Nat}{H M:Nat->V}{p:Nat->Nat}(hH:Hn r H p)(hs:∀ j,j<r->∃ t:Int,t≠0/\Sp k M (λi=>t*H j i)):aZ1 k M r p:=λi hi =>
 ⟨H i,hs i hi,λl hl=>hH.low i hi _ (hH.inc l i hl hi),by have:=hH.pos i hi; omega⟩
section
variable {k:Nat} {M:Nat->V}
theorem WD {r W:Nat}{p:Nat->Nat}{B:Nat->Nat}(hr:r<=4)(hC:aZ1 k M r p)(hE:∀ j,j<k->∀ x,(M j x).natAbs<=B j)(hP:aKG k B W r) :
  ∃ (D:Int) (w:Nat->V),D≠0/\D.natAbs<=W/\∀ j,j<r->Sp k M (w j)/\w j (p j)=D/\(∀ i,i<r->i≠j->w j (p i)=0)/\∀ x,(w j x).natAbs<=W:=by
 have fin:0<r->Dg k M r p W->∃ (D:Int) (w:Nat->V),D≠0/\D.natAbs<=W/\∀ j,j<r->Sp k M (w j)/\w j (p j)=D/\(∀ i,i<r->i≠j->w j (p i)=0)/\∀ x,(w j x).natAbs<=W:=λh0 ⟨D,w,h1,h2⟩ =>
  ⟨D,w,h1,by have:=(h2 0 h0).2.2.2 (p 0); rwa[(h2 0 h0).2.1]at this,h2⟩
 have ne2:∀ {a b:Nat} {x y:Nat},d2 (M a) (M b) x y≠0->a≠b:=λh e=>h (by subst e; simp only[d2]; grind)
 have ne3:∀ {a b c:Nat} {x y z:Nat},d3 (M a) (M b) (M c) x y z≠0->a≠b/\a≠c/\b≠c:=λh=>⟨λe=>h (by subst e; simp only[d3,d2]; grind),λe=>h (by subst e; simp only[d3,d2]; grind),λe=>h (by subst e; simp only[d3,d2]; grind)⟩
 rcases(show r=0\/r=1\/r=2\/r=3\/r=4 by omega)with rfl|rfl|rfl|rfl|rfl
 ·have:1<=W:=hP;exact⟨1,λ_ _=>0,by decide,this,λj hj=>by omega⟩
 ·obtain⟨u,⟨t,ht,h0⟩,z0,n0⟩:=hC 0 (by omega);obtain⟨a,ha,q0⟩:=aAV ht h0 n0;exact fin (by omega) (a6R (λx=>Nat.le_trans (hE a ha x) (hP a ha)) ha q0)
 ·obtain⟨u,⟨t,ht,h0⟩,z0,n0⟩:=hC 0 (by omega);obtain⟨a,ha,q0⟩:=aAV ht h0 n0;obtain⟨u,⟨t,ht,h0⟩,z1,n1⟩:=hC 1 (by omega);obtain⟨b,hb,q1⟩:=aGP ht h0 (z1 0 (by omega)) n1 q0;exact fin (by omega) (a7H (λx y=>Nat.le_trans (d2W (hE a ha) (hE b hb) x y) (hP a b ha hb (ne2 q1))) ha hb q1)
 ·obtain⟨u,⟨t,ht,h0⟩,z0,n0⟩:=hC 0 (by omega);obtain⟨a,ha,q0⟩:=aAV ht h0 n0;obtain⟨u,⟨t,ht,h0⟩,z1,n1⟩:=hC 1 (by omega);obtain⟨b,hb,q1⟩:=aGP ht h0 (z1 0 (by omega)) n1 q0;obtain⟨u,⟨t,ht,h0⟩,z2,n2⟩:=hC 2 (by omega);obtain⟨c,hc,q2⟩:=aQN ht h0 (z2 0 (by omega)) (z2 1 (by omega)) n2 q1;obtain⟨a1,a2,a3⟩:=ne3 q2;exact fin (by omega) (a63 (λx y z=>Nat.le_trans (d3W (hE a ha) (hE b hb) (hE c hc) x y z) (hP a b c ha hb hc a1 a2 a3)) ha hb hc q2)
 ·obtain⟨u,⟨t,ht,h0⟩,z0,n0⟩:=hC 0 (by omega);obtain⟨a,ha,q0⟩:=aAV ht h0 n0;obtain⟨u,⟨t,ht,h0⟩,z1,n1⟩:=hC 1 (by omega);obtain⟨b,hb,q1⟩:=aGP ht h0 (z1 0 (by omega)) n1 q0;obtain⟨u,⟨t,ht,h0⟩,z2,n2⟩:=hC 2 (by omega);obtain⟨c,hc,q2⟩:=aQN ht h0 (z2 0 (by omega)) (z2 1 (by omega)) n2 q1;obtain⟨u,⟨t,ht,h0⟩,z3,n3⟩:=hC 3 (by omega);obtain⟨d,hd,q3⟩:=a1B ht h0 (z3 0 (by omega)) (z3 1 (by omega)) (z3 2 (by omega)) n3 q2
  obtain⟨a1,a2,a3⟩:=ne3 q2;have ne4:a≠d/\b≠d/\c≠d:=⟨λe=>q3 (by subst e; simp only[d4,d3,d2]; grind),λe=>q3 (by subst e; simp only[d4,d3,d2]; grind),λe=>q3 (by subst e; simp only[d4,d3,d2]; grind)⟩;exact fin (by omega) (a6O (λx y z u=>Nat.le_trans (d4W (hE a ha) (hE b hb) (hE c hc) (hE d hd) x y z u) (hP a b c d ha hb hc hd a1 a2 ne4.1 a3 ne4.2.1 ne4.2.2)) ha hb hc hd q3)
end
theorem aSN {k r W:Nat}{M:Nat->V}{p:Nat->Nat}(h:∃ (D:Int) (w:Nat->V),D≠0/\D.natAbs<=W/\∀ j,j<r->Sp k M (w j)/\w j (p j)=D/\(∀ i,i<r->i≠j->w j (p i)=0)/\∀ x,(w j x).natAbs<=W):Dg k M r p W:=by
 obtain⟨D,w,h1,_,h2⟩:=h;exact⟨D,w,h1,h2⟩
theorem wE {f g:Nat->Int}:∀ {n:Nat},(∀ i,i<n->f i=g i)->sm f n=sm g n
 | 0,_=>rfl
 | n+1,h=>by rw[sm,sm,wE λi hi=>h i (by omega),h n (by omega)]
theorem a1G(f g:Nat->Int):∀ n,sm (λi=>f i+g i) n=sm f n+sm g n
 | 0=>rfl
 | n+1=>by rw[sm,sm,sm,a1G f g n]; omega
theorem aN7(t:Int)(f:Nat->Int):∀ n,sm (λi=>t*f i) n=t*sm f n
 | 0=>by simp[sm]
 | n+1=>by rw[sm,sm,aN7 t f n,Int.mul_add]
def skip(j i:Nat):Nat:=if i<j then i else i+1
theorem a1H(j i:Nat):(if skip j i<j then skip j i else skip j i-1)=i:=by
 by_cases h:i<j
 ·simp only[skip,h,if_true]
 ·have:¬ i+1<j:=by omega
  simp only[skip,h,if_false,this];omega
theorem aVX(f:Nat->Int)(j:Nat):∀ n,j<=n->sm f (n+1)=sm (λi=>f (skip j i)) n+f j
 | 0,h=>by
  obtain rfl:j=0:=by omega
  rfl
 | n+1,h=>by
  by_cases hj:j=n+1
  ·subst hj;rw[sm,wE (g:=λi=>f (skip (n+1) i)) λi hi=>by
    have:i<n+1:=hi;simp only[skip,this,if_true]]
  ·have e:skip j n=n+1:=by
    have:¬ n<j:=by omega
    simp only[skip,this,if_false]
   rw[sm,aVX f j n (by omega),sm,e];omega
theorem dep:∀ (k:Nat) (M u:Nat->V),(∀ i,i<=k->Sp k M (u i))->∃ c:Nat->Int,(∃ i,i<=k/\c i≠0)/\∀ x,sm (λi=>c i*u i x) (k+1)=0
 | 0,M,u,h=>⟨λ_=>1,⟨0,by omega,by decide⟩,λx=>by
  have:u 0 x=0:=Sp.lC (λj hj=>by omega) (h 0 (by omega));simp[sm,this]⟩
 | k+1,M,u,h=>by
  have hc:∀ i,∃ tv:Int×V,i<=k+1->Sp k (λj=>M (j+1)) tv.2/\u i=λx=>tv.2 x+tv.1*M 0 x:=λi=>by
   by_cases hi:i<=k+1
   ·obtain⟨t,v,h1,h2⟩:=(h i hi).first;exact⟨(t,v),λ_=>⟨h1,h2⟩⟩
   ·exact⟨(0,λ_=>0),λg=>absurd g hi⟩
  obtain⟨tv,hc⟩:=Classical.axiomOfChoice hc
  by_cases hj:∃ j,j<=k+1/\(tv j).1≠0
  ·obtain⟨j,hj,ht⟩:=hj;have hsk:∀ i,i<=k->skip j i<=k+1:=λi hi=>by unfold skip; split <;> omega
   obtain⟨c,⟨i0,hi0,hc0⟩,hs⟩:=dep k (λj=>M (j+1)) (λi x=>(tv j).1*u (skip j i) x-(tv (skip j i)).1*u j x) λi hi=>by
    obtain⟨a1,a2⟩:=hc (skip j i) (hsk i hi);obtain⟨b1,b2⟩:=hc j hj;have:=Sp.sub (Sp.smul (tv j).1 a1) (Sp.smul (tv (skip j i)).1 b1);refine cast (congrArg _ ?_) this
    funext x
    rw[a2,b2];grind
   -- back
   have hun:∀ i,skip j i≠j:=λi=>by unfold skip; split <;> omega
   refine⟨λm=>if m=j then -(sm (λi=>c i*(tv (skip j i)).1) (k+1)) else c (if m<j then m else m-1)*(tv j).1,⟨skip j i0,hsk i0 hi0,?_⟩,λx=>?_⟩
   ·have e:=a1H j i0;simp only[hun i0,if_false,e];exact Int.mul_ne_zero hc0 ht
   ·rw[aVX _ j (k+1) hj];have e1:∀ i,(λi=>(if skip j i=j then -(sm (λi=>c i*(tv (skip j i)).1) (k+1)) else c (if skip j i<j then skip j i else skip j i-1)*(tv j).1)*u (skip j i) x) i=c i*((tv j).1*u (skip j i) x-(tv (skip j i)).1*u j x)+u j x*(c i*(tv (skip j i)).1):=λi=>by
     have e:=a1H j i;simp only[hun i,if_false,e];grind
    rw[wE λi _=>e1 i,a1G,hs x,aN7];simp only[if_true];grind
  ·have hz:∀ i,i<=k+1->Sp k (λj=>M (j+1)) (u i):=λi hi=>by
    obtain⟨a1,a2⟩:=hc i hi;have:(tv i).1=0:=Classical.byContradiction λh0=>hj ⟨i,hi,h0⟩
    rw[a2,this];refine cast (congrArg _ ?_) a1
    funext x; simp
   obtain⟨c,⟨i0,hi0,hc0⟩,hs⟩:=dep k _ u λi hi=>hz i (by omega)
   refine⟨λi=>if i<=k then c i else 0,⟨i0,by omega,by simp only[hi0,if_true]; exact hc0⟩,λx=>?_⟩;have e:¬ k+1<=k:=by omega
   rw[sm,wE (g:=λi=>c i*u i x) λi hi=>by
    have:i<=k:=by omega
    simp only[this,if_true],hs x]
   simp only[e,if_false];omega
def Ind(k:Nat) (u:Nat->V):Prop:=∀ c:Nat->Int,(∀ x,sm (λi=>c i*u i x) k=0)->∀ i,i<k->c i=0
theorem a1D {f:Nat->Int}{m:Nat}:∀ {k:Nat},m<=k->(∀ i,m<=i->i<k->f i=0)->sm f k=sm f m
 | 0,h,_=>by
  obtain rfl:m=0:=by omega
  rfl
 | k+1,h,hz=>by
  by_cases e:m=k+1
  ·subst e; rfl
  ·rw[sm,a1D (k:=k) (by omega) (λi h1 h2=>hz i h1 (by omega)),hz k (by omega) (by omega),Int.add_zero]
theorem Ind.le {k m:Nat}{u:Nat->V}(h:Ind k u)(hm:m<=k):Ind m u:=λc hc i hi=>by
 have:=h (λi=>if i<m then c i else 0) (λx=>by
  rw[a1D hm λi h1 h2=>by
   have:¬ i<m:=by omega
   simp only[this,if_false,Int.zero_mul]]
  rw[wE (g:=λi=>c i*u i x) λi hi=>by simp only[hi,if_true]];exact hc x) i (by omega)
 simpa[hi]using this
theorem Ind.aC1 {k k':Nat}{u M:Nat->V}(h:Ind k u)(hs:∀ i,i<k->∃ t:Int,t≠0/\Sp k' M (λx=>t*u i x)):k<=k':=by
 refine Classical.byContradiction λhn=>?_
 have h':=h.le (show k'+1<=k by omega);have hc:∀ i,∃ t:Int,i<k->t≠0/\Sp k' M (λx=>t*u i x):=λi=>by
  by_cases hi:i<k
  ·obtain⟨t,ht⟩:=hs i hi;exact⟨t,λ_=>ht⟩
  ·exact⟨0,λg=>absurd g hi⟩
 obtain⟨t,ht⟩:=Classical.axiomOfChoice hc;obtain⟨c,⟨i,hi,h0⟩,h1⟩:=dep k' M (λi x=>t i*u i x) λi hi=>(ht i (by omega)).2
 have:=h' (λi=>c i*t i) (λx=>by
  rw[<- h1 x];exact wE λi _=>by grind) i (by omega)
 rcases Int.mul_eq_zero.1 this with g|g
 ·exact h0 g
 ·exact(ht i (by omega)).1 g
theorem Hn.ind {k:Nat}{M:Nat->V}{p:Nat->Nat}(h:Hn k M p):Ind k M:=λc hc=>by
 have:∀ N i,i<N->i<k->c i=0:=by
  intro N
  induction N with
  | zero=>intro i hi; omega
  | succ N ih =>
   intro i hi hk;have h1:=hc (p i);rw[R0 (j:=i) hk λl hl hne=>by
    rcases Nat.lt_or_ge l i with g|g
    ·rw[ih l (by omega) hl,Int.zero_mul]
    ·rw[h.low l hl (p i) (h.inc i l (by omega) hl),Int.mul_zero]]at h1
   rcases Int.mul_eq_zero.1 h1 with g|g
   ·exact g
   ·have:=h.pos i hk; omega
 exact λi hi=>this (i+1) i (by omega) hi
end Go.Lz
namespace Go.PM
open Go Go.RowKit Go.Proofs Go.Lz
def dg(D:Nat):Nat->Nat
 | 0=>D
 | d+1=>6*dg D d+2
theorem a6D(D:Nat){a b:Nat}(h:a<=b):dg D a<=dg D b:=by
 induction h with
 | refl=>exact oM _
 | step _ ih=>refine oR ih ?_; rw[dg]; omega
theorem a5Q {D k n:Nat}(h:∀ d,d<k->d<n->10*dg D d+4<=400000):Bds k n (λd=>10^dg D d) (λd=>10^(5*dg D d+1)):=by
 have e5:∀ a:Nat,(10^a)^5=10^(5*a):=λa=>by rw[<- Nat.pow_mul,Nat.mul_comm]
 refine⟨λd hd hdn=>⟨Nat.pow_pos (by decide),Nat.pow_le_pow_right (by decide) (by omega),λ_=>?_,?_⟩,λd hd _=>?_⟩
 ·show 9*(10^dg D d)^5<=10^(5*dg D d+1);rw[e5,Nat.pow_succ];omega
 ·have h1:(10^(5*dg D d+1)+1:Nat)<10^(5*dg D d+1+1):=by
   rw[Nat.pow_succ 10 (5*dg D d+1)];have:0<10^(5*dg D d+1):=Nat.pow_pos (by decide);omega
  have h2:=uD (u:=10^(5*dg D d+1)+1) (k:=5*dg D d+1) h1;have:=h d hd hdn;have e:vK=400000:=rfl;show 2*Lib.nDigits (10^(5*dg D d+1)+1)<=vK;omega
 ·show 10^dg D d+(10^dg D d+1)*10^(5*dg D d+1)<=10^(6*dg D d+2);generalize ha:dg D d=a;have h1:(10^(5*a+1):Nat)=10*10^(5*a):=by rw[Nat.pow_succ]; omega
  have h2:(10^(6*a+2):Nat)=100*(10^a*10^(5*a)):=by rw[<- Nat.pow_add,show a+5*a=6*a by omega,Nat.pow_add]; omega
  have h3:(10^a:Nat)<=10^a*10^(5*a):=Nat.le_mul_of_pos_right _ (Nat.pow_pos (by decide));have h4:(10^(5*a):Nat)<=10^a*10^(5*a):=Nat.le_mul_of_pos_left _ (Nat.pow_pos (by decide));have h5:(10^a+1)*(10*10^(5*a))=10*(10^a*10^(5*a))+10*10^(5*a):=by grind
  rw[h1,h2,h5];omega
theorem aN8 {D k n:Nat}(hk:k<=4\/n<=4)(hD:D<=154):Bds k n (λd=>10^dg D d) (λd=>10^(5*dg D d+1)):=a5Q λd hd hn=>by
 have h1:=a6D D (show d<=3 by omega);have h2:dg D 3=6*(6*(6*D+2)+2)+2:=rfl;omega
theorem OP {k n D:Nat} {M:Nat->V} (hk:k<=4\/n<=4) (hkk:k<1048576) (hn:n<1048576) (hw:Wd k n M) (hE:Big k n M (10^D)) (hD:D<=154):∃ d H p,d<=k/\Hn d H p/\Same k M d H/\Wd d n H:=by
 have hL:lH 0 k n ((List.range k).map λc=>(c,0,n)) ((List.range k).map λc=>Zr n (M c)) (λc=>c) M :=
  ⟨rfl,λi hi=>⟨[],rfl,by rw[List.getElem?_map,List.getElem?_range hi]; rfl⟩,λi j _ _ e=>e⟩
 obtain⟨m',A',J',H,d,p,_,g2,g3,g4,g5,g6,g7⟩:=UP (by omega) hn hL hw (E:=λd=>10^dg D d) (T:=λd=>10^(5*dg D d+1)) hE (aN8 hk hD);exact⟨d,H,p,g2,g4,g5,λi hi x hx=>g6 i (by omega) x hx⟩
theorem Hn.gL {d n:Nat}{H:Nat->V}{p:Nat->Nat}(h:Hn d H p)(hw:Wd d n H):d<=n/\∀ j,j<d->p j<n:=by
 have hp:∀ j,j<d->p j<n:=λj hj=>Hn.aT0 h hw hj
 refine⟨?_,hp⟩;have:∀ j,j<d->j<=p j:=by
  intro j
  induction j with
  | zero=>exact λ_=>Nat.zero_le _
  | succ j ih=>intro hj; have:=ih (by omega); have:=h.inc j (j+1) (by omega) hj; omega
 rcases Nat.eq_zero_or_pos d with h0|h0
 ·omega
 ·have:=this (d-1) (by omega); have:=hp (d-1) (by omega); omega
theorem T5 {k n E D r:Nat} {M K:Nat->V} {p:Nat->Nat} (hn:n<=4) (hk:k<1048000) (hw:Wd k n M) (hE:Big k n M E) (h1:1<=E) (hD:E<=10^D) (hD2:D<=154) (hH:Hn r K p) (hI:jX n k M r K) :
  ∀ i,i<r->∀ x,(K i x).natAbs<=4*(24*(E*E*E*E)):=by
 have hB:=hE.wide (k:=k) (M:=M) h1;obtain⟨d,W,q,g1,g2,g3,g4⟩:=OP (k:=n) (n:=k+n) (M:=wide n k M) (.inl hn) (by omega) (by omega) hw.wide (λi hi x hx=>oR (hB i hi x hx) hD) hD2;obtain⟨j,b1,b2,b3⟩:=Hn.split g2 k;obtain⟨c1,c2⟩:=YR g2 g3 b1 b2 b3;obtain⟨e1,_,e3⟩:=Hn.unique hH c1 λv=>(hI v).trans (c2 v).symm
 have hdg:=(aO0 (k:=n) (M:=wide n k M) (E:=E) (by omega) g2 (λj hj=>⟨1,by decide,by
  have:=(g3 _).2 (Sp.mem hj);refine cast (oZ _ ?_) this
  funext x; simp⟩) (hB.all hw.wide)).mono λv=>(g3 v).1
 have hle:=Hn.aEI g2 hdg;intro i hi x;rw[e3 i hi];refine oR (hle (j+i) (by omega) (k+x)) (Nat.mul_le_mul (by omega) (aU9 h1 (by omega)))
theorem aYJ {k n E D r r2:Nat} {M K S:Nat->V} {p2:Nat->Nat} (hk:k<=4) (hn:n<=4) (hw:Wd k n M) (hE:Big k n M E) (h1:1<=E) (hD:E<=10^D) (hD2:D<=154) (hI:jX n k M r K) (hS:Hn r2 S p2) (hI2:jX n r K r2 S) :
  ∀ i,i<r2->∀ x,(S i x).natAbs<=4*(24*(E*E*E*E)):=by
 obtain⟨d,H,p,g1,g2,g3,g4⟩:=OP (.inl hk) (by omega) (by omega) hw (λi hi x hx=>oR (hE i hi x hx) hD) hD2;have a1:=(Hn.gL g2 g4);have hdg:=aO0 (k:=k) (M:=M) (E:=E) (by omega) g2 (λj hj=>⟨1,by decide,by
  have:=(g3 _).2 (Sp.mem hj);refine cast (oZ _ ?_) this
  funext x; simp⟩) (hE.all hw)
 obtain⟨D0,h0,hsp⟩:=aI9 hw g2 g3 a1.2 hdg hI hI2;have hwS:Wd r2 n S:=λi hi x hx=>hI2.width hi x hx
 have a2:=Hn.gL hS hwS;have hdS:=(aO0 (k:=k) (M:=M) (E:=E) (by omega) hS (λj hj=>⟨D0,h0,hsp _ (Sp.mem hj)⟩) (hE.all hw)).mono (k':=r2) (M':=S) λv hv=>by
  refine(hI2 v).2 ⟨λc hc=>Sp.lC (λj hj=>hw j hj c hc) hv,λx hx=>?_⟩;rw[nI];exact((hI _).1 (Sp.mem hx)).span hv
 have hle:=Hn.aEI hS hdS;intro i hi x;refine oR (hle i hi x) (Nat.mul_le_mul (by omega) (aU9 h1 (by omega)))
theorem aHP {d n:Nat}{M:Nat->V}(hw:Wd d n M){i:Nat}(hi:i<d):KC (Mr d n M) i=M i:=by
 unfold KC;rw[Y5 M hi];exact aV8 λx hx=>hw i hi x hx
theorem lH.congr {o k n:Nat}{m:List (Nat×Nat×Nat)}{A:List (List ByteArray)}{J:Nat->Nat}{M M':Nat->V}(h:lH o k n m A J M)(e:∀ i,i<k->M i=M' i):lH o k n m A J M' :=
 ⟨h.ml,λi hi=>by rw[<- e i hi]; exact h.at_ i hi,h.inj⟩
theorem aBC {d n:Nat}{M:Nat->V}(hd:d<=12)(hn:n<=12)(hw:Wd d n M)(hM:Big d n M 1000000000):∃ m A,cL () (Mr d n M,()) []=some (m,A)/\lH 0 d n m A (λi=>i) M:=by
 have hlen:∀ r∈Mr d n M,r.length=n:=λr hr=>by
  obtain⟨i,hi,rfl⟩:=aCM hr;exact vW _ _
 obtain⟨m,A,h1,h2⟩:=aJA (Mr d n M) (n:=n) (by rw[cJ]; omega) (by omega) hlen λr hr a ha=>by
  obtain⟨i,hi,rfl⟩:=aCM hr;have:=aBJ (λx hx=>hM i hi x hx) a ha;omega
 rw[cJ]at h2;exact⟨m,A,h1,h2.congr λi hi=>aHP hw hi⟩
section
variable {d n:Nat} {B:Nat->V}
theorem p9:(1000000000:Nat)=10^9:=by decide
theorem p38:4*(24*((10^9)*(10^9)*(10^9)*(10^9)))<=10^38:=by decide
theorem a6T:4*(24*((10^38)*(10^38)*(10^38)*(10^38)))<=10^154:=by
 have e:(10^38:Nat)*10^38*10^38*10^38=10^152:=by rw[<- Nat.pow_add,<- Nat.pow_add,<- Nat.pow_add]
 rw[e,show (154:Nat)=152+2 by rfl,Nat.pow_add];have:(10^2:Nat)=100:=by decide
 rw[this];generalize (10^152:Nat)=a;omega
theorem aA4 {m:List (Nat×Nat×Nat)} {A:List (List ByteArray)} {J:Nat->Nat} (hd:d<=4) (hn:n<=4) (hw:Wd d n B) (hB:Big d n B (10^9)) (h:lH 0 d n m A J B) :
  ∃ m' A' J' K p r,cF () (m,(n:Int),()) A=some (m',A')/\lH d r n m' A' J' K/\r<=n/\Hn r K p/\jX n d B r K/\Wd r n K/\Big r n K (10^38):=by
 have hk:=λ(r:Nat) (K:Nat->V) (p:Nat->Nat) (hH:Hn r K p) (hI:jX n d B r K)=>T5 (E:=10^9) (D:=9) hn (by omega) hw hB (by decide) (oM _) (by decide) hH hI
 obtain⟨m',A',J',K,p,r,g1,g2,g3,g4,g5,g6⟩:=aMJ (E:=λd=>10^dg 9 d) (T:=λd=>10^(5*dg 9 d+1)) (show d<1048576 by omega) (show n<1048576 by omega) (by omega) h hw hB (show 1<=10^dg 9 0 from Nat.pow_pos (by decide)) (aN8 (.inl hn) (by decide)) λr K p hr hH hI =>
  ⟨λd=>10^dg 38 d,λd=>10^(5*dg 38 d+1),λi hi x _=>oR (hk r K p hH hI i hi x) p38,aN8 (.inl (by omega)) (by decide)⟩
 exact⟨m',A',J',K,p,r,g1,g2,g3,g4,g5,g6,λi hi x _=>oR (hk r K p g4 g5 i hi x) p38⟩
theorem aJE {o:Nat} {m:List (Nat×Nat×Nat)} {A:List (List ByteArray)} {J:Nat->Nat} (hd:d<=4) (hn:n<=4) (hw:Wd d n B) (hB:Big d n B (10^38)) (h:lH o d n m A J B) :
  ∃ m' A' J' K p r,cF () (m,(n:Int),()) A=some (m',A')/\lH d r n m' A' J' K/\r<=n/\Hn r K p/\jX n d B r K/\Wd r n K/\Big r n K (10^154):=by
 have hk:=λ(r:Nat) (K:Nat->V) (p:Nat->Nat) (hH:Hn r K p) (hI:jX n d B r K)=>T5 (E:=10^38) (D:=38) hn (by omega) hw hB (Nat.pow_pos (by decide)) (oM _) (by decide) hH hI
 obtain⟨m',A',J',K,p,r,g1,g2,g3,g4,g5,g6⟩:=aMJ (E:=λd=>10^dg 38 d) (T:=λd=>10^(5*dg 38 d+1)) (show d<1048576 by omega) (show n<1048576 by omega) (by omega) h hw hB (show 1<=10^dg 38 0 from Nat.pow_pos (by decide)) (aN8 (.inl hn) (by decide)) λr K p hr hH hI =>
  ⟨λd=>10^dg 154 d,λd=>10^(5*dg 154 d+1),λi hi x _=>oR (hk r K p hH hI i hi x) a6T,aN8 (.inl (by omega)) (by decide)⟩
 exact⟨m',A',J',K,p,r,g1,g2,g3,g4,g5,g6,λi hi x _=>oR (hk r K p g4 g5 i hi x) a6T⟩
theorem PW {q:Nat->Nat} (hH:Hn d B q) (hn:n<=4) (hw:Wd d n B) (hB:Big d n B 1000000000) {K:Nat->V} {p:Nat->Nat} {r:Nat} (hK:Hn r K p) (hI:jX n d B r K) (ok:∀ i,i<r->∀ x,x<n->(K i x).natAbs<=1000000000) :
  kS (((n:Int),Mr d n B),())=some (((n:Int),Mr r n K),0,()):=by
 have hd:=(Hn.gL hH hw).1;obtain⟨m,A,a1,a2⟩:=aBC (by omega) (by omega) hw hB;obtain⟨m',A',J',K',p',r',g1,g2,g3,g4,g5,g6,g7⟩:=aA4 (by omega) hn hw (by rw[<- p9]; exact hB) a2;obtain⟨e1,_,e3⟩:=Hn.unique hK g4 λv=>(hI v).trans (g5 v).symm
 subst e1;have g2':=g2.congr (M':=K) λi hi=>(e3 i hi).symm
 have hs:=XY g2' (oM _) (by omega) (by omega) ok (n:Int);rw[List.take_of_length_le (by rw[g2'.len]; exact oM _)]at hs;have e0:eqI 0 0=true:=by decide
 simp only[kS,XR hH hw (by omega) (by omega) hB,aD,e0,Bool.not_true,oD,a1,g1,hs];rfl
theorem ZD {q:Nat->Nat} (hH:Hn d B q) (hn:n<=4) (hw:Wd d n B) (hB:Big d n B 1000000000) {K:Nat->V} {r:Nat} (hI:jX n d B r K) {S:Nat->V} {s:Nat->Nat} {t:Nat} (hS:Hn t S s) (hI2:jX n r K t S) (ok:∀ i,i<t->∀ x,x<n->(S i x).natAbs<=1000000000) :
  pN (((n:Int),Mr d n B),())=some (((n:Int),Mr t n S),0,()):=by
 have hd:=(Hn.gL hH hw).1;obtain⟨m,A,a1,a2⟩:=aBC (by omega) (by omega) hw hB;obtain⟨m',A',J',K',p',r',g1,g2,g3,g4,g5,g6,g7⟩:=aA4 (by omega) hn hw (by rw[<- p9]; exact hB) a2;obtain⟨m2,A2,J2,S',p2,t',b1,b2,b3,b4,b5,b6,b7⟩:=aJE (by omega) hn g6 g7 g2;have hsame:Same r' K' r K:=λv=>(g5 v).trans (hI v).symm
 obtain⟨e1,_,e3⟩:=Hn.unique hS b4 λv=>(hI2 v).trans ((Ker.same hsame).symm.trans (b5 v).symm)
 subst e1;have g2':=b2.congr (M':=S) λi hi=>(e3 i hi).symm
 have hs:=XY g2' (oM _) (by omega) (by omega) ok (n:Int);rw[List.take_of_length_le (by rw[g2'.len]; exact oM _)]at hs;have e0:eqI 0 0=true:=by decide
 simp only[pN,XR hH hw (by omega) (by omega) hB,aD,e0,Bool.not_true,oD,a1,g1,b1,hs];rfl
end
end Go.PM
namespace Go.PM
open Go Go.RowKit Go.Proofs Tryz
set_option maxHeartbeats 4000000
abbrev sM:List (Nat×Kd):=[(0,.list TyE),(1,.list TyE),(12,.int .i64),(13,.int .i64)]
abbrev BD:List (Ex×List (Nat×Kd)):=[(.ret,[(4,.bool)]),(.exit 0,[])]
def eR(x:Shape.den sM):oS sM BD:=match x with
 | (v0,v1,v12,v13,()) =>
  bif ltI v13 v12 then
   bif aF v13 v0.length then bif aF v13 v1.length then bif !(eqI (v0.getD v13.toNat 0) (v1.getD v13.toNat 0)) then
    some (.inr (.inl (false,())))
   else some (.inl (v0,v1,v12,(aB .i64 (v13+1)),())) else none else none
  else some (.inr (.inr ((()))))
def lJ(x:Shape.den sM):oX BD:=bF eR (2^64) x
def dC(x:aK [.list TyE,.list TyE]):oK [.bool]:=match x with
 | (v0,v1,()) =>
  bif !(eqI (v0.length:Int) (v1.length:Int)) then
   some (false,())
  else aC (lJ (v0,v1,(v0.length:Int),0,())) λz1 =>
  vB z1 (λa2=>some (a2.1,())) λb3 =>
  some (true,())
abbrev E0:Ent:=⟨62,_,_,dC⟩
theorem sL:Ent.OK tP E0:=oU (aR oW) func62 4 (lp:=lJ) rfl (by kernel_rfl) (by rintro⟨v0,v1,v12,v13,⟨⟩⟩; kernel_rfl) (by rintro⟨v0,v1,⟨⟩⟩; kernel_rfl)
def aBO(x:aK [.list TyE,.list TyE]):oK [.bool]:=match x with
 | (v0,v1,()) =>
  aC (dC (v0,v1,())) λy1 =>
  some (y1.1,())
abbrev aUW:Ent:=⟨132,_,_,aBO⟩
theorem aLE:Ent.OK tP aUW:=oI (aR (oV sL oW)) func132 (by kernel_rfl) (by rintro⟨v0,v1,⟨⟩⟩; kernel_rfl)
abbrev dE:List (Nat×Kd):=[(1,.list TyD),(2,.fn 132),(15,.list TyD),(16,.int .i64),(17,.int .i64)]
abbrev gI:List (Ex×List (Nat×Kd)):=[(.ret,[(6,.bool)]),(.exit 0,[])]
def aS(x:Shape.den dE):oS dE gI:=match x with
 | (v1,v2,v15,v16,v17,()) =>
  bif ltI v17 v16 then
   bif aF v17 v15.length then bif aF v17 v1.length then aC (aBO ((v15.getD v17.toNat []),(v1.getD v17.toNat []),())) λy2 =>
   bif y2.1 then
    some (.inl (v1,(),v15,v16,(aB .i64 (v17+1)),()))
   else some (.inr (.inl (false,()))) else none else none
  else some (.inr (.inr ((()))))
def bV(x:Shape.den dE):oX gI:=bF aS (2^64) x
def aW(x:aK [.list TyD,.list TyD,.fn 132]):oK [.bool]:=match x with
 | (v0,v1,v2,()) =>
  bif !(eqI (v0.length:Int) (v1.length:Int)) then
   some (false,())
  else aC (bV (v1,(),v0,(v0.length:Int),0,())) λz3 =>
  vB z3 (λa4=>some (a4.1,())) λb5 =>
  some (true,())
abbrev rU:Ent:=⟨131,_,_,aW⟩
theorem qJ:Ent.OK tP rU:=oU (aR (oV aLE oW)) func131 4 (lp:=bV) rfl (by kernel_rfl) (by rintro⟨v1,v2,v15,v16,v17,⟨⟩⟩; kernel_rfl) (by rintro⟨v0,v1,v2,⟨⟩⟩; kernel_rfl)
def C9(x:aK [.agg TyH,.agg TyH]):oK [.bool]:=match x with
 | (v0,v1,()) =>
  bif eqI v0.1 v1.1 then
   aC (aW (v0.2,v1.2,(),())) λy1 =>
   some (y1.1,())
  else some (false,())
abbrev aKL:Ent:=⟨75,_,_,C9⟩
theorem aDH:Ent.OK tP aKL:=oI (aR (oV qJ oW)) func75 (by kernel_rfl) (by rintro⟨v0,v1,⟨⟩⟩; kernel_rfl)
def K6(x:aK [.agg TyH,.list TyE]):oK [.bool]:=match x with
 | (v0,v1,()) =>
  aC (zH (v0,v1,())) λy1 =>
  aC (A6 (y1.1,())) λy2 =>
  some (ltI y2.1 0,())
abbrev X4:Ent:=⟨143,_,_,K6⟩
theorem TB:Ent.OK tP X4:=oI (aR (oV PN (oV I4 oW))) func143 (by kernel_rfl) (by rintro⟨v0,v1,⟨⟩⟩; kernel_rfl)
abbrev B7:List (Nat×Kd):=[(2,.ptr TyH),(3,.ptr TyH),(10,.list TyH),(11,.int .i64),(12,.int .i64)]
abbrev I6:List (Ex×List (Nat×Kd)):=[(.ret,[(4,.int .i64)]),(.exit 0,[(2,.ptr TyH),(3,.ptr TyH)])]
def nX(x:Shape.den B7):oS B7 I6:=match x with
 | (v2,v3,v10,v11,v12,()) =>
  bif ltI v12 v11 then
   bif aF v12 v10.length then aC (mK (((v10.getD v12.toNat (0,[])).1,(v10.getD v12.toNat (0,[])).2),())) λy2 =>
   bif !(eqI y2.1 0) then
    some (.inr (.inl (y2.1,())))
   else some (.inl (v2,v3,v10,v11,(aB .i64 (v12+1)),())) else none
  else some (.inr (.inr ((v2,v3,()))))
def yX(x:Shape.den B7):oX I6:=bF nX (2^64) x
def qY(x:aK [.agg TyH,.agg TyH]):oK [.int .i64]:=match x with
 | (v0,v1,()) =>
  aC (yX (v0,v1,[v0,v1],([v0,v1].length:Int),0,())) λz3 =>
  vB z3 (λa4=>some (a4.1,())) λb5 =>
  bif !(eqI b5.1.1 b5.2.1.1) then
   some (5,())
  else some (0,())
abbrev F7:Ent:=⟨117,_,_,qY⟩
theorem B9:Ent.OK tP F7:=oU (aR (oV CJ oW)) func117 2 (lp:=yX) rfl (by kernel_rfl) (by rintro⟨v2,v3,v10,v11,v12,⟨⟩⟩; kernel_rfl) (by rintro⟨v0,v1,⟨⟩⟩; kernel_rfl)
def PI(x:aK [.list TyE,.ptr TyH]):oK [.bool]:=match x with
 | (v0,v1,()) =>
  aC (K6 (v1,v0,())) λy1 =>
  bif y1.1 then
   some (false,())
  else some (true,())
abbrev aBZ:Ent:=⟨171,_,_,PI⟩
theorem XA:Ent.OK tP aBZ:=oI (aR (oV TB oW)) func171 (by kernel_rfl) (by rintro⟨v0,v1,⟨⟩⟩; kernel_rfl)
abbrev jT:List (Nat×Kd):=[(0,.list TyD),(1,.clo 171 [TyH]),(7,.int .i64),(8,.int .i64)]
abbrev qK:List (Ex×List (Nat×Kd)):=[(.ret,[(4,.int .i64)]),(.exit 0,[])]
def AG(x:Shape.den jT):oS jT qK:=match x with
 | (v0,v1,v7,v8,()) =>
  bif ltI v8 v7 then
   bif aF v8 v0.length then aC (PI ((v0.getD v8.toNat []),v1.1,())) λy2 =>
   bif y2.1 then
    some (.inr (.inl (v8,())))
   else some (.inl (v0,(v1.1,()),v7,(aB .i64 (v8+1)),())) else none
  else some (.inr (.inr ((()))))
def pR(x:Shape.den jT):oX qK:=bF AG (2^64) x
def sD(x:aK [.list TyD,.clo 171 [TyH]]):oK [.int .i64]:=match x with
 | (v0,v1,()) =>
  aC (pR (v0,(v1.1,()),(v0.length:Int),0,())) λz3 =>
  vB z3 (λa4=>some (a4.1,())) λb5 =>
  some ((-1),())
abbrev EH:Ent:=⟨100,_,_,sD⟩
theorem B8:Ent.OK tP EH:=oU (aR (oV XA oW)) func100 2 (lp:=pR) rfl (by kernel_rfl) (by rintro⟨v0,v1,v7,v8,⟨⟩⟩; kernel_rfl) (by rintro⟨v0,v1,⟨⟩⟩; kernel_rfl)
def qM(x:aK [.list TyD,.clo 171 [TyH]]):oK [.bool]:=match x with
 | (v0,v1,()) =>
  aC (sD (v0,(v1.1,()),())) λy1 =>
  some (!(ltI y1.1 0),())
abbrev BZ:Ent:=⟨43,_,_,qM⟩
theorem zN:Ent.OK tP BZ:=oI (aR (oV B8 oW)) func43 (by kernel_rfl) (by rintro⟨v0,v1,⟨⟩⟩; kernel_rfl)
def WM(x:aK [.agg TyH,.agg TyH]):oK [.bool,.int .i64]:=match x with
 | (v0,v1,()) =>
  aC (qY (v0,v1,())) λy1 =>
  bif !(eqI y1.1 0) then
   some (false,y1.1,())
  else aC (qM (v0.2,(v1,()),())) λy2 =>
  bif y2.1 then
   some (false,0,())
  else some (true,0,())
abbrev aHH:Ent:=⟨124,_,_,WM⟩
theorem aB0:Ent.OK tP aHH:=oI (aR (oV B9 (oV zN oW))) func124 (by kernel_rfl) (by rintro⟨v0,v1,⟨⟩⟩; kernel_rfl)
end Go.PM
namespace Go.PM
open Go Go.RowKit Go.Proofs Tryz
set_option maxHeartbeats 4000000
def IV(x:aK [.agg TyH,.agg TyH]):oK [.agg TyH,.int .i64]:=match x with
 | (v0,v1,()) =>
  aC (qY (v0,v1,())) λy1 =>
  bif !(eqI y1.1 0) then
   some ((0,[]),y1.1,())
  else aC (cL () (v0.2,()) []) λy2 =>
  aC (cL () (v1.2,()) y2.2) λy3 =>
  bif Nat.ble y3.1.length 1048576 then bif Nat.ble y2.1.length 1048576 then aC (cO (y2.1++y3.1) (v0.1,()) y3.2) λy4 =>
  aC (cN y4.1 (v0.1,()) y4.2) λy5 =>
  some (y5.1.1,y5.1.2.1,()) else none else none
def VV:Code:=dM f116
abbrev aC5:Env:=KE [F7] [sU,kP,kO]
theorem aG4:fR tP aC5:=l8 ⟨B9,trivial⟩ ⟨tD,lF,kY,trivial⟩
def aAI(id:Nat):Option cA:=none
theorem aEW:a8 VV=[]:=by kernel_rfl
theorem aHA:∀ x,aAL tP aC5 f116 (aO f116) aAI VV 110 .str _ _ x=IV x:=by
 rintro⟨v0,v1,⟨⟩⟩
 kernel_rfl
abbrev aOQ:Ent:=⟨116,_,_,IV⟩
theorem aHD:Ent.OK tP aOQ:=aGC bD aG4 func116 (c:=VV) (by kernel_rfl) (bG:=aO f116) (lt:=aAI) (aQ aEW trivial) aHA
end Go.PM
namespace Go.PM
open Go Go.RowKit Go.Proofs Tryz
set_option maxHeartbeats 4000000
abbrev p6:List (Nat×Kd):=[(0,.list TyE),(1,.list TyE),(12,.int .i64),(13,.int .i64)]
abbrev xY:List (Ex×List (Nat×Kd)):=[(.ret,[(4,.bool)]),(.exit 0,[])]
def dR(x:Shape.den p6):oS p6 xY:=match x with
 | (v0,v1,v12,v13,()) =>
  bif ltI v13 v12 then
   bif aF v13 v0.length then bif aF v13 v1.length then bif !(eqI (v0.getD v13.toNat 0) (v1.getD v13.toNat 0)) then
    some (.inr (.inl (false,())))
   else some (.inl (v0,v1,v12,(aB .i64 (v13+1)),())) else none else none
  else some (.inr (.inr ((()))))
def jI(x:Shape.den p6):oX xY:=bF dR (2^64) x
def cZ(x:aK [.list TyE,.list TyE]):oK [.bool]:=match x with
 | (v0,v1,()) =>
  bif !(eqI (v0.length:Int) (v1.length:Int)) then
   some (false,())
  else aC (jI (v0,v1,(v0.length:Int),0,())) λz1 =>
  vB z1 (λa2=>some (a2.1,())) λb3 =>
  some (true,())
abbrev BK:Ent:=⟨20,_,_,cZ⟩
theorem xX:Ent.OK tP BK:=oU (aR oW) func20 4 (lp:=jI) rfl (by kernel_rfl) (by rintro⟨v0,v1,v12,v13,⟨⟩⟩; kernel_rfl) (by rintro⟨v0,v1,⟨⟩⟩; kernel_rfl)
def FD(x:aK [.list TyE,.list TyE]):oK [.bool]:=match x with
 | (v0,v1,()) =>
  aC (dC (v0,v1,())) λy1 =>
  some (y1.1,())
abbrev Z6:Ent:=⟨133,_,_,FD⟩
theorem VT:Ent.OK tP Z6:=oI (aR (oV sL oW)) func133 (by kernel_rfl) (by rintro⟨v0,v1,⟨⟩⟩; kernel_rfl)
abbrev dH:List (Nat×Kd):=[(1,.list TyD),(2,.fn 133),(15,.list TyD),(16,.int .i64),(17,.int .i64)]
abbrev gJ:List (Ex×List (Nat×Kd)):=[(.ret,[(6,.bool)]),(.exit 0,[])]
def aT(x:Shape.den dH):oS dH gJ:=match x with
 | (v1,v2,v15,v16,v17,()) =>
  bif ltI v17 v16 then
   bif aF v17 v15.length then bif aF v17 v1.length then aC (FD ((v15.getD v17.toNat []),(v1.getD v17.toNat []),())) λy2 =>
   bif y2.1 then
    some (.inl (v1,(),v15,v16,(aB .i64 (v17+1)),()))
   else some (.inr (.inl (false,()))) else none else none
  else some (.inr (.inr ((()))))
def bT(x:Shape.den dH):oX gJ:=bF aT (2^64) x
def aV(x:aK [.list TyD,.list TyD,.fn 133]):oK [.bool]:=match x with
 | (v0,v1,v2,()) =>
  bif !(eqI (v0.length:Int) (v1.length:Int)) then
   some (false,())
  else aC (bT (v1,(),v0,(v0.length:Int),0,())) λz3 =>
  vB z3 (λa4=>some (a4.1,())) λb5 =>
  some (true,())
abbrev rQ:Ent:=⟨131,_,_,aV⟩
theorem qN:Ent.OK tP rQ:=oU (aR (oV VT oW)) func131 4 (lp:=bT) rfl (by kernel_rfl) (by rintro⟨v1,v2,v15,v16,v17,⟨⟩⟩; kernel_rfl) (by rintro⟨v0,v1,v2,⟨⟩⟩; kernel_rfl)
def CI(x:aK [.list TyD,.list TyD]):oK [.bool]:=match x with
 | (v0,v1,()) =>
  aC (aV (v0,v1,(),())) λy1 =>
  some (y1.1,())
abbrev aDF:Ent:=⟨77,_,_,CI⟩
theorem ZA:Ent.OK tP aDF:=oI (aR (oV qN oW)) func77 (by kernel_rfl) (by rintro⟨v0,v1,⟨⟩⟩; kernel_rfl)
abbrev IU:List (Nat×Kd):=[(0,.int .i64),(3,.int .i64)]
abbrev RH:List (Ex×List (Nat×Kd)):=[(.ret,[(2,.bool)]),(.exit 0,[])]
def Z1(x:Shape.den IU):oS IU RH:=match x with
 | (v0,v3,()) =>
  bif !(ltI v0 (aB .i64 (v3*v3))) then
   bif eqI v3 0 then none else bif eqI (v0.tmod v3) 0 then
    some (.inr (.inl (false,())))
   else some (.inl (v0,(aB .i64 (v3+1)),()))
  else some (.inr (.inr ((()))))
def NI(x:Shape.den IU):oX RH:=bF Z1 (2^64) x
def YN(x:aK [.int .i64]):oK [.bool]:=match x with
 | (v0,()) =>
  bif ltI v0 2 then
   some (false,())
  else bif ltI 97 v0 then
   some (false,())
  else aC (NI (v0,2,())) λz1 =>
  vB z1 (λa2=>some (a2.1,())) λb3 =>
  some (true,())
abbrev aJG:Ent:=⟨48,_,_,YN⟩
theorem aC6:Ent.OK tP aJG:=oU (aR oW) func48 4 (lp:=NI) rfl (by kernel_rfl) (by rintro⟨v0,v3,⟨⟩⟩; kernel_rfl) (by rintro⟨v0,⟨⟩⟩; kernel_rfl)
abbrev MG:List (Nat×Kd):=[(0,.list TyE),(13,.list TyE),(14,.int .i64),(15,.int .i64)]
abbrev WR:List (Ex×List (Nat×Kd)):=[(.ret,[(2,.int .i64)]),(.exit 1,[])]
def aEL(x:Shape.den MG):oS MG WR:=match x with
 | (v0,v13,v14,v15,()) =>
  bif ltI v15 v14 then
   bif aF v15 v13.length then aC (YN ((v13.getD v15.toNat 0),())) λy2 =>
   bif y2.1 then
    bif ltI 0 v15 then
     bif aF (aB .i64 (v15-1)) v0.length then bif !(ltI (v0.getD ((aB .i64 (v15-1)).toNat) 0) (v13.getD v15.toNat 0)) then
      some (.inr (.inl (6,())))
     else some (.inl (v0,v13,v14,(aB .i64 (v15+1)),())) else none
    else some (.inl (v0,v13,v14,(aB .i64 (v15+1)),()))
   else some (.inr (.inl (25,()))) else none
  else some (.inr (.inr ((()))))
def RV(x:Shape.den MG):oX WR:=bF aEL (2^64) x
def pI(x:aK [.list TyE]):oK [.int .i64]:=match x with
 | (v0,()) =>
  bif eqI (v0.length:Int) 0 then
   some (13,())
  else bif ltI 6 (v0.length:Int) then
   some (4,())
  else aC (RV (v0,v0,(v0.length:Int),0,())) λz3 =>
  vB z3 (λa4=>some (a4.1,())) λb5 =>
  some (0,())
abbrev aPQ:Ent:=⟨32,_,_,pI⟩
theorem L7:Ent.OK tP aPQ:=oU (aR (oV aC6 oW)) func32 6 (lp:=RV) rfl (by kernel_rfl) (by rintro⟨v0,v13,v14,v15,⟨⟩⟩; kernel_rfl) (by rintro⟨v0,⟨⟩⟩; kernel_rfl)
def dY(x:aK [.agg TyG]):oK [.int .i64]:=match x with
 | (v0,()) =>
  aC (pI (v0.1,())) λy1 =>
  bif !(eqI y1.1 0) then
   some (y1.1,())
  else aC (mK (((v0.1.length:Int),v0.2.1),())) λy2 =>
  bif !(eqI y2.1 0) then
   some (y2.1,())
  else aC (pN (((v0.1.length:Int),v0.2.1),())) λy3 =>
  bif !(eqI y3.2.1 0) then
   some (7,())
  else aC (C9 (y3.1,((v0.1.length:Int),v0.2.1),())) λy4 =>
  bif y4.1 then
   aC (kS (((v0.1.length:Int),v0.2.1),())) λy5 =>
   bif !(eqI y5.2.1 0) then
    some (14,())
   else aC (CI (y5.1.2,v0.2.2,())) λy6 =>
   bif y6.1 then
    some (0,())
   else some (14,())
  else some (7,())
abbrev PA:Ent:=⟨24,_,_,dY⟩
theorem BX:Ent.OK tP PA:=oI (aR (oV zE (oV CJ (oV aDH (oV C8 (oV L7 (oV ZA oW))))))) func24 (by kernel_rfl) (by rintro⟨v0,⟨⟩⟩; kernel_rfl)
abbrev B1:List (Nat×Kd):=[(2,.box 35 TyG),(14,.list TyD),(15,.int .i64),(16,.int .i64)]
abbrev I5:List (Ex×List (Nat×Kd)):=[(.ret,[(4,.int .i64)]),(.exit 0,[])]
def sI(x:Shape.den B1):oS B1 I5:=match x with
 | (v2,v14,v15,v16,()) =>
  bif ltI v16 v15 then
   bif aF v16 v14.length then aC (F9 ((v14.getD v16.toNat []),())) λy3 =>
   bif !(eqI y3.1 0) then
    some (.inr (.inl (y3.1,())))
   else bif !(eqI ((v14.getD v16.toNat []).length:Int) (v2.1.length:Int)) then
    some (.inr (.inl (5,())))
   else some (.inl (v2,v14,v15,(aB .i64 (v16+1)),())) else none
  else some (.inr (.inr ((()))))
def yU(x:Shape.den B1):oX I5:=bF sI (2^64) x
def AK(x:aK [.agg TyG,.list TyD]):oK [.int .i64]:=match x with
 | (v0,v1,()) =>
  aC (dY (v0,())) λy1 =>
  bif !(eqI y1.1 0) then
   some (y1.1,())
  else aC (yU (v0,v1,(v1.length:Int),0,())) λz4 =>
  vB z4 (λa5=>some (a5.1,())) λb6 =>
  some (0,())
abbrev aBQ:Ent:=⟨78,_,_,AK⟩
theorem WZ:Ent.OK tP aBQ:=oU (aR (oV aAN (oV BX oW))) func78 5 (lp:=yU) rfl (by kernel_rfl) (by rintro⟨v2,v14,v15,v16,⟨⟩⟩; kernel_rfl) (by rintro⟨v0,v1,⟨⟩⟩; kernel_rfl)
abbrev lL:List (Nat×Kd):=[(1,.list TyE),(5,.own 110 .str),(7,.list TyE),(8,.str),(12,.list TyD),(13,.int .i64),(14,.int .i64),(18,.list TyE),(19,.int .i64),(20,.int .i64)]
abbrev pD:List (Ex×List (Nat×Kd)):=[(.exit 2,[(1,.list TyE),(5,.own 110 .str),(8,.str),(12,.list TyD),(13,.int .i64),(14,.int .i64)])]
def mJ(x:Shape.den lL):oS lL pD:=match x with
 | (v1,v5,v7,v8,v12,v13,v14,v18,v19,v20,()) =>
  bif ltI v20 v19 then
   bif aF v20 v18.length then aC (jK ((v18.getD v20.toNat 0),())) λy5 =>
   bif aF v20 v7.length then aC (jK ((v7.getD v20.toNat 0),())) λy6 =>
   aC (JK (y5.1,y6.1,())) λy7 =>
   aC (P8 (v8,y7.1,())) λy8 =>
   some (.inl (v1,v5,v7,y8.1,v12,v13,v14,v18,v19,(aB .i64 (v20+1)),())) else none else none
  else some (.inr ((v1,v5,v8,v12,v13,v14,())))
def mH(x:Shape.den lL):oX pD:=bF mJ (2^64) x
abbrev lI:List (Nat×Kd):=[(1,.list TyE),(5,.own 110 .str),(12,.list TyD),(13,.int .i64),(14,.int .i64)]
abbrev pE:List (Ex×List (Nat×Kd)):=[(.exit 0,[(5,.own 110 .str)])]
def mG(x:Shape.den lI):oS lI pE:=match x with
 | (v1,v5,v12,v13,v14,()) =>
  bif ltI v14 v13 then
   bif aF v14 v12.length then aC (mH (v1,v5,(v12.getD v14.toNat []),(ByteArray.mk #[48]),v12,v13,v14,v1,(v1.length:Int),0,())) λz10 =>
   bif Nat.ble [z10.2.2.1].length 1048576 then bif Nat.ble z10.2.1.length 1048576 then some (.inl (z10.1,(z10.2.1++[z10.2.2.1]),z10.2.2.2.1,z10.2.2.2.2.1,(aB .i64 (z10.2.2.2.2.2.1+1)),())) else none else none else none
  else some (.inr ((v5,())))
def rB(x:Shape.den lI):oX pE:=bF mG (2^64) x
def yG(x:aK [.agg TyG,.list TyE]):oK [.list .str]:=match x with
 | (v0,v1,()) =>
  aC (rB (v1,[],v0.2.2,(v0.2.2.length:Int),0,())) λz11 =>
  some (z11.1,())
def M7:Code:=dM f80
abbrev FA:Env:=JB [aII,U3,aE9]
theorem AI:fR tP FA:=aR ⟨aAW,R3,EG,trivial⟩
def qF:Code:=iD M7 0
def CE:Code:=iD qF 0
def DF(id:Nat):Option cA:=bif Nat.beq id 7 then some ⟨lL,pD,mH⟩ else bif Nat.beq id 3 then some ⟨lI,pE,rB⟩ else none
theorem QS:∀ x,jU tP FA 42 (aO f80) DF CE lL pD x=mJ x:=by
 rintro⟨v1,v5,v7,v8,v12,v13,v14,v18,v19,v20,⟨⟩⟩
 kernel_rfl
theorem SQ:eS tP 42 CE ⟨lL,pD,mH⟩:=fF AI.callee bD.mixed _ (aQ (l:=[]) (by kernel_rfl) trivial) QS
theorem QZ:∀ x,jU tP FA 42 (aO f80) DF qF lI pE x=mG x:=by
 rintro⟨v1,v5,v12,v13,v14,⟨⟩⟩
 kernel_rfl
theorem U1:a8 qF=[CE]:=by kernel_rfl
theorem SE:eS tP 42 qF ⟨lI,pE,rB⟩:=fF AI.callee bD.mixed _ (aQ U1 ⟨fD (i:=7) (by kernel_rfl) rfl SQ,trivial⟩) QZ
abbrev aAF:Ent:=⟨80,_,_,yG⟩
theorem UT:Ent.OK tP aAF:=aFF bD AI func80 (c:=M7) (by kernel_rfl) (bG:=aO f80) (lt:=DF) (aQ (l:=[qF]) (by kernel_rfl) ⟨fD (i:=3) (by kernel_rfl) rfl SE,trivial⟩) (by rintro⟨v0,v1,⟨⟩⟩; kernel_rfl)
def vR(x:aK [.str]):oK [.bool]:=match x with
 | (v0,()) =>
  some (!(eqS v0 (ByteArray.mk #[48])),())
abbrev Q8:Ent:=⟨81,_,_,vR⟩
theorem MM:Ent.OK tP Q8:=oI (aR oW) func81 (by kernel_rfl) (by rintro⟨v0,⟨⟩⟩; kernel_rfl)
abbrev lK:List (Nat×Kd):=[(0,.list .str),(1,.fn 81),(7,.int .i64),(8,.int .i64)]
abbrev sJ:List (Ex×List (Nat×Kd)):=[(.ret,[(4,.int .i64)]),(.exit 0,[])]
def cI(x:Shape.den lK):oS lK sJ:=match x with
 | (v0,v1,v7,v8,()) =>
  bif ltI v8 v7 then
   bif aF v8 v0.length then aC (vR ((v0.getD v8.toNat ByteArray.empty),())) λy2 =>
   bif y2.1 then
    some (.inr (.inl (v8,())))
   else some (.inl (v0,(),v7,(aB .i64 (v8+1)),())) else none
  else some (.inr (.inr ((()))))
def fC(x:Shape.den lK):oX sJ:=bF cI (2^64) x
def iS(x:aK [.list .str,.fn 81]):oK [.int .i64]:=match x with
 | (v0,v1,()) =>
  aC (fC (v0,(),(v0.length:Int),0,())) λz3 =>
  vB z3 (λa4=>some (a4.1,())) λb5 =>
  some ((-1),())
abbrev GF:Ent:=⟨134,_,_,iS⟩
theorem ES:Ent.OK tP GF:=oU (aR (oV MM oW)) func134 2 (lp:=fC) rfl (by kernel_rfl) (by rintro⟨v0,v1,v7,v8,⟨⟩⟩; kernel_rfl) (by rintro⟨v0,v1,⟨⟩⟩; kernel_rfl)
def dW(x:aK [.list .str,.fn 81]):oK [.bool]:=match x with
 | (v0,v1,()) =>
  aC (iS (v0,(),())) λy1 =>
  some (!(ltI y1.1 0),())
abbrev EF:Ent:=⟨79,_,_,dW⟩
theorem BW:Ent.OK tP EF:=oI (aR (oV ES oW)) func79 (by kernel_rfl) (by rintro⟨v0,v1,⟨⟩⟩; kernel_rfl)
def kN(x:aK [.agg TyG,.list TyE]):oK [.bool,.int .i64]:=match x with
 | (v0,v1,()) =>
  aC (AK (v0,[v1],())) λy1 =>
  bif !(eqI y1.1 0) then
   some (false,y1.1,())
  else aC (yG (v0,v1,())) λy2 =>
  aC (dW (y2.1,(),())) λy3 =>
  bif y3.1 then
   some (false,0,())
  else some (true,0,())
abbrev S5:Ent:=⟨26,_,_,kN⟩
theorem O6:Ent.OK tP S5:=oI (aR (oV BW (oV WZ (oV UT oW)))) func26 (by kernel_rfl) (by rintro⟨v0,v1,⟨⟩⟩; kernel_rfl)
def CK(x:aK [.list TyE,.list TyD]):oK [.list TyD,.list TyD,.int .i64]:=match x with
 | (v0,v1,()) =>
  aC (pI (v0,())) λy1 =>
  bif !(eqI y1.1 0) then
   some ([],[],y1.1,())
  else aC (DE ((v0.length:Int),v1,())) λy2 =>
  bif !(eqI y2.2.1 0) then
   some ([],[],y2.2.1,())
  else aC (pN (y2.1,())) λy3 =>
  bif !(eqI y3.2.1 0) then
   some ([],[],y3.2.1,())
  else aC (kS (y2.1,())) λy4 =>
  some (y3.1.2,y4.1.2,y4.2.1,())
abbrev aD4:Ent:=⟨94,_,_,CK⟩
theorem Y3:Ent.OK tP aD4:=oI (aR (oV zE (oV ZK (oV C8 (oV L7 oW))))) func94 (by kernel_rfl) (by rintro⟨v0,v1,⟨⟩⟩; kernel_rfl)
def mS(x:aK [.list TyE]):oK [.list TyE]:=match x with
 | (v0,()) =>
  bif Nat.blt 0 v0.length then bif Nat.ble v0.length 1048576 then some (v0,()) else none else none
abbrev M3:Ent:=⟨95,_,_,mS⟩
theorem IY:Ent.OK tP M3:=oI (aR oW) func95 (by kernel_rfl) (by rintro⟨v0,⟨⟩⟩; kernel_rfl)
def cM(x:aK [.list TyE,.list TyD]):oK [.agg TyG,.int .i64]:=match x with
 | (v0,v1,()) =>
  aC (CK (v0,v1,())) λy1 =>
  bif !(eqI y1.2.2.1 0) then
   some (([],([],[])),y1.2.2.1,())
  else aC (mS (v0,())) λy2 =>
  some ((y2.1,(y1.1,y1.2.1)),0,())
abbrev yM:Ent:=⟨39,_,_,cM⟩
theorem pT:Ent.OK tP yM:=oI (aR (oV IY (oV Y3 oW))) func39 (by kernel_rfl) (by rintro⟨v0,v1,⟨⟩⟩; kernel_rfl)
end Go.PM
namespace Go.PM
open Go Go.RowKit Go.Proofs Tryz
set_option maxHeartbeats 4000000
def D1(x:aK [.int .u8]):oK [.list TyE]:=match x with
 | (v0,()) =>
  bif eqI ([[2,3,5],[2,3,5,7],[2,3],[2,3,7],[2,5,7],[3,5,7],[2,3,5,11],[2],[2,3,7,13],[3,5,7,13]].length:Int) 0 then none else bif aF ((IntKind.wrap .i64 v0).tmod ([[2,3,5],[2,3,5,7],[2,3],[2,3,7],[2,5,7],[3,5,7],[2,3,5,11],[2],[2,3,7,13],[3,5,7,13]].length:Int)) [[2,3,5],[2,3,5,7],[2,3],[2,3,7],[2,5,7],[3,5,7],[2,3,5,11],[2],[2,3,7,13],[3,5,7,13]].length then some (([[2,3,5],[2,3,5,7],[2,3],[2,3,7],[2,5,7],[3,5,7],[2,3,5,11],[2],[2,3,7,13],[3,5,7,13]].getD (((IntKind.wrap .i64 v0).tmod ([[2,3,5],[2,3,5,7],[2,3],[2,3,7],[2,5,7],[3,5,7],[2,3,5,11],[2],[2,3,7,13],[3,5,7,13]].length:Int)).toNat) []),()) else none
abbrev ZB:Ent:=⟨63,_,_,D1⟩
theorem TX:Ent.OK tP ZB:=oI (aR oW) func63 (by kernel_rfl) (by rintro⟨v0,⟨⟩⟩; kernel_rfl)
abbrev vP:List (Nat×Kd):=[(0,.list TyE),(3,.box 52 TyI),(5,.own 3 TyE),(6,.int .i64)]
abbrev E4:List (Ex×List (Nat×Kd)):=[(.exit 0,[(5,.own 3 TyE)])]
def o4(x:Shape.den vP):oS vP E4:=match x with
 | (v0,v3,v5,v6,()) =>
  bif ltI v6 (v0.length:Int) then
   bif ltI v6 4 then
    bif eqI v6 0 then
     bif Nat.ble [((IntKind.wrap .i64 v3.1).tmod 10)].length 1048576 then bif Nat.ble v5.length 1048576 then some (.inl (v0,v3,(v5++[((IntKind.wrap .i64 v3.1).tmod 10)]),(aB .i64 (v6+1)),())) else none else none
    else bif eqI v6 1 then
     bif Nat.ble [((IntKind.wrap .i64 v3.2.1).tmod 10)].length 1048576 then bif Nat.ble v5.length 1048576 then some (.inl (v0,v3,(v5++[((IntKind.wrap .i64 v3.2.1).tmod 10)]),(aB .i64 (v6+1)),())) else none else none
    else bif eqI v6 2 then
     bif Nat.ble [((IntKind.wrap .i64 v3.2.2.1).tmod 10)].length 1048576 then bif Nat.ble v5.length 1048576 then some (.inl (v0,v3,(v5++[((IntKind.wrap .i64 v3.2.2.1).tmod 10)]),(aB .i64 (v6+1)),())) else none else none
    else bif eqI v6 3 then bif Nat.ble [((IntKind.wrap .i64 v3.2.2.2).tmod 10)].length 1048576 then bif Nat.ble v5.length 1048576 then some (.inl (v0,v3,(v5++[((IntKind.wrap .i64 v3.2.2.2).tmod 10)]),(aB .i64 (v6+1)),())) else none else none else none
   else some (.inr ((v5,())))
  else some (.inr ((v5,())))
def sX(x:Shape.den vP):oX E4:=bF o4 (2^64) x
def sZ(x:aK [.list TyE,.agg TyI]):oK [.list TyE]:=match x with
 | (v0,v1,()) =>
  aC (sX (v0,v1,[],0,())) λz1 =>
  some (z1.1,())
abbrev U2:Ent:=⟨64,_,_,sZ⟩
theorem Q0:Ent.OK tP U2:=oU (aR oW) func64 3 (lp:=sX) rfl (by kernel_rfl) (by rintro⟨v0,v3,v5,v6,⟨⟩⟩; kernel_rfl) (by rintro⟨v0,v1,⟨⟩⟩; kernel_rfl)
def pX(x:aK [.list TyE,.list TyD,.bool]):oK [.agg TyG,.int .i64]:=match x with
 | (v0,v1,v2,()) =>
  aC (pI (v0,())) λy1 =>
  bif !(eqI y1.1 0) then
   some (([],([],[])),y1.1,())
  else aC (DE ((v0.length:Int),v1,())) λy2 =>
  bif !(eqI y2.2.1 0) then
   some (([],([],[])),y2.2.1,())
  else aC (pN (y2.1,())) λy3 =>
  aC (kS (y2.1,())) λy4 =>
  bif !(eqI y3.2.1 0) then
   some (([],([],[])),4,())
  else bif !(eqI y4.2.1 0) then
   some (([],([],[])),4,())
  else bif v2 then
   some ((v0,(y4.1.2,y3.1.2)),0,())
  else some ((v0,(y3.1.2,y4.1.2)),0,())
abbrev Z0:Ent:=⟨65,_,_,pX⟩
theorem VY:Ent.OK tP Z0:=oI (aR (oV zE (oV ZK (oV C8 (oV L7 oW))))) func65 (by kernel_rfl) (by rintro⟨v0,v1,v2,⟨⟩⟩; kernel_rfl)
abbrev B3:List (Nat×Kd):=[(1,.box 24 TyP),(2,.box 35 TyG),(3,.list TyE),(4,.own 53 TyD),(5,.int .i64)]
abbrev I2:List (Ex×List (Nat×Kd)):=[(.exit 0,[(1,.box 24 TyP),(2,.box 35 TyG),(3,.list TyE),(4,.own 53 TyD)])]
def sK(x:Shape.den B3):oS B3 I2:=match x with
 | (v1,v2,v3,v4,v5,()) =>
  bif ltI v5 (v1.2.1.length:Int) then
   bif ltI v5 3 then
    bif aF v5 v1.2.1.length then aC (sZ (v3,((v1.2.1.getD v5.toNat (0,(0,(0,0)))).1,((v1.2.1.getD v5.toNat (0,(0,(0,0)))).2.1,((v1.2.1.getD v5.toNat (0,(0,(0,0)))).2.2.1,(v1.2.1.getD v5.toNat (0,(0,(0,0)))).2.2.2))),())) λy3 =>
    bif Nat.ble [y3.1].length 1048576 then bif Nat.ble v4.length 1048576 then some (.inl (v1,v2,v3,(v4++[y3.1]),(aB .i64 (v5+1)),())) else none else none else none
   else some (.inr ((v1,v2,v3,v4,())))
  else some (.inr ((v1,v2,v3,v4,())))
def yQ(x:Shape.den B3):oX I2:=bF sK (2^64) x
def nA(x:aK [.agg TyP]):oK [.agg TyG]:=match x with
 | (v0,()) =>
  aC (D1 (v0.1,())) λy1 =>
  aC (yQ (v0,([],([],[])),y1.1,[],0,())) λz4 =>
  aC (pX (z4.2.2.1,z4.2.2.2.1,z4.1.2.2,())) λy5 =>
  some (y5.1,())
abbrev aBD:Ent:=⟨15,_,_,nA⟩
theorem WV:Ent.OK tP aBD:=oU (aR (oV Q0 (oV TX (oV VY oW)))) func15 4 (lp:=yQ) rfl (by kernel_rfl) (by rintro⟨v1,v2,v3,v4,v5,⟨⟩⟩; kernel_rfl) (by rintro⟨v0,⟨⟩⟩; kernel_rfl)
def uW(x:aK [.agg TyP]):oK [.bool]:=match x with
 | (v0,()) =>
  some (!(ltI 3 (v0.2.1.length:Int)),())
abbrev aB1:Ent:=⟨13,_,_,uW⟩
theorem XG:Ent.OK tP aB1:=oI (aR oW) func13 (by kernel_rfl) (by rintro⟨v0,⟨⟩⟩; kernel_rfl)
def tZ(x:aK [.agg TyQ]):oK [.agg TyG,.agg TyG]:=match x with
 | (v0,()) =>
  bif v0.2.2 then
   aC (nA (v0.1,())) λy1 =>
   aC (nA ((v0.1.1,v0.2.1.2),())) λy2 =>
   some (y1.1,y2.1,())
  else aC (nA (v0.1,())) λy3 =>
  aC (nA (v0.2.1,())) λy4 =>
  some (y3.1,y4.1,())
abbrev aBX:Ent:=⟨14,_,_,tZ⟩
theorem XB:Ent.OK tP aBX:=oI (aR (oV WV oW)) func14 (by kernel_rfl) (by rintro⟨v0,⟨⟩⟩; kernel_rfl)
def uP(x:aK [.agg TyQ]):oK [.bool]:=match x with
 | (v0,()) =>
  aC (uW (v0.1,())) λy1 =>
  bif y1.1 then
   aC (uW (v0.2.1,())) λy2 =>
   some (y2.1,())
  else some (false,())
abbrev aB6:Ent:=⟨12,_,_,uP⟩
theorem XI:Ent.OK tP aB6:=oI (aR (oV XG oW)) func12 (by kernel_rfl) (by rintro⟨v0,⟨⟩⟩; kernel_rfl)
abbrev nZ:List (Nat×Kd):=[(0,.list TyG),(8,.list TyG),(9,.int .i64),(10,.int .i64)]
abbrev rP:List (Ex×List (Nat×Kd)):=[(.ret,[(2,.int .i64)]),(.exit 0,[(0,.list TyG)])]
def pU(x:Shape.den nZ):oS nZ rP:=match x with
 | (v0,v8,v9,v10,()) =>
  bif ltI v10 v9 then
   bif aF v10 v8.length then aC (dY (((v8.getD v10.toNat ([],([],[]))).1,((v8.getD v10.toNat ([],([],[]))).2.1,(v8.getD v10.toNat ([],([],[]))).2.2)),())) λy2 =>
   bif !(eqI y2.1 0) then
    some (.inr (.inl (y2.1,())))
   else some (.inl (v0,v8,v9,(aB .i64 (v10+1)),())) else none
  else some (.inr (.inr ((v0,()))))
def tF(x:Shape.den nZ):oX rP:=bF pU (2^64) x
abbrev nF:List (Nat×Kd):=[(0,.list TyG),(20,.list TyG),(21,.int .i64),(22,.int .i64)]
abbrev rV:List (Ex×List (Nat×Kd)):=[(.ret,[(2,.int .i64)]),(.exit 2,[])]
def iV(x:Shape.den nF):oS nF rV:=match x with
 | (v0,v20,v21,v22,()) =>
  bif ltI v22 v21 then
   bif aF v22 v20.length then bif aF 0 v0.length then aC (cZ ((v20.getD v22.toNat ([],([],[]))).1,(v0.getD 0 ([],([],[]))).1,())) λy7 =>
   bif y7.1 then
    some (.inl (v0,v20,v21,(aB .i64 (v22+1)),()))
   else some (.inr (.inl (14,()))) else none else none
  else some (.inr (.inr ((()))))
def pH(x:Shape.den nF):oX rV:=bF iV (2^64) x
def j9(x:aK [.list TyG]):oK [.int .i64]:=match x with
 | (v0,()) =>
  aC (tF (v0,v0,(v0.length:Int),0,())) λz3 =>
  vB z3 (λa4=>some (a4.1,())) λb5 =>
  aC (pH (b5.1,b5.1,(b5.1.length:Int),0,())) λz8 =>
  vB z8 (λa9=>some (a9.1,())) λb10 =>
  some (0,())
def HV:Code:=dM f66
abbrev IQ:Env:=JB [BK,PA]
theorem CV:fR tP IQ:=aR ⟨xX,BX,trivial⟩
def FC:Code:=iD HV 0
def FB:Code:=iD HV 1
def GA(id:Nat):Option cA:=bif Nat.beq id 2 then some ⟨nZ,rP,tF⟩ else bif Nat.beq id 9 then some ⟨nF,rV,pH⟩ else none
theorem S6:∀ x,jU tP IQ 35 (aO f66) GA FC nZ rP x=pU x:=by
 rintro⟨v0,v8,v9,v10,⟨⟩⟩
 kernel_rfl
theorem WA:eS tP 35 FC ⟨nZ,rP,tF⟩:=fF CV.callee bD.mixed _ (aQ (l:=[]) (by kernel_rfl) trivial) S6
theorem TR:∀ x,jU tP IQ 35 (aO f66) GA FB nF rV x=iV x:=by
 rintro⟨v0,v20,v21,v22,⟨⟩⟩
 kernel_rfl
theorem VU:eS tP 35 FB ⟨nF,rV,pH⟩:=fF CV.callee bD.mixed _ (aQ (l:=[]) (by kernel_rfl) trivial) TR
abbrev aEJ:Ent:=⟨66,_,_,j9⟩
theorem C7:Ent.OK tP aEJ:=aFF bD CV func66 (c:=HV) (by kernel_rfl) (bG:=aO f66) (lt:=GA) (aQ (l:=[FC,FB]) (by kernel_rfl) ⟨fD (i:=2) (by kernel_rfl) rfl WA,fD (i:=9) (by kernel_rfl) rfl VU,trivial⟩) (by rintro⟨v0,⟨⟩⟩; kernel_rfl)
def iX(x:aK [.agg TyG]):oK [.agg TyH]:=match x with
 | (v0,()) =>
  some (((v0.1.length:Int),v0.2.1),())
abbrev aA7:Ent:=⟨69,_,_,iX⟩
theorem CA:Ent.OK tP aA7:=oI (aR oW) func69 (by kernel_rfl) (by rintro⟨v0,⟨⟩⟩; kernel_rfl)
def M9(x:aK [.agg TyG,.agg TyG]):oK [.bool,.int .i64]:=match x with
 | (v0,v1,()) =>
  aC (iX (v0,())) λy1 =>
  aC (iX (v1,())) λy2 =>
  aC (WM (y1.1,y2.1,())) λy3 =>
  some (y3.1,y3.2.1,())
abbrev aAB:Ent:=⟨70,_,_,M9⟩
theorem U9:Ent.OK tP aAB:=oI (aR (oV aB0 (oV CA oW))) func70 (by kernel_rfl) (by rintro⟨v0,v1,⟨⟩⟩; kernel_rfl)
def yC(x:aK [.agg TyG,.agg TyG]):oK [.bool,.int .i64]:=match x with
 | (v0,v1,()) =>
  aC (j9 ([v0,v1],())) λy1 =>
  bif !(eqI y1.1 0) then
   some (false,y1.1,())
  else aC (M9 (v0,v1,())) λy2 =>
  some (y2.1,y2.2.1,())
abbrev NA:Ent:=⟨18,_,_,yC⟩
theorem IN:Ent.OK tP NA:=oI (aR (oV C7 (oV U9 oW))) func18 (by kernel_rfl) (by rintro⟨v0,v1,⟨⟩⟩; kernel_rfl)
def NG(x:aK [.agg TyG,.agg TyG]):oK [.int .i64]:=match x with
 | (v0,v1,()) =>
  aC (yC (v0,v1,())) λy1 =>
  bif !(eqI y1.2.1 0) then
   some (y1.2.1,())
  else bif y1.1 then
   some (0,())
  else some (6,())
abbrev Z4:Ent:=⟨82,_,_,NG⟩
theorem VS:Ent.OK tP Z4:=oI (aR (oV IN oW)) func82 (by kernel_rfl) (by rintro⟨v0,v1,⟨⟩⟩; kernel_rfl)
def HR(x:aK [.agg TyG,.agg TyG]):oK [.int .i64,.int .i64]:=match x with
 | (v0,v1,()) =>
  aC (NG (v0,v1,())) λy1 =>
  bif !(eqI y1.1 0) then
   some (0,y1.1,())
  else some ((aB .i64 ((v1.2.1.length:Int)-(v0.2.1.length:Int))),0,())
abbrev RN:Ent:=⟨27,_,_,HR⟩
theorem XW:Ent.OK tP RN:=oI (aR (oV VS oW)) func27 (by kernel_rfl) (by rintro⟨v0,v1,⟨⟩⟩; kernel_rfl)
abbrev xV:List (Nat×Kd):=[(3,.box 35 TyG),(10,.list TyD),(11,.int .i64),(12,.int .i64)]
abbrev FJ:List (Ex×List (Nat×Kd)):=[(.ret,[(4,.bool)]),(.exit 0,[])]
def gS(x:Shape.den xV):oS xV FJ:=match x with
 | (v3,v10,v11,v12,()) =>
  bif ltI v12 v11 then
   bif aF v12 v10.length then aC (kN (v3,(v10.getD v12.toNat []),())) λy2 =>
   bif !(eqI y2.2.1 0) then
    some (.inr (.inl (false,())))
   else bif y2.1 then
    some (.inl (v3,v10,v11,(aB .i64 (v12+1)),()))
   else some (.inr (.inl (false,()))) else none
  else some (.inr (.inr ((()))))
def pG(x:Shape.den xV):oX FJ:=bF gS (2^64) x
def mB(x:aK [.agg TyG,.agg TyG]):oK [.bool]:=match x with
 | (v0,v1,()) =>
  aC (pG (v1,v0.2.1,(v0.2.1.length:Int),0,())) λz3 =>
  vB z3 (λa4=>some (a4.1,())) λb5 =>
  some (true,())
abbrev WU:Ent:=⟨25,_,_,mB⟩
theorem SX:Ent.OK tP WU:=oU (aR (oV O6 oW)) func25 2 (lp:=pG) rfl (by kernel_rfl) (by rintro⟨v3,v10,v11,v12,⟨⟩⟩; kernel_rfl) (by rintro⟨v0,v1,⟨⟩⟩; kernel_rfl)
end Go.PM
namespace Go.PM
open Go Go.RowKit Go.Proofs Tryz
set_option maxHeartbeats 4000000
def cE(x:aK [.nil0,.int .i64]):Option (List ByteArray):=match x with
 | (v0,v1,()) =>
  bif ltI v1 0 then none else bif ltI 0 (aB .i64 (v1-0)) then
   bif !(ltI (aB .i64 (v1-0)) 0) then bif !(ltI 1048576 (aB .i64 (v1-0))) then bif Nat.ble 0 0 then bif Nat.ble 0 ((List.replicate (aB .i64 (v1-0)).toNat (ByteArray.empty:Ty.den .str)).length) then bif Nat.blt 0 ((List.replicate (aB .i64 (v1-0)).toNat (ByteArray.empty:Ty.den .str)).length) then some ((List.replicate (aB .i64 (v1-0)).toNat (ByteArray.empty:Ty.den .str)).take (0-0)) else none else none else none else none else none
  else some []
def mN:Code:=dM f162
abbrev tN:Env:=JB []
theorem D7:fR tP tN:=aR trivial
def sR(id:Nat):Option cA:=none
theorem CU:a8 mN=[]:=by kernel_rfl
theorem CY:∀ x,aMI tP tN f162 (aO f162) sR mN [.nil0,.int .i64] 4 110 .str x=cE x:=by
 rintro⟨v0,v1,⟨⟩⟩
 kernel_rfl
theorem E7:aKH tP 162 [.nil0,.int .i64] 110 .str cE:=aH5 bD D7 func162 (c:=mN) (by kernel_rfl) (bG:=aO f162) (lt:=sR) (t:=4) (by kernel_rfl) (aQ CU trivial) CY
abbrev tQ:Shr:=(162,aXO [.nil0,.int .i64] 110 .str cE)
theorem CZ:uT tP tQ:=aH0 E7
abbrev cC:List (Nat×Kd):=[(0,.list (.list .str)),(3,.int .i64),(9,.list (.list .str)),(10,.int .i64),(11,.int .i64)]
abbrev dD:List (Ex×List (Nat×Kd)):=[(.exit 0,[(0,.list (.list .str)),(3,.int .i64)])]
def bY(x:Shape.den cC):oS cC dD:=match x with
 | (v0,v3,v9,v10,v11,()) =>
  bif ltI v11 v10 then
   bif aF v11 v9.length then bif ltI (aB .i64 (v3+((v9.getD v11.toNat []).length:Int))) 0 then none else some (.inl (v0,(aB .i64 (v3+((v9.getD v11.toNat []).length:Int))),v9,v10,(aB .i64 (v11+1)),())) else none
  else some (.inr ((v0,v3,())))
def eH(x:Shape.den cC):oX dD:=bF bY (2^64) x
abbrev cB:List (Nat×Kd):=[(6,.own 110 .str),(25,.list (.list .str)),(26,.int .i64),(27,.int .i64)]
abbrev dG:List (Ex×List (Nat×Kd)):=[(.exit 2,[(6,.own 110 .str)])]
def b8(x:Shape.den cB):oS cB dG:=match x with
 | (v6,v25,v26,v27,()) =>
  bif ltI v27 v26 then
   bif aF v27 v25.length then bif Nat.ble (v25.getD v27.toNat []).length 1048576 then bif Nat.ble v6.length 1048576 then some (.inl ((v6++(v25.getD v27.toNat [])),v25,v26,(aB .i64 (v27+1)),())) else none else none else none
  else some (.inr ((v6,())))
def eL(x:Shape.den cB):oX dG:=bF b8 (2^64) x
def b9(x:aK [.list (.list .str)]):Option (List ByteArray):=match x with
 | (v0,()) =>
  aC (eH (v0,0,v0,(v0.length:Int),0,())) λz1 =>
  aC (cE ((),z1.2.1,())) λy2 =>
  aC (eL (y2,z1.1,(z1.1.length:Int),0,())) λz3 =>
  some z3.1
def dU:Code:=dM f118
abbrev gB:Env:=KE [] [tQ]
theorem jP:fR tP gB:=l8 trivial ⟨CZ,trivial⟩
def kI:Code:=iD dU 0
def kJ:Code:=iD dU 1
def fN(id:Nat):Option cA:=bif Nat.beq id 3 then some ⟨cC,dD,eH⟩ else bif Nat.beq id 11 then some ⟨cB,dG,eL⟩ else none
theorem zR:∀ x,jU tP gB 36 (aO f118) fN kI cC dD x=bY x:=by
 rintro⟨v0,v3,v9,v10,v11,⟨⟩⟩
 kernel_rfl
theorem AD:eS tP 36 kI ⟨cC,dD,eH⟩:=fF jP.callee bD.mixed _ (aQ (l:=[]) (by kernel_rfl) trivial) zR
theorem zP:∀ x,jU tP gB 36 (aO f118) fN kJ cB dG x=b8 x:=by
 rintro⟨v6,v25,v26,v27,⟨⟩⟩
 kernel_rfl
theorem AW:eS tP 36 kJ ⟨cB,dG,eL⟩:=fF jP.callee bD.mixed _ (aQ (l:=[]) (by kernel_rfl) trivial) zP
theorem BF:a8 dU=[kI,kJ]:=by kernel_rfl
theorem CD:∀ x,aMI tP gB f118 (aO f118) fN dU [.list (.list .str)] 2 110 .str x=b9 x:=by
 rintro⟨v0,⟨⟩⟩
 kernel_rfl
theorem C6:aKH tP 118 [.list (.list .str)] 110 .str b9:=aH5 bD jP func118 (c:=dU) (by kernel_rfl) (bG:=aO f118) (lt:=fN) (t:=2) (by kernel_rfl) (aQ BF ⟨fD (i:=3) (by kernel_rfl) rfl AD,fD (i:=11) (by kernel_rfl) rfl AW,trivial⟩) CD
abbrev sC:Shr:=(118,aXO [.list (.list .str)] 110 .str b9)
theorem B5:uT tP sC:=aH0 C6
abbrev mE:List (Nat×Kd):=[(3,.ptr TyH),(4,.bag 98 TyE 53 TyD none),(7,.int .i64),(8,.own 148 (.hnd 1)),(23,.list TyD),(24,.int .i64),(25,.int .i64),(100000,.ar 110 .str)]
abbrev qG:List (Ex×List (Nat×Kd)):=[(.exit 0,[(3,.ptr TyH),(4,.bag 98 TyE 53 TyD none),(7,.int .i64),(8,.own 148 (.hnd 1)),(100000,.ar 110 .str)])]
def nP(x:Shape.den mE):oS mE qG:=match x with
 | (v3,v4,v7,v8,v23,v24,v25,u00,()) =>
  bif ltI v25 v24 then
   bif aF v25 v23.length then aC (nN ((v23.getD v25.toNat []),())) λy5 =>
   aC (nN ((v23.getD v25.toNat []),())) λy6 =>
   aC (b9 ([y5.1,y6.1],())) λy7 =>
   bif Nat.ble [(u00.length,0,y7.length)].length 1048576 then bif Nat.ble v8.length 1048576 then some (.inl (v3,(v4.1,(v4.2.1,())),v7,(v8++[(u00.length,0,y7.length)]),v23,v24,(aB .i64 (v25+1)),(u00++[y7]),())) else none else none else none
  else some (.inr ((v3,(v4.1,(v4.2.1,())),v7,v8,u00,())))
def sF(x:Shape.den mE):oX qG:=bF nP (2^64) x
abbrev mD:List (Nat×Kd):=[(4,.bag 98 TyE 53 TyD none),(7,.int .i64),(8,.own 148 (.hnd 1)),(40,.list TyD),(41,.int .i64),(42,.int .i64),(100000,.ar 110 .str)]
abbrev qD:List (Ex×List (Nat×Kd)):=[(.exit 2,[(4,.bag 98 TyE 53 TyD none),(7,.int .i64),(8,.own 148 (.hnd 1)),(100000,.ar 110 .str)])]
def nH(x:Shape.den mD):oS mD qD:=match x with
 | (v4,v7,v8,v40,v41,v42,u00,()) =>
  bif ltI v42 v41 then
   bif aF v42 v40.length then aC (nN ((v40.getD v42.toNat []),())) λy12 =>
   aC (l6 () (v7,()) u00) λy13 =>
   aC (b9 ([y12.1,y13.1],())) λy14 =>
   bif Nat.ble [(y13.2.length,0,y14.length)].length 1048576 then bif Nat.ble v8.length 1048576 then some (.inl ((v4.1,(v4.2.1,())),v7,(v8++[(y13.2.length,0,y14.length)]),v40,v41,(aB .i64 (v42+1)),(y13.2++[y14]),())) else none else none else none
  else some (.inr (((v4.1,(v4.2.1,())),v7,v8,u00,())))
def sE(x:Shape.den mD):oX qD:=bF nH (2^64) x
def nE(x:aK [.agg TyH,.agg TyH]):oK [.agg TyH,.int .i64]:=match x with
 | (v0,v1,()) =>
  aC (qY (v0,v1,())) λy1 =>
  bif !(eqI y1.1 0) then
   some ((0,[]),y1.1,())
  else aC (sF (v1,(0,([],())),v0.1,[],v0.2,(v0.2.length:Int),0,[],())) λz8 =>
  aC (sE ((z8.2.1.1,(z8.2.1.2.1,())),z8.2.2.1,z8.2.2.2.1,z8.1.2,(z8.1.2.length:Int),0,z8.2.2.2.2.1,())) λz15 =>
  aC (cO z15.2.2.1 ((aB .i64 (2*z15.2.1)),()) z15.2.2.2.1) λy16 =>
  aC (dP () (y16.1,z15.2.1,z15.2.1,()) y16.2) λy17 =>
  aC (cN y17.1 (z15.2.1,()) y17.2) λy18 =>
  some (y18.1.1,y18.1.2.1,())
def uB:Code:=dM f68
abbrev AJ:Env:=KE [F7,JG] [xP,kP,kO,HQ,sC]
theorem CG:fR tP AJ:=l8 ⟨B9,ND,trivial⟩ ⟨CO,lF,kY,LW,B5,trivial⟩
def DZ:Code:=inLoop (aQJ uB 0)
def DO:Code:=inLoop (aQJ uB 1)
def yL(id:Nat):Option cA:=bif Nat.beq id 7 then some ⟨mE,qG,sF⟩ else bif Nat.beq id 12 then some ⟨mD,qD,sE⟩ else none
def yH(id:Nat):Option cA:=none
theorem SP:∀ x,aNT tP AJ 67 (aAU f68) yL yH false [] DZ mE qG x=nP x:=by
 rintro⟨v3,v4,v7,v8,v23,v24,v25,u00,⟨⟩⟩
 kernel_rfl
theorem TQ:UB tP 67 false [] (.loop DZ) ⟨mE,qG,sF⟩:=aKR CG.callee bD.mixed _ (US (l:=[]) (by kernel_rfl) trivial) SP
theorem SO:∀ x,aNT tP AJ 67 (aAU f68) yL yH false [] DO mD qD x=nH x:=by
 rintro⟨v4,v7,v8,v40,v41,v42,u00,⟨⟩⟩
 kernel_rfl
theorem TN:UB tP 67 false [] (.loop DO) ⟨mD,qD,sE⟩:=aKR CG.callee bD.mixed _ (US (l:=[]) (by kernel_rfl) trivial) SO
theorem VD:gX uB=[.loop DZ,.loop DO]:=by kernel_rfl
theorem WX:∀ x,aTK tP AJ f68 (aAU f68) yL yH uB 110 .str _ _ x=nE x:=by
 rintro⟨v0,v1,⟨⟩⟩
 kernel_rfl
abbrev aA6:Ent:=⟨68,_,_,nE⟩
theorem W4:Ent.OK tP aA6:=a4V bD CG func68 (c:=uB) (by kernel_rfl) (bG:=aAU f68) (lt:=yL) (rt:=yH) (US VD ⟨aJK (i:=7) (by kernel_rfl) rfl TQ,aJK (i:=12) (by kernel_rfl) rfl TN,trivial⟩) WX
end Go.PM
namespace Go.PM
open Go Go.RowKit Go.Proofs Tryz
set_option maxHeartbeats 4000000
def EB(x:aK [.agg TyG,.agg TyG]):oK [.agg TyG,.int .i64]:=match x with
 | (v0,v1,()) =>
  aC (iX (v0,())) λy1 =>
  aC (iX (v1,())) λy2 =>
  aC (IV (y1.1,y2.1,())) λy3 =>
  bif !(eqI y3.2.1 0) then
   some (([],([],[])),y3.2.1,())
  else aC (cM (v0.1,y3.1.2,())) λy4 =>
  some (y4.1,y4.2.1,())
abbrev aFL:Ent:=⟨67,_,_,EB⟩
theorem Z3:Ent.OK tP aFL:=oI (aR (oV aHD (oV CA (oV pT oW)))) func67 (by kernel_rfl) (by rintro⟨v0,v1,⟨⟩⟩; kernel_rfl)
def n7(x:aK [.agg TyG,.agg TyG]):oK [.agg TyG,.int .i64]:=match x with
 | (v0,v1,()) =>
  aC (j9 ([v0,v1],())) λy1 =>
  bif !(eqI y1.1 0) then
   some (([],([],[])),y1.1,())
  else aC (EB (v0,v1,())) λy2 =>
  some (y2.1,y2.2.1,())
abbrev TL:Ent:=⟨16,_,_,n7⟩
theorem NC:Ent.OK tP TL:=oI (aR (oV C7 (oV Z3 oW))) func16 (by kernel_rfl) (by rintro⟨v0,v1,⟨⟩⟩; kernel_rfl)
def nO(x:aK [.agg TyG,.agg TyG]):oK [.agg TyG,.int .i64]:=match x with
 | (v0,v1,()) =>
  aC (j9 ([v0,v1],())) λy1 =>
  bif !(eqI y1.1 0) then
   some (([],([],[])),y1.1,())
  else aC (iX (v0,())) λy2 =>
  aC (iX (v1,())) λy3 =>
  aC (nE (y2.1,y3.1,())) λy4 =>
  bif !(eqI y4.2.1 0) then
   some (([],([],[])),y4.2.1,())
  else aC (cM (v0.1,y4.1.2,())) λy5 =>
  some (y5.1,y5.2.1,())
abbrev TW:Ent:=⟨17,_,_,nO⟩
theorem NL:Ent.OK tP TW:=oI (aR (oV W4 (oV C7 (oV CA (oV pT oW))))) func17 (by kernel_rfl) (by rintro⟨v0,v1,⟨⟩⟩; kernel_rfl)
end Go.PM
namespace Go.PM
open Go Go.RowKit Go.Proofs Tryz
set_option maxHeartbeats 4000000
def NF(hrefinement_Join:aK [.agg TyG,.agg TyG]->Option (aK [.agg TyG,.int .i64])) (hrefinement_Meet:aK [.agg TyG,.agg TyG]->Option (aK [.agg TyG,.int .i64])) (hrefinement_Refines:aK [.agg TyG,.agg TyG]->Option (aK [.bool,.int .i64])) (hrefinement_Steps:aK [.agg TyG,.agg TyG]->Option (aK [.int .i64,.int .i64])) (hslices_Equal_api_Row_int:aK [.list TyE,.list TyE]->Option (aK [.bool])) (htemperament_FromCommas:aK [.list TyE,.list TyD]->Option (aK [.agg TyG,.int .i64])) (x:aK []):Option (aK [.bool]):=match x with
 | (()) =>
  aC (htemperament_FromCommas ([2,3,5],[[(-4),4,(-1)]],())) λy1 =>
  aC (htemperament_FromCommas ([2,3,5],[[7,0,(-3)]],())) λy2 =>
  aC (hrefinement_Join (y1.1,y2.1,())) λy3 =>
  aC (hrefinement_Meet (y1.1,y2.1,())) λy4 =>
  aC (hrefinement_Steps (y1.1,y3.1,())) λy5 =>
  aC (hrefinement_Refines (y1.1,y2.1,())) λy6 =>
  bif eqI y1.2.1 0 then
   bif eqI y2.2.1 0 then
    bif eqI y3.2.1 0 then
     bif eqI y4.2.1 0 then
      bif eqI y5.2.1 0 then
       bif eqI y6.2.1 0 then
        bif eqI (y3.1.2.2.length:Int) 1 then
         bif aF 0 y3.1.2.2.length then aC (hslices_Equal_api_Row_int ((y3.1.2.2.getD 0 []),[12,19,28],())) λy7 =>
         bif y7.1 then
          bif eqI (y4.1.2.1.length:Int) 0 then
           bif eqI (y4.1.2.2.length:Int) 3 then
            bif eqI y5.1 1 then
             bif y6.1 then
              some (false,())
             else some (true,())
            else some (false,())
           else some (false,())
          else some (false,())
         else some (false,()) else none
        else some (false,())
       else some (false,())
      else some (false,())
     else some (false,())
    else some (false,())
   else some (false,())
  else some (false,())
def yJ(x:aK []):Option (aK [.bool]):=NF n7 nO yC HR dC cM x
def yE:Code:=dM f11
abbrev NH:Env:=JB [TL,TW,NA,RN,E0,yM]
theorem VX:fR tP NH:=aR ⟨NC,NL,IN,XW,sL,pT,trivial⟩
def DN(id:Nat):Option cA:=none
theorem UD:a8 yE=[]:=by kernel_rfl
theorem T3(hrefinement_Join:aK [.agg TyG,.agg TyG]->Option (aK [.agg TyG,.int .i64]))(hrefinement_Meet:aK [.agg TyG,.agg TyG]->Option (aK [.agg TyG,.int .i64]))(hrefinement_Refines:aK [.agg TyG,.agg TyG]->Option (aK [.bool,.int .i64]))(hrefinement_Steps:aK [.agg TyG,.agg TyG]->Option (aK [.int .i64,.int .i64]))(hslices_Equal_api_Row_int:aK [.list TyE,.list TyE]->Option (aK [.bool]))(htemperament_FromCommas:aK [.list TyE,.list TyD]->Option (aK [.agg TyG,.int .i64])):∀ x,aNA tP (JB [⟨16,[.agg TyG,.agg TyG],[.agg TyG,.int .i64],hrefinement_Join⟩,⟨17,[.agg TyG,.agg TyG],[.agg TyG,.int .i64],hrefinement_Meet⟩,⟨18,[.agg TyG,.agg TyG],[.bool,.int .i64],hrefinement_Refines⟩,⟨27,[.agg TyG,.agg TyG],[.int .i64,.int .i64],hrefinement_Steps⟩,⟨62,[.list TyE,.list TyE],[.bool],hslices_Equal_api_Row_int⟩,⟨39,[.list TyE,.list TyD],[.agg TyG,.int .i64],htemperament_FromCommas⟩]) f11 (aO f11) DN yE [] [.bool] x=NF hrefinement_Join hrefinement_Meet hrefinement_Refines hrefinement_Steps hslices_Equal_api_Row_int htemperament_FromCommas x:=by
 rintro⟨⟩
 kernel_rfl
theorem WH:∀ x,aNA tP NH f11 (aO f11) DN yE _ _ x=yJ x:=T3 n7 nO yC HR dC cM
theorem Y9:UZ tP 11 _ _ yJ:=aFF bD VX func11 (c:=yE) (by kernel_rfl) (bG:=aO f11) (lt:=DN) (aQ UD trivial) WH
def gM(x:aK []):oK [.bool]:=some (true,())
theorem VL:∀ x,yJ x=gM x:=by
 rintro⟨⟩
 kernel_rfl
theorem X3:UZ tP 11 _ _ gM:=by
 have h:yJ=gM:=funext VL;rw[<- h];exact Y9
abbrev ZX:Ent:=⟨11,_,_,gM⟩
theorem WC:Ent.OK tP ZX:=X3
def yI(x:aK [.agg TyG]):oK [.bool]:=match x with
 | (v0,()) =>
  some (eqI (aB .i64 ((aB .i64 ((v0.1.length:Int)+(v0.2.1.length:Int)))+(v0.2.2.length:Int))) 0,())
abbrev Z9:Ent:=⟨21,_,_,yI⟩
theorem VG:Ent.OK tP Z9:=oI (aR oW) func21 (by kernel_rfl) (by rintro⟨v0,⟨⟩⟩; kernel_rfl)
end Go.PM
namespace Go.PM
open Go Go.RowKit Go.Proofs Go.Lz
theorem JY {α:Type}(z:α):∀ {a b:List α},a.length=b.length->a≠b->∃ x,x<a.length/\(∀ y,y<x->a.getD y z=b.getD y z)/\a.getD x z≠b.getD x z
 | [],[],_,h=>absurd rfl h
 | [],_::_,h,_=>by simp at h
 | _::_,[],h,_=>by simp at h
 | s::a,t::b,hl,h=>by
  by_cases e:s=t
  ·subst e;obtain⟨x,h1,h2,h3⟩:=JY z (a:=a) (b:=b) (by simpa using hl) (λe=>h (by rw[e]));refine⟨x+1,by simpa using h1,λy hy=>?_,by simpa using h3⟩;cases y with
   | zero=>rfl
   | succ y=>simpa using h2 y (by omega)
  ·exact⟨0,by simp,λy hy=>by omega,by simpa using e⟩
theorem aNL(a b:List Int)(ha:a.length<1048576):dC (a,b,())=some (decide (a=b),()):=by
 by_cases hl:a.length=b.length
 ·have e0:eqI (a.length:Int) (b.length:Int)=true:=by rw[fP]; exact oT (by omega)
  have step:∀ t,t<a.length->∀ c,decide (a.getD t 0=b.getD t 0)=c->eR (a,b,(a.length:Int),(t:Int),())=(bif c then some (.inl (a,b,(a.length:Int),((t+1:Nat):Int),())) else some (.inr (.inl (false,())))):=λt ht c hc=>by
   have e1:ltI (t:Int) (a.length:Int)=true:=by rw[aE]; exact oT (by omega)
   have e2:aF (t:Int) a.length=true:=by rw[aM]; exact oT (by omega)
   have e3:aF (t:Int) b.length=true:=by rw[aM]; exact oT (by omega)
   have e4:((t:Nat):Int).toNat=t:=oN _;have e5:=bX t (by omega);simp only[eR,e1,e2,e3,e4,e5,oC,fP,hc];cases c <;> rfl
  by_cases he:a=b
  ·subst he;have key:=aU (step:=eR) (N:=2^64) (λt=>(a,a,(a.length:Int),(t:Int),())) a.length (.inr ()) (by omega) (λt ht=>step t ht true (by simp)) (by
    have e1:ltI (a.length:Int) (a.length:Int)=false:=by rw[aE]; exact oF (by omega)
    simp only[eR,e1,oD])
   have key:lJ (a,a,(a.length:Int),0,())=_:=key;simp only[dC,e0,Bool.not_true,oD,key,aD,jN,decide_true]
  ·obtain⟨x,h1,h2,h3⟩:=JY 0 hl he;have key:=aU (step:=eR) (N:=2^64) (λt=>(a,b,(a.length:Int),(t:Int),())) x (.inl (false,())) (by omega) (λt ht=>step t (by omega) true (oT (h2 t ht))) (step x h1 false (oF h3));have key:lJ (a,b,(a.length:Int),0,())=_:=key;simp only[dC,e0,Bool.not_true,oD,key,aD,EL,oF he]
 ·have e0:eqI (a.length:Int) (b.length:Int)=false:=by rw[fP]; exact oF (by omega)
  have he:¬ a=b:=λe=>hl (by rw[e])
  simp only[dC,e0,Bool.not_false,oC,oF he]
theorem aDR(a b:List Int)(ha:a.length<1048576):cZ (a,b,())=some (decide (a=b),()):=by
 by_cases hl:a.length=b.length
 ·have e0:eqI (a.length:Int) (b.length:Int)=true:=by rw[fP]; exact oT (by omega)
  have step:∀ t,t<a.length->∀ c,decide (a.getD t 0=b.getD t 0)=c->dR (a,b,(a.length:Int),(t:Int),())=(bif c then some (.inl (a,b,(a.length:Int),((t+1:Nat):Int),())) else some (.inr (.inl (false,())))):=λt ht c hc=>by
   have e1:ltI (t:Int) (a.length:Int)=true:=by rw[aE]; exact oT (by omega)
   have e2:aF (t:Int) a.length=true:=by rw[aM]; exact oT (by omega)
   have e3:aF (t:Int) b.length=true:=by rw[aM]; exact oT (by omega)
   have e4:((t:Nat):Int).toNat=t:=oN _;have e5:=bX t (by omega);simp only[dR,e1,e2,e3,e4,e5,oC,fP,hc];cases c <;> rfl
  by_cases he:a=b
  ·subst he;have key:=aU (step:=dR) (N:=2^64) (λt=>(a,a,(a.length:Int),(t:Int),())) a.length (.inr ()) (by omega) (λt ht=>step t ht true (by simp)) (by
    have e1:ltI (a.length:Int) (a.length:Int)=false:=by rw[aE]; exact oF (by omega)
    simp only[dR,e1,oD])
   have key:jI (a,a,(a.length:Int),0,())=_:=key;simp only[cZ,e0,Bool.not_true,oD,key,aD,jN,decide_true]
  ·obtain⟨x,h1,h2,h3⟩:=JY 0 hl he;have key:=aU (step:=dR) (N:=2^64) (λt=>(a,b,(a.length:Int),(t:Int),())) x (.inl (false,())) (by omega) (λt ht=>step t (by omega) true (oT (h2 t ht))) (step x h1 false (oF h3));have key:jI (a,b,(a.length:Int),0,())=_:=key;simp only[cZ,e0,Bool.not_true,oD,key,aD,EL,oF he]
 ·have e0:eqI (a.length:Int) (b.length:Int)=false:=by rw[fP]; exact oF (by omega)
  have he:¬ a=b:=λe=>hl (by rw[e])
  simp only[cZ,e0,Bool.not_false,oC,oF he]
theorem aSG(a b:List (List Int))(ha:a.length<1048576)(hr:∀ r∈a,r.length<1048576):aW (a,b,(),())=some (decide (a=b),()):=by
 by_cases hl:a.length=b.length
 ·have e0:eqI (a.length:Int) (b.length:Int)=true:=by rw[fP]; exact oT (by omega)
  have step:∀ t,t<a.length->∀ c,decide (a.getD t []=b.getD t [])=c->aS (b,(),a,(a.length:Int),(t:Int),())=(bif c then some (.inl (b,(),a,(a.length:Int),((t+1:Nat):Int),())) else some (.inr (.inl (false,())))):=λt ht c hc=>by
   have e1:ltI (t:Int) (a.length:Int)=true:=by rw[aE]; exact oT (by omega)
   have e2:aF (t:Int) a.length=true:=by rw[aM]; exact oT (by omega)
   have e3:aF (t:Int) b.length=true:=by rw[aM]; exact oT (by omega)
   have e4:((t:Nat):Int).toNat=t:=oN _;have e5:=bX t (by omega);have e6:(a.getD t []).length<1048576:=by
    have:a.getD t []=a[t]:=by simp[List.getD,ht]
    rw[this]; exact hr _ (List.getElem_mem ht)
   have e7:=aNL (a.getD t []) (b.getD t []) e6;simp only[aS,e1,e2,e3,e4,e5,oC,aBO,e7,aD,hc]
  by_cases he:a=b
  ·subst he;have key:=aU (step:=aS) (N:=2^64) (λt=>(a,(),a,(a.length:Int),(t:Int),())) a.length (.inr ()) (by omega) (λt ht=>step t ht true (by simp)) (by
    have e1:ltI (a.length:Int) (a.length:Int)=false:=by rw[aE]; exact oF (by omega)
    simp only[aS,e1,oD])
   have key:bV (a,(),a,(a.length:Int),0,())=_:=key;simp only[aW,e0,Bool.not_true,oD,key,aD,jN,decide_true]
  ·obtain⟨x,h1,h2,h3⟩:=JY [] hl he;have key:=aU (step:=aS) (N:=2^64) (λt=>(b,(),a,(a.length:Int),(t:Int),())) x (.inl (false,())) (by omega) (λt ht=>step t (by omega) true (oT (h2 t ht))) (step x h1 false (oF h3));have key:bV (b,(),a,(a.length:Int),0,())=_:=key;simp only[aW,e0,Bool.not_true,oD,key,aD,EL,oF he]
 ·have e0:eqI (a.length:Int) (b.length:Int)=false:=by rw[fP]; exact oF (by omega)
  have he:¬ a=b:=λe=>hl (by rw[e])
  simp only[aW,e0,Bool.not_false,oC,oF he]
theorem aSA(a b:List (List Int))(ha:a.length<1048576)(hr:∀ r∈a,r.length<1048576):aV (a,b,(),())=some (decide (a=b),()):=by
 by_cases hl:a.length=b.length
 ·have e0:eqI (a.length:Int) (b.length:Int)=true:=by rw[fP]; exact oT (by omega)
  have step:∀ t,t<a.length->∀ c,decide (a.getD t []=b.getD t [])=c->aT (b,(),a,(a.length:Int),(t:Int),())=(bif c then some (.inl (b,(),a,(a.length:Int),((t+1:Nat):Int),())) else some (.inr (.inl (false,())))):=λt ht c hc=>by
   have e1:ltI (t:Int) (a.length:Int)=true:=by rw[aE]; exact oT (by omega)
   have e2:aF (t:Int) a.length=true:=by rw[aM]; exact oT (by omega)
   have e3:aF (t:Int) b.length=true:=by rw[aM]; exact oT (by omega)
   have e4:((t:Nat):Int).toNat=t:=oN _;have e5:=bX t (by omega);have e6:(a.getD t []).length<1048576:=by
    have:a.getD t []=a[t]:=by simp[List.getD,ht]
    rw[this]; exact hr _ (List.getElem_mem ht)
   have e7:=aNL (a.getD t []) (b.getD t []) e6;simp only[aT,e1,e2,e3,e4,e5,oC,FD,e7,aD,hc]
  by_cases he:a=b
  ·subst he;have key:=aU (step:=aT) (N:=2^64) (λt=>(a,(),a,(a.length:Int),(t:Int),())) a.length (.inr ()) (by omega) (λt ht=>step t ht true (by simp)) (by
    have e1:ltI (a.length:Int) (a.length:Int)=false:=by rw[aE]; exact oF (by omega)
    simp only[aT,e1,oD])
   have key:bT (a,(),a,(a.length:Int),0,())=_:=key;simp only[aV,e0,Bool.not_true,oD,key,aD,jN,decide_true]
  ·obtain⟨x,h1,h2,h3⟩:=JY [] hl he;have key:=aU (step:=aT) (N:=2^64) (λt=>(b,(),a,(a.length:Int),(t:Int),())) x (.inl (false,())) (by omega) (λt ht=>step t (by omega) true (oT (h2 t ht))) (step x h1 false (oF h3));have key:bT (b,(),a,(a.length:Int),0,())=_:=key;simp only[aV,e0,Bool.not_true,oD,key,aD,EL,oF he]
 ·have e0:eqI (a.length:Int) (b.length:Int)=false:=by rw[fP]; exact oF (by omega)
  have he:¬ a=b:=λe=>hl (by rw[e])
  simp only[aV,e0,Bool.not_false,oC,oF he]
theorem aK2(n n':Int)(a b:List (List Int))(ha:a.length<1048576)(hr:∀ r∈a,r.length<1048576):C9 ((n,a),(n',b),())=some (decide (n=n')&&decide (a=b),()):=by
 by_cases h:n=n'
 ·subst h;have e0:eqI n n=true:=by rw[fP]; exact oT rfl
  simp only[C9,e0,oC,aSG a b ha hr,aD,decide_true,Bool.true_and]
 ·have e0:eqI n n'=false:=by rw[fP]; exact oF h
  simp only[C9,e0,oD,h,decide_false,Bool.false_and]
theorem a2O(a b:List (List Int))(ha:a.length<1048576)(hr:∀ r∈a,r.length<1048576):CI (a,b,())=some (decide (a=b),()):=by simp only[CI,aSA a b ha hr,aD]
end Go.PM
namespace Go.Lz
theorem jX.back {n m k k2:Nat}{A K K2:Nat->V}(hA:∀ i,i<m->∀ c,n<=c->A i c=0)(h1:jX n m A k K)(h2:jX n k K k2 K2):jX n k2 K2 k K:=by
 intro y;rw[h1];constructor
 ·intro g;refine⟨g.1,λx hx=>?_⟩;have:=((h2 _).1 (Sp.mem hx));rw[nI];exact this.span ((h1 y).2 g)
 ·rintro⟨g1,g2⟩;refine⟨g1,λx hx=>?_⟩;have:Sp k2 K2 (A x):=(h2 _).2 ⟨hA x hx,λz hz=>by rw[nI]; exact((h1 _).1 (Sp.mem hz)).2 x hx⟩;exact Ker.span ⟨g1,g2⟩ this
theorem jX.of_same {n m m' k:Nat}{A A' K:Nat->V}(h:Same m A m' A')(h1:jX n m A k K):jX n m' A' k K:=λy=>(h1 y).trans (Ker.same h)
end Go.Lz
namespace Go.PM
open Go Go.RowKit Go.Proofs Go.Lz
structure RT (ps:List Int) (n d r:Nat) (C K:Nat->V):Prop where
 pr:pI (ps,())=some (0,())
 len:ps.length=n
 n4:n<=4
 hc:∃ q,Hn d C q
 hk:∃ p,Hn r K p
 wc:Wd d n C
 wk:Wd r n K
 bc:Big d n C 1000000000
 bk:Big r n K 1000000000
 ker:jX n d C r K
 ker2:jX n r K d C
theorem aOZ {d n:Nat}{M:Nat->V}(hn:n<=4):∀ r∈Mr d n M,r.length<1048576:=λr hr=>by
 obtain⟨i,_,rfl⟩:=aCM hr;rw[vW]; omega
theorem RT.check {ps:List Int}{n d r:Nat}{C K:Nat->V}(h:RT ps n d r C K):dY ((ps,(Mr d n C,Mr r n K)),())=some (0,()):=by
 obtain⟨q,hc⟩:=h.hc;obtain⟨p,hk⟩:=h.hk;have n4:=h.n4;have d4:=(Hn.gL hc h.wc).1;have r4:=(Hn.gL hk h.wk).1;have e0:eqI 0 0=true:=by decide
 have e1:((ps.length:Nat):Int)=(n:Int):=by rw[h.len]
 have s1:=ZD hc n4 h.wc h.bc h.ker hc h.ker2 h.bc;have s2:=PW hc n4 h.wc h.bc hk h.ker h.bk;have s3:=XR hc h.wc (by omega) (by omega) h.bc;have s4:=aK2 (n:Int) (n:Int) (Mr d n C) (Mr d n C) (by rw[cJ]; omega) (aOZ n4);have s5:=a2O (Mr r n K) (Mr r n K) (by rw[cJ]; omega) (aOZ n4);simp only[decide_true,Bool.and_self]at s4 s5;simp only[dY,h.pr,aD,e0,Bool.not_true,oD,e1,s3,s1,s4,oC,s2,s5]
def L12:List (List Int):=[[2,3,5],[2,3,5,7],[2,3],[2,3,7],[2,5,7],[3,5,7],[2,3,5,11],[2],[2,3,7,13],[3,5,7,13]]
theorem a58:∀ i,i<10->pI (L12.getD i [],())=some (0,())/\(L12.getD i []).length<=4:=by
 intro i hi;rcases(show i=0\/i=1\/i=2\/i=3\/i=4\/i=5\/i=6\/i=7\/i=8\/i=9 by omega)with rfl|rfl|rfl|rfl|rfl|rfl|rfl|rfl|rfl|rfl
 all_goals exact⟨by kernel_rfl,by decide⟩
theorem aYR(v:Int)(h0:0<=v)(h1:v<256):D1 (v,())=some (L12.getD (v%10).toNat [],()):=by
 have e1:IntKind.wrap .i64 v=v:=UU (by omega) (by omega);have e2:v.tmod 10=v%10:=Int.tmod_eq_emod_of_nonneg h0;have e3:aF (v%10) 10=true:=by rw[aM]; exact oT (by omega)
 have e4:eqI 10 0=false:=by decide
 have hl:(L12.length:Int)=10:=by decide
 have hl2:L12.length=10:=by decide
 show (bif eqI (L12.length:Int) 0 then none else bif aF ((IntKind.wrap .i64 v).tmod (L12.length:Int)) L12.length then some ((L12.getD (((IntKind.wrap .i64 v).tmod (L12.length:Int)).toNat) []),()) else none)=_;rw[e1,hl,e2,hl2,e4,e3];rfl
def L6(t:Int×Int×Int×Int):Nat->Int
 | 0=>t.1
 | 1=>t.2.1
 | 2=>t.2.2.1
 | _=>t.2.2.2
def I8(t:Int×Int×Int×Int):Prop:=∀ i,i<4->-128<=L6 t i/\L6 t i<128
theorem aRR(ps:List Int)(hl:ps.length<=4)(t:Int×Int×Int×Int)(ht:I8 t):sZ (ps,t,())=some ((List.range ps.length).map (λi=>(L6 t i).tmod 10),()):=by
 have w0:IntKind.wrap .i64 t.1=t.1:=UU (by have:=ht 0 (by omega); simp only[L6]at this; omega) (by have:=ht 0 (by omega); simp only[L6]at this; omega);have w1:IntKind.wrap .i64 t.2.1=t.2.1:=UU (by have:=ht 1 (by omega); simp only[L6]at this; omega) (by have:=ht 1 (by omega); simp only[L6]at this; omega);have w2:IntKind.wrap .i64 t.2.2.1=t.2.2.1:=UU (by have:=ht 2 (by omega); simp only[L6]at this; omega) (by have:=ht 2 (by omega); simp only[L6]at this; omega)
 have w3:IntKind.wrap .i64 t.2.2.2=t.2.2.2:=UU (by have:=ht 3 (by omega); simp only[L6]at this; omega) (by have:=ht 3 (by omega); simp only[L6]at this; omega);have key:=aU (step:=o4) (N:=2^64) (λs=>(ps,(t.1,(t.2.1,(t.2.2.1,t.2.2.2))),(List.range s).map (λi=>(L6 t i).tmod 10),(s:Int),())) ps.length ((List.range ps.length).map (λi=>(L6 t i).tmod 10),()) (by omega) (λs hs=>?_) ?_
 ·have key:sX (ps,(t.1,(t.2.1,(t.2.2.1,t.2.2.2))),[],0,())=_:=key;simp only[sZ,key,aD]
 ·have e1:ltI (s:Int) (ps.length:Int)=true:=by rw[aE]; exact oT (by omega)
  have e2:ltI (s:Int) 4=true:=by rw[aE]; exact oT (by omega)
  have e3:=bX s (by omega);have e4:∀ x:Int,Nat.ble [x].length 1048576=true:=λ_=>rfl
  have e5:Nat.ble ((List.range s).map (λi=>(L6 t i).tmod 10)).length 1048576=true:=by rw[dN,List.length_map,List.length_range]; exact oT (by omega)
  have e6:(List.range (s+1)).map (λi=>(L6 t i).tmod 10)=(List.range s).map (λi=>(L6 t i).tmod 10)++[(L6 t s).tmod 10]:=by rw[List.range_succ,List.map_append]; rfl
  simp only[o4,e1,e2,oC,e4,e5,w0,w1,w2,w3,e3,e6];rcases(show s=0\/s=1\/s=2\/s=3 by omega)with rfl|rfl|rfl|rfl <;> rfl
 ·have e1:ltI (ps.length:Int) (ps.length:Int)=false:=by rw[aE]; exact oF (by omega)
  simp only[o4,e1,oD]
def red(M:Nat->V) (p:Nat->Nat):Nat->V->V
 | 0,u=>u
 | t+1,u=>λx=>red M p t u x-(red M p t u (p t)).fdiv (M t (p t))*M t x
section
variable {d n:Nat} {M:Nat->V} {p:Nat->Nat}
end
theorem aI5(r:List Int)(hl:r.length<=1048576)(hr:∀ a∈r,-9223372036854775808<=a/\a<9223372036854775808):nN (r,())=some (r.map Zn,()):=by
 have e1:ltI (r.length:Int) 0=false:=by rw[aE]; exact oF (by omega)
 have e2:ltI 1048576 (r.length:Int)=false:=by rw[aE]; exact oF (by omega)
 have key:B6 ([],r,(r.length:Int),0,())=some (r.map Zn,()):=aF9 r hl hr;unfold nN;simp only[e1,e2,Bool.not_false,oC,List.replicate_zero,key,aD]
theorem aE0(n:Nat)(v:V):(Vr n v).map Zn=Zr n v:=by simp[Vr,Zr]
section
variable {d n:Nat} {M:Nat->V} {p:Nat->Nat}
end
theorem aVO {a b:V}{E F:Nat}:∀ {n:Nat},(∀ x,x<n->(a x).natAbs<=E)->(∀ x,x<n->(b x).natAbs<=F)->(dot n a b).natAbs<=n*(E*F)
 | 0,_,_=>by simp[dot]
 | n+1,ha,hb=>by
  have h1:=aVO (n:=n) (λx hx=>ha x (by omega)) (λx hx=>hb x (by omega));have h2:=N5 (ha n (by omega)) (hb n (by omega));rw[Nat.succ_mul];show (dot n a b+a n*b n).natAbs<=_;omega
section
variable {n r:Nat} {K:Nat->V}
theorem aXR(hn:n<=12)(hr:r<=12)(ps:List Int)(C:List (List Int))(x:List Int)(hl:x.length=n)(hx:∀ a∈x,a.natAbs<=1000000000)(hw:Wd r n K)(hK:Big r n K 1000000000) :
  yG ((ps,(C,Mr r n K)),x,())=some ((List.range r).map (λi=>Zn (dot n (vL x) (K i))),()):=by
 have hxv:∀ t,t<n->(vL x t).natAbs<=1000000000:=λt ht=>by
  unfold vL;have:x.getD t 0=x[t]'(by omega):=by simp[List.getD,show t<x.length by omega]
  rw[this];exact hx _ (List.getElem_mem _)
 have inner:∀ i,i<r->∀ (v5:List ByteArray) (v12:List (List Int)) (v13 v14:Int),mH (x,v5,Vr n (K i),ByteArray.mk #[48],v12,v13,v14,x,(x.length:Int),0,())=some (x,v5,Zn (dot n (vL x) (K i)),v12,v13,v14,()):=λi hi v5 v12 v13 v14=>by
  have key:=aU (step:=mJ) (N:=2^64) (λt=>(x,v5,Vr n (K i),Zn (dot t (vL x) (K i)),v12,v13,v14,x,(x.length:Int),(t:Int),())) n (x,v5,Zn (dot n (vL x) (K i)),v12,v13,v14,()) (by omega) (λt ht=>?_) ?_
  ·have z:Zn (dot 0 (vL x) (K i))=ByteArray.mk #[48]:=by
    show Zn 0=_
    kernel_rfl
   have key:mH (x,v5,Vr n (K i),Zn (dot 0 (vL x) (K i)),v12,v13,v14,x,(x.length:Int),0,())=_:=key;rwa[z]at key
  ·have e1:ltI (t:Int) (x.length:Int)=true:=by rw[aE]; exact oT (by omega)
   have e2:aF (t:Int) x.length=true:=by rw[aM]; exact oT (by omega)
   have e3:((t:Nat):Int).toNat=t:=oN _;have e4:aF (t:Int) n=true:=by rw[aM]; exact oT (by omega)
   have b1:=hxv t ht;have b2:=hK i hi t ht;have b3:=aVO (n:=t) (a:=vL x) (b:=K i) (λy hy=>hxv y (by omega)) (λy hy=>hK i hi y (by omega));have b4:=N5 b1 b2;have e5:jK (x.getD t 0,())=some (Zn (vL x t),()):=uM _ (by have:x.getD t 0=vL x t:=rfl; omega) (by have:x.getD t 0=vL x t:=rfl; omega);have e6:jK ((Vr n (K i)).getD t 0,())=some (Zn (K i t),()):=by rw[aJY _ ht]; exact uM _ (by omega) (by omega)
   have d1:=uD (u:=(vL x t).natAbs) (k:=9) (by omega);have d2:=uD (u:=(K i t).natAbs) (k:=9) (by omega);have e7:=aKV (vL x t) (K i t) (by omega);have d3:=uD (u:=(dot t (vL x) (K i)).natAbs) (k:=20) (by omega);have d4:=uD (u:=(vL x t*K i t).natAbs) (k:=20) (by omega);have e8:=aID (dot t (vL x) (K i)) (vL x t*K i t) (by omega) (by omega);have e9:=bX t (by omega);have e10:dot t (vL x) (K i)+vL x t*K i t=dot (t+1) (vL x) (K i):=rfl
   simp only[mJ,e1,e2,e3,e5,aD,vW,e4,e6,e7,e8,e9,e10,oC]
  ·have e1:ltI (n:Int) (x.length:Int)=false:=by rw[aE]; exact oF (by omega)
   simp only[mJ,e1,oD]
 have key:=aU (step:=mG) (N:=2^64) (λt=>(x,(List.range t).map (λi=>Zn (dot n (vL x) (K i))),Mr r n K,((Mr r n K).length:Int),(t:Int),())) r ((List.range r).map (λi=>Zn (dot n (vL x) (K i))),()) (by omega) (λt ht=>?_) ?_
 ·have key:rB (x,[],Mr r n K,((Mr r n K).length:Int),0,())=_:=key;simp only[yG,key,aD]
 ·have e1:ltI (t:Int) (r:Int)=true:=by rw[aE]; exact oT (by omega)
  have e2:aF (t:Int) r=true:=by rw[aM]; exact oT (by omega)
  have e3:((t:Nat):Int).toNat=t:=oN _;have e4:∀ s:ByteArray,Nat.ble [s].length 1048576=true:=λ_=>rfl
  have e5:Nat.ble ((List.range t).map (λi=>Zn (dot n (vL x) (K i)))).length 1048576=true:=by rw[dN,List.length_map,List.length_range]; exact oT (by omega)
  have e6:=bX t (by omega);have e7:(List.range (t+1)).map (λi=>Zn (dot n (vL x) (K i)))=(List.range t).map (λi=>Zn (dot n (vL x) (K i)))++[Zn (dot n (vL x) (K t))]:=by rw[List.range_succ,List.map_append]; rfl
  simp only[mG,cJ,e1,e2,e3,Y5 K ht,inner t ht,aD,e4,e5,e6,e7,oC]
 ·have e1:ltI (r:Int) (r:Int)=false:=by rw[aE]; exact oF (by omega)
  simp only[mG,cJ,e1,oD]
theorem a3U(l:List Int) (hl:l.length<1048576):∃ b,dW (l.map Zn,(),())=some (!b,())/\(b=true↔∀ i,i<l.length->l.getD i 0=0):=by
 have hlen:(l.map Zn).length=l.length:=List.length_map _;have step:∀ t,t<l.length->∀ c,decide (l.getD t 0=0)=c->cI (l.map Zn,(),(l.length:Int),(t:Int),())=(bif c then some (.inl (l.map Zn,(),(l.length:Int),((t+1:Nat):Int),())) else some (.inr (.inl ((t:Int),())))):=λt ht c hc=>by
  have e1:ltI (t:Int) (l.length:Int)=true:=by rw[aE]; exact oT (by omega)
  have e2:aF (t:Int) l.length=true:=by rw[aM]; exact oT (by omega)
  have e3:((t:Nat):Int).toNat=t:=oN _;have e4:=bX t (by omega);have e5:(l.map Zn).getD t ByteArray.empty=Zn (l.getD t 0):=by simp[List.getD,ht]
  simp only[cI,e1,hlen,e2,e3,e5,vR,NW,hc,aD,e4,oC];cases c <;> rfl
 by_cases hz:∀ i,i<l.length->l.getD i 0=0
 ·refine⟨true,?_,⟨λ_=>hz,λ_=>rfl⟩⟩;have key:=aU (step:=cI) (N:=2^64) (λt=>(l.map Zn,(),(l.length:Int),(t:Int),())) l.length (.inr ()) (by omega) (λt ht=>step t ht true (oT (hz t ht))) (by
   have e1:ltI (l.length:Int) (l.length:Int)=false:=by rw[aE]; exact oF (by omega)
   simp only[cI,e1,oD])
  have key:fC (l.map Zn,(),(l.length:Int),0,())=_:=key;have e2:ltI (-1) 0=true:=by decide
  simp only[dW,iS,hlen,key,aD,jN,e2]
 ·refine⟨false,?_,⟨λh=>(by cases h),λh=>absurd h hz⟩⟩;obtain⟨x,h1,h2,h3⟩:=JY (0:Int) (a:=l) (b:=List.replicate l.length 0) (by simp) (λe=>hz λi hi=>by rw[e]; simp[List.getD,hi]);have hrep:∀ i,i<l.length->(List.replicate l.length (0:Int)).getD i 0=0:=λi hi=>by simp[List.getD,hi]
  rw[hrep x h1]at h3;have key:=aU (step:=cI) (N:=2^64) (λt=>(l.map Zn,(),(l.length:Int),(t:Int),())) x (.inl ((x:Int),())) (by omega) (λt ht=>step t (by omega) true (oT (by rw[h2 t ht]; exact hrep t (by omega)))) (step x h1 false (oF h3));have key:fC (l.map Zn,(),(l.length:Int),0,())=_:=key;have e2:ltI (x:Int) 0=false:=by rw[aE]; exact oF (by omega)
  simp only[dW,iS,hlen,key,aD,EL,e2,Bool.not_false]
end
theorem aLH {ps:List Int} {n d r:Nat} {C K:Nat->V} (h:RT ps n d r C K) (x:List Int) (hl:x.length=n) (hx:∀ a∈x,a.natAbs<=1000000000) :
  ∃ b,kN ((ps,(Mr d n C,Mr r n K)),x,())=some (b,0,())/\(b=true↔Sp d C (vL x)):=by
 have n4:=h.n4;obtain⟨p,hk⟩:=h.hk;have r4:=(Hn.gL hk h.wk).1;have e0:eqI 0 0=true:=by decide
 have c1:=aDA x (by omega) hx;have e1:eqI ((x.length:Nat):Int) ((ps.length:Nat):Int)=true:=by rw[fP]; exact oT (by rw[hl,h.len])
 have hbeg:AK ((ps,(Mr d n C,Mr r n K)),[x],())=some (0,()):=by
  have key:=aU (step:=sI) (N:=2^64) (λt=>((ps,(Mr d n C,Mr r n K)),[x],1,(t:Int),())) 1 (.inr ()) (by omega) (λt ht=>?_) ?_
  ·have key:yU ((ps,(Mr d n C,Mr r n K)),[x],([x].length:Int),0,())=_:=key;simp only[AK,h.check,aD,e0,Bool.not_true,oD,key,jN]
  ·obtain rfl:t=0:=by omega
   have e2:ltI ((0:Nat):Int) 1=true:=by decide
   have e3:=bX 0 (by omega);simp only[sI,e2,oC,e3];show (bif aF ((0:Nat):Int) 1 then aC (F9 (x,())) _ else none)=_;have e4:aF ((0:Nat):Int) 1=true:=by decide
   simp only[e4,oC,c1,aD,e0,Bool.not_true,oD];show (bif !(eqI ((x.length:Nat):Int) ((ps.length:Nat):Int)) then _ else _)=_;rw[e1]; rfl
  ·have e2:ltI ((1:Nat):Int) 1=false:=by decide
   simp only[sI,e2,oD]
 have t1:=aXR (by omega) (by omega) ps (Mr d n C) x hl hx h.wk h.bk;obtain⟨b,a1,a2⟩:=a3U ((List.range r).map λi=>dot n (vL x) (K i)) (by simp; omega);have e5:((List.range r).map λi=>dot n (vL x) (K i)).map Zn=(List.range r).map (λi=>Zn (dot n (vL x) (K i))):=by rw[List.map_map]; rfl
 rw[e5]at a1;refine⟨b,?_,a2.trans ?_⟩
 ·simp only[kN,hbeg,aD,e0,Bool.not_true,oD,t1,a1];cases b <;> rfl
 ·rw[h.ker2];constructor
  ·intro g;refine⟨λc hc=>?_,λi hi=>?_⟩
   ·unfold vL;simp[List.getD,List.getElem?_eq_none (show x.length<=c by omega)]
   ·have:=g i (by simpa using hi);simpa[List.getD,hi]using this
  ·intro g i hi;have hi:i<r:=by simpa using hi
   have:=g.2 i hi;simpa[List.getD,hi]using this
abbrev TT:=List Int×List (List Int)×List (List Int)
abbrev zT:TT:=([],([],[]))
theorem aGI(l:List TT)(hl:l.length<1048576)(hc:∀ i,i<l.length->dY (l.getD i zT,())=some (0,())):tF (l,l,(l.length:Int),0,())=some (.inr (l,())):=by
 have e0:eqI 0 0=true:=by decide
 refine aU (step:=pU) (N:=2^64) (λt=>(l,l,(l.length:Int),(t:Int),())) l.length (.inr (l,())) (by omega) (λt ht=>?_) ?_
 ·have e1:ltI (t:Int) (l.length:Int)=true:=by rw[aE]; exact oT (by omega)
  have e2:aF (t:Int) l.length=true:=by rw[aM]; exact oT (by omega)
  have e3:((t:Nat):Int).toNat=t:=oN _;have e4:=bX t (by omega);have e5:dY (((l.getD t zT).1,((l.getD t zT).2.1,(l.getD t zT).2.2)),())=some (0,()):=hc t ht;simp only[pU,e1,e2,e3,oC];show aC (dY (((l.getD t zT).1,((l.getD t zT).2.1,(l.getD t zT).2.2)),())) _=_;rw[e5];simp only[aD,e0,Bool.not_true,oD,e4]
 ·have e1:ltI (l.length:Int) (l.length:Int)=false:=by rw[aE]; exact oF (by omega)
  simp only[pU,e1,oD]
theorem aBW(l:List TT)(hl:l.length<1048576)(hp:∀ i,i<l.length->(l.getD i zT).1.length<1048576){t:Nat}(ht:t<l.length){c:Bool}(hc:decide ((l.getD t zT).1=(l.getD 0 zT).1)=c) :
  iV (l,l,(l.length:Int),(t:Int),())=(bif c then some (.inl (l,l,(l.length:Int),((t+1:Nat):Int),())) else some (.inr (.inl (14,())))):=by
 have e1:ltI (t:Int) (l.length:Int)=true:=by rw[aE]; exact oT (by omega)
 have e2:aF (t:Int) l.length=true:=by rw[aM]; exact oT (by omega)
 have e3:((t:Nat):Int).toNat=t:=oN _;have e4:=bX t (by omega);have e5:aF 0 l.length=true:=by rw[aM]; exact oT (by omega)
 have e6:=aDR (l.getD t zT).1 (l.getD 0 zT).1 (hp t ht);simp only[iV,e1,e2,e3,e5,oC];show aC (cZ ((l.getD t zT).1,(l.getD 0 zT).1,())) _=_;rw[e6,hc];simp only[aD,e4]
theorem aYK(l:List TT)(hl:l.length<1048576)(hc:∀ i,i<l.length->dY (l.getD i zT,())=some (0,()))(hp:∀ i,i<l.length->(l.getD i zT).1.length<1048576)(he:∀ i,i<l.length->(l.getD i zT).1=(l.getD 0 zT).1):j9 (l,())=some (0,()):=by
 have key:=aU (step:=iV) (N:=2^64) (λt=>(l,l,(l.length:Int),(t:Int),())) l.length (.inr ()) (by omega) (λt ht=>aBW l hl hp ht (c:=true) (oT (he t ht))) (by
  have e1:ltI (l.length:Int) (l.length:Int)=false:=by rw[aE]; exact oF (by omega)
  simp only[iV,e1,oD])
 have key:pH (l,l,(l.length:Int),0,())=_:=key;simp only[j9,aGI l hl hc,aD,jN,key]
theorem aUK(l:List TT)(hl:l.length<1048576)(hc:∀ i,i<l.length->dY (l.getD i zT,())=some (0,()))(hp:∀ i,i<l.length->(l.getD i zT).1.length<1048576){x:Nat}(hx:x<l.length)(he:∀ i,i<x->(l.getD i zT).1=(l.getD 0 zT).1)(hn:(l.getD x zT).1≠(l.getD 0 zT).1):j9 (l,())=some (14,()):=by
 have key:=aU (step:=iV) (N:=2^64) (λt=>(l,l,(l.length:Int),(t:Int),())) x (.inl (14,())) (by omega) (λt ht=>aBW l hl hp (by omega) (c:=true) (oT (he t ht))) (aBW l hl hp hx (c:=false) (oF hn));have key:pH (l,l,(l.length:Int),0,())=_:=key;simp only[j9,aGI l hl hc,aD,jN,EL,key]
section
variable {ps ps':List Int} {n n' d r d' r':Nat} {C K C' K':Nat->V}
theorem RT.a2D (h:RT ps n d r C K):ps.length<1048576:=by have:=h.n4; have:=h.len; omega
theorem aDB(h:RT ps n d r C K) (h':RT ps n d' r' C' K'):∃ b,mB ((ps,(Mr d n C,Mr r n K)),(ps,(Mr d' n C',Mr r' n K')),())=some (b,())/\(b=true↔∀ i,i<d->Sp d' C' (C i)):=by
 obtain⟨q,hq⟩:=h.hc;have n4:=h.n4;have d4:=(Hn.gL hq h.wc).1;have e0:eqI 0 0=true:=by decide
 have row:∀ t,t<d->∃ b,kN ((ps,(Mr d' n C',Mr r' n K')),Vr n (C t),())=some (b,0,())/\(b=true↔Sp d' C' (C t)):=λt ht=>by
  obtain⟨b,h1,h2⟩:=aLH h' (Vr n (C t)) (vW _ _) (aBJ λx hx=>h.bc t ht x hx);rw[aV8 λx hx=>h.wc t ht x hx]at h2;exact⟨b,h1,h2⟩
 have step:∀ t,t<d->∀ b,kN ((ps,(Mr d' n C',Mr r' n K')),Vr n (C t),())=some (b,0,())->gS ((ps,(Mr d' n C',Mr r' n K')),Mr d n C,(d:Int),(t:Int),())=(bif b then some (.inl ((ps,(Mr d' n C',Mr r' n K')),Mr d n C,(d:Int),((t+1:Nat):Int),())) else some (.inr (.inl (false,())))):=λt ht b hb=>by
  have e1:ltI (t:Int) (d:Int)=true:=by rw[aE]; exact oT (by omega)
  have e2:aF (t:Int) d=true:=by rw[aM]; exact oT (by omega)
  have e3:((t:Nat):Int).toNat=t:=oN _;have e4:=bX t (by omega);simp only[gS,e1,cJ,e2,e3,Y5 C ht,hb,aD,e0,Bool.not_true,oD,oC,e4]
 have hlen:((Mr d n C).length:Int)=(d:Int):=by rw[cJ]
 by_cases hall:∀ i,i<d->Sp d' C' (C i)
 ·refine⟨true,?_,⟨λ_=>hall,λ_=>rfl⟩⟩;have key:=aU (step:=gS) (N:=2^64) (λt=>((ps,(Mr d' n C',Mr r' n K')),Mr d n C,(d:Int),(t:Int),())) d (.inr ()) (by omega) (λt ht=>by
   obtain⟨b,h1,h2⟩:=row t ht;rw[h2.2 (hall t ht)]at h1;exact step t ht true h1) (by
   have e1:ltI (d:Int) (d:Int)=false:=by rw[aE]; exact oF (by omega)
   simp only[gS,e1,oD])
  have key:pG ((ps,(Mr d' n C',Mr r' n K')),Mr d n C,(d:Int),0,())=_:=key;simp only[mB,hlen,key,aD,jN]
 ·refine⟨false,?_,⟨λh=>(by cases h),λh=>absurd h hall⟩⟩;obtain⟨x,hx1,hx2,hx3⟩:∃ x,x<d/\¬ Sp d' C' (C x)/\∀ y,y<x->Sp d' C' (C y):=by
   obtain⟨x0,h1⟩:=Classical.not_forall.1 hall;obtain⟨h1,h2⟩:=Classical.not_imp.1 h1;have:∀ N x0,x0<N->x0<d->¬ Sp d' C' (C x0)->∃ x,x<d/\¬ Sp d' C' (C x)/\∀ y,y<x->Sp d' C' (C y):=by
    intro N
    induction N with
    | zero=>intro x0 h; omega
    | succ N ih =>
     intro x0 h0 h1 h2
     by_cases hy:∀ y,y<x0->Sp d' C' (C y)
     ·exact⟨x0,h1,h2,hy⟩
     ·obtain⟨y,g1⟩:=Classical.not_forall.1 hy;obtain⟨g1,g2⟩:=Classical.not_imp.1 g1;exact ih y (by omega) (by omega) g2
   exact this (x0+1) x0 (by omega) h1 h2
  have key:=aU (step:=gS) (N:=2^64) (λt=>((ps,(Mr d' n C',Mr r' n K')),Mr d n C,(d:Int),(t:Int),())) x (.inl (false,())) (by omega) (λt ht=>by
   obtain⟨b,h1,h2⟩:=row t (by omega);rw[h2.2 (hx3 t ht)]at h1;exact step t (by omega) true h1) (by
   obtain⟨b,h1,h2⟩:=row x hx1;cases b with
   | true=>exact absurd (h2.1 rfl) hx2
   | false=>exact step x hx1 false h1)
  have key:pG ((ps,(Mr d' n C',Mr r' n K')),Mr d n C,(d:Int),0,())=_:=key;simp only[mB,hlen,key,aD,EL]
end
section
variable {ps ps':List Int} {n n' d r d' r':Nat} {C K C' K':Nat->V}
theorem aUQ(h:RT ps n d r C K)(h':RT ps' n' d' r' C' K'):j9 ([(ps,(Mr d n C,Mr r n K)),(ps',(Mr d' n' C',Mr r' n' K'))],())=some (if ps'=ps then 0 else 14,()):=by
 have two:∀ i,i<2->i=0\/i=1:=λi hi=>by omega
 have c:∀ i,i<2->dY (([(ps,(Mr d n C,Mr r n K)),(ps',(Mr d' n' C',Mr r' n' K'))]:List TT).getD i zT,())=some (0,()):=λi hi=>by
  rcases two i hi with rfl|rfl
  ·exact h.check
  ·exact h'.check
 have p:∀ i,i<2->(([(ps,(Mr d n C,Mr r n K)),(ps',(Mr d' n' C',Mr r' n' K'))]:List TT).getD i zT).1.length<1048576:=λi hi=>by
  rcases two i hi with rfl|rfl
  ·exact h.a2D
  ·exact h'.a2D
 by_cases e:ps'=ps
 ·rw[if_pos e];refine aYK _ (by show 2<_; omega) c p λi hi=>?_
  rcases two i hi with rfl|rfl
  ·rfl
  ·exact e
 ·rw[if_neg e];refine aUK _ (by show 2<_; omega) c p (x:=1) (by show 1<2; omega) (λi hi=>?_) e;obtain rfl:i=0:=by omega
  rfl
end
def aVK(p:Int×List (Int×Int×Int×Int)×Bool):Prop:=(0<=p.1/\p.1<256)/\∀ t∈p.2.1,I8 t
theorem aZT(p:Int×List (Int×Int×Int×Int)×Bool):uW (p,())=some (decide (p.2.1.length<=3),()):=by
 obtain⟨a,b,c⟩:=p;have:(!(ltI 3 (b.length:Int)))=decide (b.length<=3):=by
  rw[aE]
  by_cases h:b.length<=3
  ·rw[oT h,oF (by omega)]; rfl
  ·rw[oF h,oT (by omega)]; rfl
 simp only[uW,this]
theorem wf_u8 {x:Int}(h:(Lit.int .u8 x).wf=true):0<=x/\x<256:=by
 simp only[Lit.wf,oA,decide_eq_true_eq]at h;have h1:IntKind.u8.min=0:=by decide
 have h2:IntKind.u8.max=255:=by decide
 omega
theorem wf_i8 {x:Int}(h:(Lit.int .i8 x).wf=true) : -128<=x/\x<128:=by
 simp only[Lit.wf,oA,decide_eq_true_eq]at h;have h1:IntKind.i8.min = -128:=by decide
 have h2:IntKind.i8.max=127:=by decide
 omega
theorem a0Q {p:Int×List (Int×Int×Int×Int)×Bool}(h:WF (.prod (.int .u8) (.prod (.list (.prod (.int .i8) (.prod (.int .i8) (.prod (.int .i8) (.int .i8))))) .bool)) p):aVK p:=by
 obtain⟨h1,⟨_,h2⟩,_⟩:=h;refine⟨wf_u8 h1,λt ht i hi=>?_⟩;obtain⟨a1,a2,a3,a4⟩:=h2 t ht;rcases(show i=0\/i=1\/i=2\/i=3 by omega)with rfl|rfl|rfl|rfl
 ·exact wf_i8 a1
 ·exact wf_i8 a2
 ·exact wf_i8 a3
 ·exact wf_i8 a4
end Go.PM
