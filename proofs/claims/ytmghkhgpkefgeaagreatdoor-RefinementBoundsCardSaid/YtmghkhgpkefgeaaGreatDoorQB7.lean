/- Texts of one proof, joined (7). -/
import Derived.Lib.AtoiAllCases
import Derived.Test.YtmghkhgpkefgeaaGreatDoorQB6
set_option linter.unusedSimpArgs false
set_option linter.unusedVariables false
set_option maxRecDepth 100000
noncomputable section
namespace Go.PM
open Go Go.RowKit Go.Proofs
set_option maxHeartbeats 4000000
def aCY(x:aH [.int .i64]):Option (aH [.bool]):=match x with
 | (v0,()) =>
  bif !(ltI v0 (-1000000000)) then
   some (!(ltI 1000000000 v0),())
  else some (false,())
theorem aS5:bC tP (cG []):=bG trivial
theorem aY7:eX tP 146 _ _ aCY:=by exact bX aK aS5 Tryz.func146 (c:=aQ Tryz.f146) (by kernel_rfl) (aV:=aG Tryz.f146) (lt:=λ_=>none) (aD (lt:=λ_=>none) (l:=[]) (by kernel_rfl) trivial) (by rintro⟨v0,⟨⟩⟩; kernel_rfl)
abbrev aSE:Ent:=⟨146,_,_,aCY⟩
theorem aUR:Ent.OK tP aSE:=aY7
def P1(x:aH [.int .i64]):Option (aH [.bool]):=match x with
 | (v0,()) =>
  aC (aCY (v0,())) λy1 =>
  bif y1.1 then
   some (false,())
  else some (true,())
theorem aLX:bC tP (cG [aSE]):=bG ⟨aUR,trivial⟩
theorem aP7:eX tP 145 _ _ P1:=by exact bX aK aLX Tryz.func145 (c:=aQ Tryz.f145) (by kernel_rfl) (aV:=aG Tryz.f145) (lt:=λ_=>none) (aD (lt:=λ_=>none) (l:=[]) (by kernel_rfl) trivial) (by rintro⟨v0,⟨⟩⟩; kernel_rfl)
abbrev aH3:Ent:=⟨145,_,_,P1⟩
theorem aL0:Ent.OK tP aH3:=aP7
abbrev eU:List (Nat×Kd):=[(0,.list TyE),(1,.fn 145),(7,.int .i64),(8,.int .i64)]
abbrev gL:List (Ex×List (Nat×Kd)):=[(.ret,[(4,.int .i64)]),(.exit 0,[])]
def dV(x:Shape.den eU):Option (Shape.den eU⊕aW gL):=match x with
 | (v0,v1,v7,v8,()) =>
  bif ltI v8 v7 then
   bif aI v8 v0.length then aC (P1 ((v0.getD v8.toNat 0),())) λy2 =>
   bif y2.1 then
    some (.inr (.inl (v8,())))
   else some (.inl (v0,(),v7,(aB .i64 (v8+1)),())) else none
  else some (.inr (.inr ((()))))
def jV(x:Shape.den eU):Option (aW gL):=cE dV (2^64) x
def nN(x:aH [.list TyE,.fn 145]):Option (aH [.int .i64]):=match x with
 | (v0,v1,()) =>
  aC (jV (v0,(),(v0.length:Int),0,())) λz3 =>
  C5 z3 (λa4=>some (a4.1,())) λb5 =>
  some ((-1),())
def AV:Code:=aQ Tryz.f197
abbrev A5:Env:=cG [aH3]
theorem wT:bC tP A5:=bG ⟨aL0,trivial⟩
def qK:Code:=eR AV 0
def zJ(id:Nat):Option b9:=bif Nat.beq id 2 then some ⟨eU,gL,jV⟩ else none
theorem GN:∀ x,eM tP A5 19 (aG Tryz.f197) zJ qK eU gL x=dV x:=by
 rintro⟨v0,v1,v7,v8,⟨⟩⟩
 kernel_rfl
theorem HL:cT tP 19 qK ⟨eU,gL,jV⟩:=by exact cQ wT.callee aK.mixed _ (aD (l:=[]) (by kernel_rfl) trivial) GN
theorem KP:eX tP 197 _ _ nN:=by exact bX aK wT Tryz.func197 (c:=AV) (by kernel_rfl) (aV:=aG Tryz.f197) (lt:=zJ) (aD (l:=[qK]) (by kernel_rfl) ⟨cO (i:=2) (by kernel_rfl) rfl HL,trivial⟩) (by rintro⟨v0,v1,⟨⟩⟩; kernel_rfl)
abbrev A7:Ent:=⟨197,_,_,nN⟩
theorem JC:Ent.OK tP A7:=KP
def lO(x:aH [.list TyE,.fn 145]):Option (aH [.bool]):=match x with
 | (v0,v1,()) =>
  aC (nN (v0,(),())) λy1 =>
  some (!(ltI y1.1 0),())
theorem G7:bC tP (cG [A7]):=bG ⟨JC,trivial⟩
theorem IA:eX tP 144 _ _ lO:=by exact bX aK G7 Tryz.func144 (c:=aQ Tryz.f144) (by kernel_rfl) (aV:=aG Tryz.f144) (lt:=λ_=>none) (aD (lt:=λ_=>none) (l:=[]) (by kernel_rfl) trivial) (by rintro⟨v0,v1,⟨⟩⟩; kernel_rfl)
abbrev xC:Ent:=⟨144,_,_,lO⟩
theorem G8:Ent.OK tP xC:=IA
def LH(x:aH [.list TyE]):Option (aH [.int .i64]):=match x with
 | (v0,()) =>
  bif ltI 64 (v0.length:Int) then
   some (4,())
  else aC (lO (v0,(),())) λy1 =>
  bif y1.1 then
   some (4,())
  else some (0,())
theorem aPK:bC tP (cG [xC]):=bG ⟨G8,trivial⟩
theorem aW9:eX tP 103 _ _ LH:=by exact bX aK aPK Tryz.func103 (c:=aQ Tryz.f103) (by kernel_rfl) (aV:=aG Tryz.f103) (lt:=λ_=>none) (aD (lt:=λ_=>none) (l:=[]) (by kernel_rfl) trivial) (by rintro⟨v0,⟨⟩⟩; kernel_rfl)
abbrev aN5:Ent:=⟨103,_,_,LH⟩
theorem aP3:Ent.OK tP aN5:=aW9
abbrev vI:List (Nat×Kd):=[(1,.int .i64),(8,.list TyD),(9,.int .i64),(10,.int .i64)]
abbrev A0:List (Ex×List (Nat×Kd)):=[(.ret,[(4,.int .i64)]),(.exit 0,[])]
def r7(x:Shape.den vI):Option (Shape.den vI⊕aW A0):=match x with
 | (v1,v8,v9,v10,()) =>
  bif ltI v10 v9 then
   bif aI v10 v8.length then aC (LH ((v8.getD v10.toNat []),())) λy2 =>
   bif !(eqI y2.1 0) then
    some (.inr (.inl (y2.1,())))
   else bif !(eqI ((v8.getD v10.toNat []).length:Int) v1) then
    some (.inr (.inl (5,())))
   else some (.inl (v1,v8,v9,(aB .i64 (v10+1)),())) else none
  else some (.inr (.inr ((()))))
def CB(x:Shape.den vI):Option (aW A0):=cE r7 (2^64) x
def HH(x:aH [.list TyD,.int .i64]):Option (aH [.int .i64]):=match x with
 | (v0,v1,()) =>
  aC (CB (v1,v0,(v0.length:Int),0,())) λz3 =>
  C5 z3 (λa4=>some (a4.1,())) λb5 =>
  some (0,())
def aEE:Code:=aQ Tryz.f177
abbrev aEO:Env:=cG [aN5]
theorem W6:bC tP aEO:=bG ⟨aP3,trivial⟩
def OT:Code:=eR aEE 0
def aA7(id:Nat):Option b9:=bif Nat.beq id 2 then some ⟨vI,A0,CB⟩ else none
theorem aDS:∀ x,eM tP aEO 24 (aG Tryz.f177) aA7 OT vI A0 x=r7 x:=by
 rintro⟨v1,v8,v9,v10,⟨⟩⟩
 kernel_rfl
theorem aF9:cT tP 24 OT ⟨vI,A0,CB⟩:=by exact cQ W6.callee aK.mixed _ (aD (l:=[]) (by kernel_rfl) trivial) aDS
theorem aNJ:eX tP 177 _ _ HH:=by exact bX aK W6 Tryz.func177 (c:=aEE) (by kernel_rfl) (aV:=aG Tryz.f177) (lt:=aA7) (aD (l:=[OT]) (by kernel_rfl) ⟨cO (i:=2) (by kernel_rfl) rfl aF9,trivial⟩) (by rintro⟨v0,v1,⟨⟩⟩; kernel_rfl)
abbrev aEC:Ent:=⟨177,_,_,HH⟩
theorem aI8:Ent.OK tP aEC:=aNJ
def AE(x:aH [.int .i64,.list TyD]):Option (aH [.int .i64]):=match x with
 | (v0,v1,()) =>
  bif ltI v0 0 then
   some (3,())
  else bif ltI 12 v0 then
   some (3,())
  else bif ltI 12 (v1.length:Int) then
   some (4,())
  else aC (HH (v1,v0,())) λy1 =>
  some (y1.1,())
theorem aG5:bC tP (cG [aEC]):=bG ⟨aI8,trivial⟩
theorem aLB:eX tP 128 _ _ AE:=by exact bX aK aG5 Tryz.func128 (c:=aQ Tryz.f128) (by kernel_rfl) (aV:=aG Tryz.f128) (lt:=λ_=>none) (aD (lt:=λ_=>none) (l:=[]) (by kernel_rfl) trivial) (by rintro⟨v0,v1,⟨⟩⟩; kernel_rfl)
abbrev RP:Ent:=⟨128,_,_,AE⟩
theorem TX:Ent.OK tP RP:=aLB
abbrev jF:List (Nat×Kd):=[(4,.bag 98 TyE 53 TyD none),(6,.bag 98 TyE 53 TyD none),(13,.own 148 (.hnd 1)),(14,.int .i64),(15,.int .i64),(100000,.ar 110 .str)]
abbrev mZ:List (Ex×List (Nat×Kd)):=[(.ret,[(4,.bag 98 TyE 53 TyD none),(5,.int .i64),(100000,.ar 110 .str)]),(.exit 0,[(4,.bag 98 TyE 53 TyD none),(6,.bag 98 TyE 53 TyD none),(100000,.ar 110 .str)])]
def gR(x:Shape.den jF):Option (Shape.den jF⊕aW mZ):=match x with
 | (v4,v6,v13,v14,v15,v100000,()) =>
  bif ltI v15 v14 then
   bif aI v15 v13.length then bif Nat.blt v15.toNat v13.length then aC (lW () (((v13.getD v15.toNat (0,0,0)).1,(v13.getD v15.toNat (0,0,0)).2.1,(v13.getD v15.toNat (0,0,0)).2.2),()) v100000) λy2 =>
   bif !(eqI y2.1.2.1 0) then
    some (.inr (.inl ((0,([],())),y2.1.2.1,y2.2,())))
   else bif Nat.ble [y2.1.1].length 1048576 then bif Nat.ble v6.2.1.length 1048576 then some (.inl ((v4.1,(v4.2.1,())),(v6.1,((v6.2.1++[y2.1.1]),())),v13,v14,(aB .i64 (v15+1)),y2.2,())) else none else none else none else none
  else some (.inr (.inr (((v4.1,(v4.2.1,())),(v6.1,(v6.2.1,())),v100000,()))))
def pE(x:Shape.den jF):Option (aW mZ):=cE gR (2^64) x
def dH(v0:List (Nat×Nat×Nat))(x:aH [.int .i64])(A:List (List ByteArray)):Option ((aH [.agg TyH,.int .i64])×List (List ByteArray)):=match x with
 | (v1,()) =>
  aC (pE ((0,([],())),(v1,([],())),v0,(v0.length:Int),0,A,())) λz3 =>
  C5 z3 (λa4=>some (((a4.1.1,a4.1.2.1),a4.2.1,()),a4.2.2.1)) λb5 =>
  some (((b5.2.1.1,b5.2.1.2.1),0,()),b5.2.2.1)
def tJ:Code:=aQ Tryz.f123
abbrev A6:Env:=NN [] [K5]
theorem FC:bC tP A6:=o9 trivial ⟨U8,trivial⟩
def xI:Code:=inLoop (aXV tJ 0)
def yW(id:Nat):Option b9:=bif Nat.beq id 3 then some ⟨jF,mZ,pE⟩ else none
def zF(id:Nat):Option b9:=none
theorem MX:∀ x,aTG tP A6 36 (aEG Tryz.f123) yW zF false [] xI jF mZ x=gR x:=by
 rintro⟨v4,v6,v13,v14,v15,v100000,⟨⟩⟩
 kernel_rfl
theorem OE:XB tP 36 false [] (.loop xI) ⟨jF,mZ,pE⟩:=by exact aMQ FC.callee aK.mixed _ (XQ (l:=[]) (by kernel_rfl) trivial) MX
theorem QE:jN tJ=[.loop xI]:=by kernel_rfl
theorem SB:∀ l x A,aY1 tP A6 Tryz.f123 (aEG Tryz.f123) yW zF tJ 110 .str (.own 148 (.hnd 1)) [.int .i64] (.data [.agg TyH,.int .i64]) l x A=dH l x A:=by
 rintro u0 ⟨v1,⟨⟩⟩ A
 kernel_rfl
theorem VM:MZ tP 123 110 .str (.own 148 (.hnd 1)) [.int .i64] (.data [.agg TyH,.int .i64]) dH:=by exact a7U aK FC Tryz.func123 (c:=tJ) (by kernel_rfl) (aV:=aEG Tryz.f123) (lt:=yW) (rt:=zF) (by rfl) (XQ QE ⟨aOP (i:=3) (by kernel_rfl) rfl OE,trivial⟩) SB
abbrev mK:Shr:=(123,TG 1 (arH 110 .str (.own 148 (.hnd 1)) [.int .i64] (.data [.agg TyH,.int .i64]) dH))
theorem mV:xB tP mK:=sO (g:=123) (f:=arH 110 .str (.own 148 (.hnd 1)) [.int .i64] (.data [.agg TyH,.int .i64]) dH) (FJ VM)
def B0(x:aH [.int .i64,.list TyD]):Option (aH [.agg TyH,.int .i64]):=match x with
 | (v0,v1,()) =>
  aC (AE (v0,v1,())) λy1 =>
  bif !(eqI y1.1 0) then
   some ((0,[]),y1.1,())
  else aC (dE () (v1,()) []) λy2 =>
  aC (dG y2.1 (v0,()) y2.2) λy3 =>
  aC (dH y3.1 (v0,()) y3.2) λy4 =>
  some (y4.1.1,y4.1.2.1,())
def aCT:Code:=aQ Tryz.f86
abbrev aKB:Env:=NN [RP] [uH,mO,mK]
theorem aO9:bC tP aKB:=o9 ⟨TX,trivial⟩ ⟨uX,nF,mV,trivial⟩
def aGQ(id:Nat):Option b9:=none
theorem aLS:cB aCT=[]:=by kernel_rfl
theorem aOM:∀ x,aEA tP aKB Tryz.f86 (aG Tryz.f86) aGQ aCT 110 .str _ _ x=B0 x:=by
 rintro⟨v0,v1,⟨⟩⟩
 kernel_rfl
theorem aTV:eX tP 86 _ _ B0:=by exact aKN aK aO9 Tryz.func86 (c:=aCT) (by kernel_rfl) (aV:=aG Tryz.f86) (lt:=aGQ) (aD aLS trivial) aOM
abbrev aA6:Ent:=⟨86,_,_,B0⟩
theorem aB2:Ent.OK tP aA6:=aTV
end Go.PM
namespace Go.PM
open Go Go.RowKit Go.Proofs Go.Lz
def HN(r:List Int):V:=λx=>r.getD x 0
def LV(m:List (List Int)):Nat->V:=λi=>HN (m.getD i [])
def Vr(n:Nat) (v:V):List Int:=(List.range n).map v
theorem a09(r:List Int):Zr r.length (HN r)=r.map Zn:=by
 refine List.ext_getElem? λi=>?_
 simp only[Zr,List.getElem?_map]
 by_cases h:i<r.length
 ·rw[List.getElem?_range h,List.getElem?_eq_getElem h];simp[HN,List.getD,h]
 ·have h1:(List.range r.length)[i]?=none:=by simp; omega
  rw[h1,List.getElem?_eq_none (by omega)]; rfl
theorem a1B {n:Nat}{v:V}(hw:∀ x,n<=x->v x=0):HN (Vr n v)=v:=by
 funext x
 unfold HN Vr
 by_cases h:x<n
 ·simp[List.getD,h]
 ·have h1:(List.range n)[x]?=none:=by simp; omega
  simp[List.getD,h1,hw x (by omega)]
theorem aW0(n:Int)(h:Lib.nDigits n.natAbs<=18):JR (Zn n,())=some (n,true,()):=by
 have hl:=aCO h;have hs:(Zn n).size<=1000000000:=by
  rcases(by omega:n<0\/0<=n)with g|g
  ·rw[I1 g]; omega
  ·rw[U7 g,F8]; omega
 have e1:Nat.ble (Zn n).size 1000000000=true:=by rw[eI]; simpa using hs
 have e2:eqI 10 10=true:=by decide
 have e3:eqI 64 64=true:=by decide
 have e4:Lib.parseIntB 64 (Zn n).data.toList=.ok n:=by
  have hne:∀ c r,Lib.decDigits n.natAbs=c::r->c.toNat≠43/\c.toNat≠45:=λc r he=>by
   have:=MD n.natAbs c (by rw[he]; simp);omega
  have hmag:=aRV n.natAbs;rw[CU]at hmag;have hlen:(Lib.decDigits n.natAbs).length<=18:=by rw[Lib.decDigits_length]; exact h
  rw[Lib.parseIntB_64];rcases(by omega:n<0\/0<=n)with g|g
  ·have hn : -(n.natAbs:Int)=n:=by omega
   rw[YV g,Lib.atoiAll_minus,Lib.signed_short hlen,hmag];simp only[Option.map_some,hn];rfl
  ·have hn:(n.natAbs:Int)=n:=by omega
   rw[U7 g,CU];cases he:Lib.decDigits n.natAbs with
   | nil=>exact absurd he (J5 _)
   | cons c r =>
    obtain⟨h1,h2⟩:=hne c r he;rw[Lib.atoiAll_plain c r h1 h2,<- he,Lib.signless_short hlen,hmag];simp only[Option.map_some,hn];rfl
 unfold JR yE;simp only[e1,e2,e3,Bool.and_self,oC,e4,aE]
theorem aKK(r:List Int)(hl:r.length<=1048576)(hr:∀ a∈r,-9223372036854775808<=a/\a<9223372036854775808) :
  wP ([],r,(r.length:Int),0,())=some (r.map Zn,()):=by
 have key:=bF (step:=rR) (N:=2^64) (λt=>((r.take t).map Zn,r,(r.length:Int),(t:Int),())) r.length (r.map Zn,()) (by omega) (λt ht=>?_) ?_
 ·exact key
 ·have e1:ltI (t:Int) (r.length:Int)=true:=by rw[aF]; exact oT (by omega)
  have e2:aI (t:Int) r.length=true:=by rw[aP]; exact oT (by omega)
  have e3:((t:Nat):Int).toNat=t:=oN _;have e4:r.getD t 0=r[t]:=by simp[List.getD,ht]
  obtain⟨b1,b2⟩:=hr r[t] (List.getElem_mem ht);have e5:=AD r[t] b1 b2;have e6:Nat.ble [Zn r[t]].length 1048576=true:=rfl;have e7:Nat.ble ((r.take t).map Zn).length 1048576=true:=by rw[eI,List.length_map,List.length_take]; exact oT (by omega)
  have e8:=cS t (by omega);have e9:(r.take t).map Zn++[Zn r[t]]=(r.take (t+1)).map Zn:=by rw[List.take_succ_eq_append_getElem ht,List.map_append]; rfl
  simp only[rR,e1,e2,e3,e4,e5,aE,e6,e7,oC,e8,e9]
 ·have e1:ltI (r.length:Int) (r.length:Int)=false:=by rw[aF]; exact oF (by omega)
  simp only[rR,e1,oD,List.take_length]
theorem aC9(r:List Int)(hl:r.length<=1048576)(hr:∀ a∈r,-9223372036854775808<=a/\a<9223372036854775808):pM (r,())=some (r.map Zn):=by
 have e1:ltI (r.length:Int) 0=false:=by rw[aF]; exact oF (by omega)
 have e2:ltI 1048576 (r.length:Int)=false:=by rw[aF]; exact oF (by omega)
 unfold pM;simp only[e1,e2,Bool.not_false,oC,List.replicate_zero,aKK r hl hr,aE]
theorem aPF(rows:List (List Int)) {n:Nat} (hk:rows.length<1048576) (hn:n<1048576) (hlen:∀ r∈rows,r.length=n) (hr:∀ r∈rows,∀ a∈r,-9223372036854775808<=a/\a<9223372036854775808) :
  ∃ m A,dE () (rows,()) []=some (m,A)/\nJ 0 rows.length n m A (λi=>i) (LV rows):=by
 have key:=bF (step:=eT) (N:=2^64)
  (λt=>((List.range t).map (λi=>(i,0,n)),rows,(rows.length:Int),(t:Int),(rows.take t).map (·.map Zn),())) rows.length ((List.range rows.length).map (λi=>(i,0,n)),rows.map (·.map Zn),()) (by omega) (λt ht=>?_) ?_
 ·refine⟨(List.range rows.length).map (λi=>(i,0,n)),rows.map (·.map Zn),?_,rfl,λi hi=>⟨[],rfl,?_⟩,λi j _ _ h=>h⟩
  ·unfold dE o5;have key:cE eT (2^64) ([],rows,(rows.length:Int),0,[],())=_:=key;simp only[key,aE]
  ·rw[List.getElem?_map,List.getElem?_eq_getElem hi];simp only[Option.map_some,List.nil_append]
   congr 1
   have h1:LV rows i=HN rows[i]:=by unfold LV; simp[List.getD,hi]
   rw[h1,<- a09,hlen rows[i] (List.getElem_mem hi)]
 ·have e1:ltI (t:Int) (rows.length:Int)=true:=by rw[aF]; exact oT (by omega)
  have e2:aI (t:Int) rows.length=true:=by rw[aP]; exact oT (by omega)
  have e3:((t:Nat):Int).toNat=t:=oN _;have e4:rows.getD t []=rows[t]:=by simp[List.getD,ht]
  have hm:=List.getElem_mem ht;have e5:=aC9 rows[t] (by rw[hlen _ hm]; omega) (hr _ hm);have e6:((rows.take t).map (·.map Zn)).length=t:=by rw[List.length_map,List.length_take]; omega
  have e7:Nat.ble [(t,0,n)].length 1048576=true:=rfl;have e8:Nat.ble ((List.range t).map (λi=>(i,0,n))).length 1048576=true:=by rw[eI,List.length_map,List.length_range]; exact oT (by omega)
  have e9:=cS t (by omega);have e10:(rows[t].map Zn).length=n:=by rw[List.length_map,hlen _ hm]
  have e11:(rows.take t).map (·.map Zn)++[rows[t].map Zn]=(rows.take (t+1)).map (·.map Zn):=by rw[List.take_succ_eq_append_getElem ht,List.map_append]; rfl
  have e12:(List.range t).map (λi=>(i,0,n))++[(t,0,n)]=(List.range (t+1)).map (λi=>(i,0,n)):=by rw[List.range_succ,List.map_append]; rfl
  simp only[eT,e1,e2,e3,e4,e5,aE,e6,e7,e8,e9,e10,e11,e12,oC]
 ·have e1:ltI (rows.length:Int) (rows.length:Int)=false:=by rw[aF]; exact oF (by omega)
  simp only[eT,e1,oD,List.take_length]
theorem a26 {A:List (List ByteArray)} {J o n:Nat} {v:V} {pre:List ByteArray} (hn:n<1048576) (hp:pre.length=o) (hJ:A[J]?=some (pre++Zr n v)) (ok:∀ x,x<n->(v x).natAbs<=1000000000) :
  lW () ((J,o,n),()) A=some ((Vr n v,0,()),A):=by
 have key:=bF (step:=jI) (N:=2^64) (λt=>(Vr t v,(J,o,n),(n:Int),(t:Int),A,())) n (.inr (Vr n v,A,())) (by omega) (λt ht=>?_) ?_
 ·have e1:ltI (n:Int) 0=false:=by rw[aF]; exact oF (by omega)
  have e2:ltI 1048576 (n:Int)=false:=by rw[aF]; exact oF (by omega)
  have key:cE jI (2^64) ([],(J,o,n),(n:Int),0,A,())=_:=key;unfold lW qY;simp only[e1,e2,Bool.not_false,oC,List.replicate_zero,key,aE,nQ]
 ·have b1:=ok t ht;have e1:ltI (t:Int) (n:Int)=true:=by rw[aF]; exact oT (by omega)
  have e2:aI (t:Int) n=true:=by rw[aP]; exact oT (by omega)
  have e3:(o+((t:Nat):Int).toNat)*1=o+t:=by simp
  have e4:dJ A J=o+n:=by rw[dJ,aIP _ hJ,List.length_append,fM,hp]
  have e6:Nat.blt (o+t) (o+n)=true:=by rw[cP]; simpa using ht
  have e7:eD A J (o+t) ByteArray.empty=Zn (v t):=by rw[eD,aIP _ hJ,aB5 hp,RQ _ ht]
  have e8:=aW0 (v t) (by have:=CS (u:=(v t).natAbs) (k:=17) (by omega); omega);have e9:ltI 1000000000 (v t)=false:=by rw[aF]; exact oF (by omega)
  have e10:ltI (v t) (-1000000000)=false:=by rw[aF]; exact oF (by omega)
  have e11:Nat.ble [v t].length 1048576=true:=rfl;have e12:Nat.ble (Vr t v).length 1048576=true:=by rw[eI]; unfold Vr; rw[List.length_map,List.length_range]; exact oT (by omega)
  have e13:=cS t (by omega);have e14:Vr t v++[v t]=Vr (t+1) v:=by unfold Vr; rw[List.range_succ,List.map_append]; rfl
  simp only[jI,e1,e2,e3,e4,e6,e7,e8,e9,e10,e11,e12,e13,e14,aE,oC,oD]
 ·have e1:ltI (n:Int) (n:Int)=false:=by rw[aF]; exact oF (by omega)
  simp only[jI,e1,oD]
theorem aAT {o k d n:Nat} {m:List (Nat×Nat×Nat)} {A:List (List ByteArray)} {J:Nat->Nat} {M:Nat->V} (h:nJ o k n m A J M) (hd:d<=k) (hk:k<1048576) (hn:n<1048576) (ok:∀ i,i<d->∀ x,x<n->(M i x).natAbs<=1000000000) (cols:Int) :
  dH (m.take d) (cols,()) A=some (((cols,(List.range d).map λi=>Vr n (M i)),0,()),A):=by
 have hl:(m.take d).length=d:=by rw[List.length_take,h.len]; omega
 have hg:∀ t,t<d->(m.take d).getD t (0,0,0)=(J t,o,n):=λt ht=>by
  rw[<- h.get (show t<k by omega)];simp[List.getD,List.getElem?_take,ht]
 have key:=bF (step:=gR) (N:=2^64)
  (λt=>((0,([],())),(cols,((List.range t).map (λi=>Vr n (M i)),())),m.take d,((m.take d).length:Int),(t:Int),A,())) d (.inr ((0,([],())),(cols,((List.range d).map (λi=>Vr n (M i)),())),A,())) (by omega) (λt ht=>?_) ?_
 ·have key:cE gR (2^64) ((0,([],())),(cols,([],())),m.take d,((m.take d).length:Int),0,A,())=_:=key;unfold dH pE;simp only[key,aE,nQ]
 ·rw[hl];obtain⟨pre,h1,h2⟩:=h.at_ t (by omega);have e1:ltI (t:Int) (d:Int)=true:=by rw[aF]; exact oT (by omega)
  have e2:aI (t:Int) d=true:=by rw[aP]; exact oT (by omega)
  have e3:((t:Nat):Int).toNat=t:=oN _;have e4:Nat.blt t d=true:=by rw[cP]; simpa using ht
  have e5:=a26 hn h1 h2 (ok t ht);have e6:eqI 0 0=true:=by decide
  have e7:Nat.ble [Vr n (M t)].length 1048576=true:=rfl;have e8:Nat.ble ((List.range t).map (λi=>Vr n (M i))).length 1048576=true:=by rw[eI,List.length_map,List.length_range]; exact oT (by omega)
  have e9:=cS t (by omega);have e10:(List.range t).map (λi=>Vr n (M i))++[Vr n (M t)]=(List.range (t+1)).map (λi=>Vr n (M i)):=by rw[List.range_succ,List.map_append]; rfl
  simp only[gR,hl,e1,e2,e3,e4,hg t ht,e5,e6,e7,e8,e9,e10,aE,oC,Bool.not_true,oD]
 ·rw[hl];have e1:ltI (d:Int) (d:Int)=false:=by rw[aF]; exact oF (by omega)
  simp only[gR,e1,oD]
theorem aT3(r:List Int) (hl:r.length<=64) (hr:∀ a∈r,a.natAbs<=1000000000):LH (r,())=some (0,()):=by
 have key:=bF (step:=dV) (N:=2^64) (λt=>(r,(),(r.length:Int),(t:Int),())) r.length (.inr ()) (by omega) (λt ht=>?_) ?_
 ·have key:cE dV (2^64) (r,(),(r.length:Int),0,())=some (.inr ()):=key;have e1:ltI 64 (r.length:Int)=false:=by rw[aF]; exact oF (by omega)
  have e2:ltI (-1) 0=true:=by decide
  simp only[LH,e1,oD,lO,nN,jV,key,aE,nQ,e2,Bool.not_true]
 ·have e1:ltI (t:Int) (r.length:Int)=true:=by rw[aF]; exact oT (by omega)
  have e2:aI (t:Int) r.length=true:=by rw[aP]; exact oT (by omega)
  have e3:((t:Nat):Int).toNat=t:=oN _;have e4:r.getD t 0=r[t]:=by simp[List.getD,ht]
  have b:=hr r[t] (List.getElem_mem ht);have e5:ltI r[t] (-1000000000)=false:=by rw[aF]; exact oF (by omega)
  have e6:ltI 1000000000 r[t]=false:=by rw[aF]; exact oF (by omega)
  have e7:=cS t (by omega);simp only[dV,e1,e2,e3,e4,P1,aCY,e5,e6,aE,Bool.not_false,oC,oD,e7]
 ·have e1:ltI (r.length:Int) (r.length:Int)=false:=by rw[aF]; exact oF (by omega)
  simp only[dV,e1,oD]
theorem aVH(rows:List (List Int)){n:Nat}(hk:rows.length<1048576)(hn:n<=64)(hlen:∀ r∈rows,r.length=n)(hr:∀ r∈rows,∀ a∈r,a.natAbs<=1000000000):HH (rows,(n:Int),())=some (0,()):=by
 have key:=bF (step:=r7) (N:=2^64) (λt=>((n:Int),rows,(rows.length:Int),(t:Int),())) rows.length (.inr ()) (by omega) (λt ht=>?_) ?_
 ·have key:cE r7 (2^64) ((n:Int),rows,(rows.length:Int),0,())=some (.inr ()):=key;simp only[HH,CB,key,aE,nQ]
 ·have e1:ltI (t:Int) (rows.length:Int)=true:=by rw[aF]; exact oT (by omega)
  have e2:aI (t:Int) rows.length=true:=by rw[aP]; exact oT (by omega)
  have e3:((t:Nat):Int).toNat=t:=oN _;have e4:rows.getD t []=rows[t]:=by simp[List.getD,ht]
  have hm:=List.getElem_mem ht;have e5:=aT3 rows[t] (by rw[hlen _ hm]; exact hn) (hr _ hm);have e6:eqI 0 0=true:=by decide
  have e7:eqI (rows[t].length:Int) (n:Int)=true:=by rw[jZ,hlen _ hm]; exact oT rfl
  have e8:=cS t (by omega);simp only[r7,e1,e2,e3,e4,e5,aE,e6,e7,e8,Bool.not_true,oC,oD]
 ·have e1:ltI (rows.length:Int) (rows.length:Int)=false:=by rw[aF]; exact oF (by omega)
  simp only[r7,e1,oD]
theorem aXG(rows:List (List Int)){n:Nat}(hk:rows.length<=12)(hn:n<=12)(hlen:∀ r∈rows,r.length=n)(hr:∀ r∈rows,∀ a∈r,a.natAbs<=1000000000):AE ((n:Int),rows,())=some (0,()):=by
 have e1:ltI (n:Int) 0=false:=by rw[aF]; exact oF (by omega)
 have e2:ltI 12 (n:Int)=false:=by rw[aF]; exact oF (by omega)
 have e3:ltI 12 (rows.length:Int)=false:=by rw[aF]; exact oF (by omega)
 simp only[AE,e1,e2,e3,oD,aVH rows (by omega) (by omega) hlen hr,aE]
theorem of_eq(rows:List (List Int)) {n:Nat} (hk:rows.length<=12) (hn:n<=12) (hlen:∀ r∈rows,r.length=n) {E T:Nat->Nat} (hr:∀ r∈rows,∀ a∈r,a.natAbs<=E 0) (hE:E 0<=1000000000) (hb:Bds rows.length n E T)
  (hfin:∀ d M p,d<=rows.length->Hn d M p->Same rows.length (LV rows) d M->(∀ i,i<d->∀ x,n<=x->M i x=0)->∀ i,i<d->∀ x,x<n->(M i x).natAbs<=1000000000) :
  ∃ d M p,B0 ((n:Int),rows,())=some (((n:Int),(List.range d).map λi=>Vr n (M i)),0,())/\d<=rows.length/\Hn d M p/\Same rows.length (LV rows) d M/\(∀ i,i<d->∀ x,n<=x->M i x=0)/\∀ i,i<d->∀ x,x<n->(M i x).natAbs<=1000000000:=by
 obtain⟨m,A,h1,h2⟩:=aPF rows (n:=n) (by omega) (by omega) hlen (λr h a ha=>by have:=hr r h a ha; omega);have hrow:∀ i,i<rows.length->∃ r,r∈rows/\LV rows i=HN r:=λi hi=>⟨rows[i],List.getElem_mem hi,by unfold LV; simp[List.getD,hi]⟩
 have hw:Wd rows.length n (LV rows):=λi hi x hx=>by
  obtain⟨r,hr1,hr2⟩:=hrow i hi;rw[hr2]; unfold HN;have:=hlen r hr1;simp[List.getD,List.getElem?_eq_none (show r.length<=x by omega)]
 have hB:Big rows.length n (LV rows) (E 0):=λi hi x hx=>by
  obtain⟨r,hr1,hr2⟩:=hrow i hi;rw[hr2]; unfold HN;have hl:=hlen r hr1;have:r.getD x 0=r[x]'(by omega):=by simp[List.getD,show x<r.length by omega]
  rw[this];exact hr r hr1 _ (List.getElem_mem _)
 obtain⟨m',A',J',M',d,p,g1,g2,g3,g4,g5,g6,g7⟩:=YK (by omega) (by omega) h2 hw hB hb;have hwd:∀ i,i<d->∀ x,n<=x->M' i x=0:=λi hi x hx=>g6 i (by omega) x hx
 have hf:=hfin d M' p g2 g4 g5 hwd;refine⟨d,M',p,?_,g2,g4,g5,hwd,hf⟩;have e0:eqI 0 0=true:=by decide
 simp only[B0,aXG rows hk hn hlen (λr h a ha=>Nat.le_trans (hr r h a ha) hE),aE,e0,Bool.not_true,oD,h1,g1,aAT g3 g2 (by omega) (by omega) hf (n:Int)]
end Go.PM
namespace Go.PM
open Go Go.RowKit Go.Proofs
set_option maxHeartbeats 4000000
abbrev rB:List (Nat×Kd):=[(3,.own 110 .str),(9,.list TyE),(10,.int .i64),(11,.int .i64)]
abbrev uN:List (Ex×List (Nat×Kd)):=[(.exit 0,[(3,.own 110 .str)])]
def KT(x:Shape.den rB):Option (Shape.den rB⊕aW uN):=match x with
 | (v3,v9,v10,v11,()) =>
  bif ltI v11 v10 then
   bif aI v11 v9.length then aC (oU ((v9.getD v11.toNat 0),())) λy2 =>
   bif Nat.ble [y2.1].length 1048576 then bif Nat.ble v3.length 1048576 then some (.inl ((v3++[y2.1]),v9,v10,(aB .i64 (v11+1)),())) else none else none else none
  else some (.inr ((v3,())))
def wQ(x:Shape.den rB):Option (aW uN):=cE KT (2^64) x
def nK(x:aH [.list TyE]):Option (aH [.list .str]):=match x with
 | (v0,()) =>
  bif !(ltI (v0.length:Int) 0) then bif !(ltI 1048576 (v0.length:Int)) then aC (wQ ((List.replicate 0 ByteArray.empty),v0,(v0.length:Int),0,())) λz3 =>
  some (z3.1,()) else none else none
def WL:Code:=aQ Tryz.f119
abbrev VY:Env:=cG [QM]
theorem O3:bC tP VY:=bG ⟨JX,trivial⟩
def H8:Code:=eR WL 0
def TV(id:Nat):Option b9:=bif Nat.beq id 3 then some ⟨rB,uN,wQ⟩ else none
theorem XR:∀ x,eM tP VY 22 (aG Tryz.f119) TV H8 rB uN x=KT x:=by
 rintro⟨v3,v9,v10,v11,⟨⟩⟩
 kernel_rfl
theorem aAM:cT tP 22 H8 ⟨rB,uN,wQ⟩:=by exact cQ O3.callee aK.mixed _ (aD (l:=[]) (by kernel_rfl) trivial) XR
theorem aHB:eX tP 119 _ _ nK:=by exact bX aK O3 Tryz.func119 (c:=WL) (by kernel_rfl) (aV:=aG Tryz.f119) (lt:=TV) (aD (l:=[H8]) (by kernel_rfl) ⟨cO (i:=3) (by kernel_rfl) rfl aAM,trivial⟩) (by rintro⟨v0,⟨⟩⟩; kernel_rfl)
abbrev L2:Ent:=⟨119,_,_,nK⟩
theorem O2:Ent.OK tP L2:=aHB
abbrev gH:List (Nat×Kd):=[(0,.val),(7,.list TyD),(8,.int .i64),(9,.int .i64)]
abbrev kD:List (Ex×List (Nat×Kd)):=[(.exit 0,[])]
def iR(x:Shape.den gH):Option (List (Value×aH [.int .i64,.list .str])×(Shape.den gH⊕aW kD)):=match x with
 | (v0,v7,v8,v9,()) =>
  bif ltI v9 v8 then
   bif aI v9 v7.length then aC (nK ((v7.getD v9.toNat []),())) λy3 =>
   aC (k9 (y3.1,())) λy4 =>
   outs [(v0,(y4.1,y3.1,()))] (some ([],.inl (v0,v7,v8,(aB .i64 (v9+1)),()))) else none
  else some ([],.inr ((())))
def mQ(x:Shape.den gH):Option (List (Value×aH [.int .i64,.list .str])×aW kD):=aK9 iR (2^64) x
def wE(v0:Value)(x:SO [TyH]):Option (List (Value×aH [.int .i64,.list .str])):=match x with
 | (v1,()) =>
  a7W (a1L (mQ (v0,v1.2,(v1.2.length:Int),0,())) λz5 =>
  some ([],()))
def qL:Code:=aQ Tryz.f239
abbrev wC:Env:=NN [L2,II] []
theorem BY:bC tP wC:=o9 ⟨O2,KS,trivial⟩ trivial
def lJ:Code:=inLoop (aXV qL 0)
def u7(id:Nat):Option b9:=none
def vA(id:Nat):Option (ZE (Value×aH [.int .i64,.list .str])):=bif Nat.beq id 1 then some ⟨gH,kD,mQ⟩ else none
theorem JS:cH lJ=1:=by kernel_rfl
theorem M4:jN lJ=[]:=by kernel_rfl
theorem J4:∀ x,a5M tP wC 22 (aG Tryz.f239) u7 [.int .i64,.list .str] vA lJ gH kD x=iR x:=by
 rintro⟨v0,v7,v8,v9,⟨⟩⟩
 kernel_rfl
theorem KM:a1K tP 22 [.int .i64,.list .str] lJ ⟨gH,kD,mQ⟩:=by exact a43 BY.callee aK.mixed _ (aV4 M4 trivial) J4
theorem K8:jN qL=[.loop lJ]:=by kernel_rfl
theorem MO:∀ v0 x,a6M tP wC Tryz.f239 (aG Tryz.f239) u7 [.int .i64,.list .str] vA qL [TyH] v0 x=wE v0 x:=by
 rintro v0 ⟨v1,⟨⟩⟩
 kernel_rfl
theorem MK {f:SO [TyH]->Option (List (aH [.int .i64,.list .str]))}(h:∀ yv x all,f x=some all->wE yv x=some (all.map λe=>(yv,e))):aNR tP 239 [TyH] [.int .i64,.list .str] f:=by exact a8J aK BY Tryz.func239 (c:=qL) (by kernel_rfl) (by kernel_rfl) (aV:=aG Tryz.f239) (lt:=u7) (li:=vA) (aV4 K8 ⟨a6V JS rfl rfl KM,trivial⟩) (λyv x all hx=>(MO yv x).trans (h yv x all hx))
def aMP:List (List Int)->Option (List (aH [.int .i64,.list .str]))
 | []=>some []
 | r::l=>aC (nK (r,())) λy=>aC (k9 (y.1,())) λz=>aC (aMP l) λrest=>some ((z.1,y.1,())::rest)
def aIS(x:SO [TyH]):Option (List (aH [.int .i64,.list .str])):=match x with
 | ((_,b),())=>bif Nat.ble b.length 1048576 then aMP b else none
theorem aKU(yv:Value)(l:List (List Int))(hl:l.length<=1048576):∀ (rest pre:List (List Int)) (all:List (aH [.int .i64,.list .str])) (N:Nat),aMP rest=some all->pre++rest=l->rest.length<N ->
  aK9 iR N (yv,l,(l.length:Int),(pre.length:Int),())=some (all.map λe=>(yv,e),())
 | [],pre,all,N+1,h,hp,_=>by
  obtain rfl:=Option.some.inj h;rw[List.append_nil]at hp;subst hp;have h1:ltI (pre.length:Int) (pre.length:Int)=false:=by simp[aF]
  simp only[aK9,iR,h1,oD];rfl
 | r::rest,pre,all,N+1,h,hp,hN=>by
  obtain⟨y,hy,h⟩:=BA h;obtain⟨z,hz,h⟩:=BA h;obtain⟨all',ha,h⟩:=BA h;obtain rfl:=Option.some.inj h;have hlen:l.length=pre.length+(rest.length+1):=by rw[<- hp]; simp
  have h1:ltI (pre.length:Int) (l.length:Int)=true:=by simp[aF]; omega
  have h2:aI (pre.length:Int) l.length=true:=by simp[aP]; omega
  have h3:l.getD ((pre.length:Int)).toNat []=r:=by rw[<- hp]; simp
  have h4:=aKU yv l hl rest (pre++[r]) all' N ha (by rw[<- hp]; simp) (by simp at hN; omega);have h5:aB .i64 ((pre.length:Int)+1)=((pre++[r]).length:Int):=by rw[wrap64 (by omega) (by omega)]; simp
  simp only[aK9,iR,h1,oC,h2,h3,hy,aE,hz,outs,h5];rw[h4];rfl
theorem a2P:aNR tP 239 [TyH] [.int .i64,.list .str] aIS:=by
 refine MK ?_;rintro yv ⟨⟨n,b⟩,⟨⟩⟩ all h;unfold aIS at h;dsimp only at h;obtain⟨hb,h⟩:=aM h;have hb:=oL hb;have:=aKU yv b hb b [] all (2^64) h rfl (by omega);unfold wE;dsimp only;unfold mQ;have h0:((([]:List (List Int)).length:Nat):Int)=0:=rfl;rw[h0]at this;rw[this];simp[a1L,outs,a7W]
end Go.PM
namespace Go.PM
open Go Go.RowKit Go.Proofs
set_option maxHeartbeats 4000000
def QL(x:aH [.int .i64]):Option (aH [.bool]):=match x with
 | (v0,()) =>
  bif ltI 1000000000 v0 then
   some (true,())
  else some (ltI v0 (-1000000000),())
theorem aLT:bC tP (cG []):=bG trivial
theorem aQI:eX tP 172 _ _ QL:=by exact bX aK aLT Tryz.func172 (c:=aQ Tryz.f172) (by kernel_rfl) (aV:=aG Tryz.f172) (lt:=λ_=>none) (aD (lt:=λ_=>none) (l:=[]) (by kernel_rfl) trivial) (by rintro⟨v0,⟨⟩⟩; kernel_rfl)
abbrev aHE:Ent:=⟨172,_,_,QL⟩
theorem aLZ:Ent.OK tP aHE:=aQI
abbrev eW:List (Nat×Kd):=[(0,.list TyE),(1,.fn 172),(7,.int .i64),(8,.int .i64)]
abbrev gK:List (Ex×List (Nat×Kd)):=[(.ret,[(4,.int .i64)]),(.exit 0,[])]
def dZ(x:Shape.den eW):Option (Shape.den eW⊕aW gK):=match x with
 | (v0,v1,v7,v8,()) =>
  bif ltI v8 v7 then
   bif aI v8 v0.length then aC (QL ((v0.getD v8.toNat 0),())) λy2 =>
   bif y2.1 then
    some (.inr (.inl (v8,())))
   else some (.inl (v0,(),v7,(aB .i64 (v8+1)),())) else none
  else some (.inr (.inr ((()))))
def jX(x:Shape.den eW):Option (aW gK):=cE dZ (2^64) x
def nO(x:aH [.list TyE,.fn 172]):Option (aH [.int .i64]):=match x with
 | (v0,v1,()) =>
  aC (jX (v0,(),(v0.length:Int),0,())) λz3 =>
  C5 z3 (λa4=>some (a4.1,())) λb5 =>
  some ((-1),())
def AF:Code:=aQ Tryz.f197
abbrev AJ:Env:=cG [aHE]
theorem wW:bC tP AJ:=bG ⟨aLZ,trivial⟩
def qQ:Code:=eR AF 0
def zL(id:Nat):Option b9:=bif Nat.beq id 2 then some ⟨eW,gK,jX⟩ else none
theorem HA:∀ x,eM tP AJ 19 (aG Tryz.f197) zL qQ eW gK x=dZ x:=by
 rintro⟨v0,v1,v7,v8,⟨⟩⟩
 kernel_rfl
theorem HO:cT tP 19 qQ ⟨eW,gK,jX⟩:=by exact cQ wW.callee aK.mixed _ (aD (l:=[]) (by kernel_rfl) trivial) HA
theorem KQ:eX tP 197 _ _ nO:=by exact bX aK wW Tryz.func197 (c:=AF) (by kernel_rfl) (aV:=aG Tryz.f197) (lt:=zL) (aD (l:=[qQ]) (by kernel_rfl) ⟨cO (i:=2) (by kernel_rfl) rfl HO,trivial⟩) (by rintro⟨v0,v1,⟨⟩⟩; kernel_rfl)
abbrev BB:Ent:=⟨197,_,_,nO⟩
theorem JE:Ent.OK tP BB:=KQ
def gN(x:aH [.list TyE,.fn 172]):Option (aH [.bool]):=match x with
 | (v0,v1,()) =>
  aC (nO (v0,(),())) λy1 =>
  some (!(ltI y1.1 0),())
theorem GR:bC tP (cG [BB]):=bG ⟨JE,trivial⟩
theorem HZ:eX tP 144 _ _ gN:=by exact bX aK GR Tryz.func144 (c:=aQ Tryz.f144) (by kernel_rfl) (aV:=aG Tryz.f144) (lt:=λ_=>none) (aD (lt:=λ_=>none) (l:=[]) (by kernel_rfl) trivial) (by rintro⟨v0,v1,⟨⟩⟩; kernel_rfl)
abbrev xA:Ent:=⟨144,_,_,gN⟩
theorem GS:Ent.OK tP xA:=HZ
abbrev xQ:List (Nat×Kd):=[(0,.list TyD),(8,.list TyD),(9,.int .i64),(10,.int .i64)]
abbrev DH:List (Ex×List (Nat×Kd)):=[(.ret,[(2,.int .i64)]),(.exit 0,[])]
def tN(x:Shape.den xQ):Option (Shape.den xQ⊕aW DH):=match x with
 | (v0,v8,v9,v10,()) =>
  bif ltI v10 v9 then
   bif aI v10 v8.length then bif ltI 12 ((v8.getD v10.toNat []).length:Int) then
    some (.inr (.inl (4,())))
   else bif aI 0 v0.length then bif !(eqI ((v8.getD v10.toNat []).length:Int) ((v0.getD 0 []).length:Int)) then
    some (.inr (.inl (5,())))
   else aC (gN ((v8.getD v10.toNat []),(),())) λy2 =>
   bif y2.1 then
    some (.inr (.inl (4,())))
   else some (.inl (v0,v8,v9,(aB .i64 (v10+1)),())) else none else none
  else some (.inr (.inr ((()))))
def EB(x:Shape.den xQ):Option (aW DH):=cE tN (2^64) x
def JN(x:aH [.list TyD]):Option (aH [.int .i64]):=match x with
 | (v0,()) =>
  bif ltI 12 (v0.length:Int) then
   some (4,())
  else aC (EB (v0,v0,(v0.length:Int),0,())) λz3 =>
  C5 z3 (λa4=>some (a4.1,())) λb5 =>
  some (0,())
def aGI:Code:=aQ Tryz.f125
abbrev aHP:Env:=cG [xA]
theorem ZQ:bC tP aHP:=bG ⟨GS,trivial⟩
def SK:Code:=eR aGI 0
def aD8(id:Nat):Option b9:=bif Nat.beq id 4 then some ⟨xQ,DH,EB⟩ else none
theorem aFV:∀ x,eM tP aHP 30 (aG Tryz.f125) aD8 SK xQ DH x=tN x:=by
 rintro⟨v0,v8,v9,v10,⟨⟩⟩
 kernel_rfl
theorem aHS:cT tP 30 SK ⟨xQ,DH,EB⟩:=by exact cQ ZQ.callee aK.mixed _ (aD (l:=[]) (by kernel_rfl) trivial) aFV
theorem aQM:eX tP 125 _ _ JN:=by exact bX aK ZQ Tryz.func125 (c:=aGI) (by kernel_rfl) (aV:=aG Tryz.f125) (lt:=aD8) (aD (l:=[SK]) (by kernel_rfl) ⟨cO (i:=4) (by kernel_rfl) rfl aHS,trivial⟩) (by rintro⟨v0,⟨⟩⟩; kernel_rfl)
abbrev aIC:Ent:=⟨125,_,_,JN⟩
theorem aLJ:Ent.OK tP aIC:=aQM
def AS(x:aH [.int .i64]):Option (aH [.bool]):=match x with
 | (v0,()) =>
  some (!(eqI v0 0),())
theorem aDD:bC tP (cG []):=bG trivial
theorem aIE:eX tP 211 _ _ AS:=by exact bX aK aDD Tryz.func211 (c:=aQ Tryz.f211) (by kernel_rfl) (aV:=aG Tryz.f211) (lt:=λ_=>none) (aD (lt:=λ_=>none) (l:=[]) (by kernel_rfl) trivial) (by rintro⟨v0,⟨⟩⟩; kernel_rfl)
abbrev WZ:Ent:=⟨211,_,_,AS⟩
theorem aDK:Ent.OK tP WZ:=aIE
abbrev eV:List (Nat×Kd):=[(0,.list TyE),(1,.fn 211),(7,.int .i64),(8,.int .i64)]
abbrev gJ:List (Ex×List (Nat×Kd)):=[(.ret,[(4,.int .i64)]),(.exit 0,[])]
def dX(x:Shape.den eV):Option (Shape.den eV⊕aW gJ):=match x with
 | (v0,v1,v7,v8,()) =>
  bif ltI v8 v7 then
   bif aI v8 v0.length then aC (AS ((v0.getD v8.toNat 0),())) λy2 =>
   bif y2.1 then
    some (.inr (.inl (v8,())))
   else some (.inl (v0,(),v7,(aB .i64 (v8+1)),())) else none
  else some (.inr (.inr ((()))))
def jT(x:Shape.den eV):Option (aW gJ):=cE dX (2^64) x
def nM(x:aH [.list TyE,.fn 211]):Option (aH [.int .i64]):=match x with
 | (v0,v1,()) =>
  aC (jT (v0,(),(v0.length:Int),0,())) λz3 =>
  C5 z3 (λa4=>some (a4.1,())) λb5 =>
  some ((-1),())
def AO:Code:=aQ Tryz.f197
abbrev AP:Env:=cG [WZ]
theorem wV:bC tP AP:=bG ⟨aDK,trivial⟩
def qT:Code:=eR AO 0
def zI(id:Nat):Option b9:=bif Nat.beq id 2 then some ⟨eV,gJ,jT⟩ else none
theorem GQ:∀ x,eM tP AP 19 (aG Tryz.f197) zI qT eV gJ x=dX x:=by
 rintro⟨v0,v1,v7,v8,⟨⟩⟩
 kernel_rfl
theorem HR:cT tP 19 qT ⟨eV,gJ,jT⟩:=by exact cQ wV.callee aK.mixed _ (aD (l:=[]) (by kernel_rfl) trivial) GQ
theorem KN:eX tP 197 _ _ nM:=by exact bX aK wV Tryz.func197 (c:=AO) (by kernel_rfl) (aV:=aG Tryz.f197) (lt:=zI) (aD (l:=[qT]) (by kernel_rfl) ⟨cO (i:=2) (by kernel_rfl) rfl HR,trivial⟩) (by rintro⟨v0,v1,⟨⟩⟩; kernel_rfl)
abbrev A4:Ent:=⟨197,_,_,nM⟩
theorem JD:Ent.OK tP A4:=KN
def EL(x:aH [.list TyE]):Option (aH [.int .i64]):=match x with
 | (v0,()) =>
  aC (nM (v0,(),())) λy1 =>
  some (y1.1,())
theorem aGU:bC tP (cG [A4]):=bG ⟨JD,trivial⟩
theorem aLG:eX tP 173 _ _ EL:=by exact bX aK aGU Tryz.func173 (c:=aQ Tryz.f173) (by kernel_rfl) (aV:=aG Tryz.f173) (lt:=λ_=>none) (aD (lt:=λ_=>none) (l:=[]) (by kernel_rfl) trivial) (by rintro⟨v0,⟨⟩⟩; kernel_rfl)
abbrev aAS:Ent:=⟨173,_,_,EL⟩
theorem aIG:Ent.OK tP aAS:=aLG
def CE(x:aH [.list TyE,.ptr TyE,.ptr TyD]):Option (aH [.bool]):=match x with
 | (v0,v1,v2,()) =>
  bif aI v1 v0.length then bif ltI (v0.getD v1.toNat 0) 0 then
   some (true,())
  else bif aI v1 v0.length then bif aI v1 v2.length then some (!(ltI (v0.getD v1.toNat 0) (v2.getD v1.toNat 0)),()) else none else none else none
theorem ZW:bC tP (cG []):=bG trivial
theorem aDT:eX tP 174 _ _ CE:=by exact bX aK ZW Tryz.func174 (c:=aQ Tryz.f174) (by kernel_rfl) (aV:=aG Tryz.f174) (lt:=λ_=>none) (aD (lt:=λ_=>none) (l:=[]) (by kernel_rfl) trivial) (by rintro⟨v0,v1,v2,⟨⟩⟩; kernel_rfl)
abbrev QZ:Ent:=⟨174,_,_,CE⟩
theorem Z7:Ent.OK tP QZ:=aDT
abbrev cU:List (Nat×Kd):=[(0,.list TyD),(1,.clo 174 [TyE,TyD]),(7,.int .i64),(8,.int .i64)]
abbrev eE:List (Ex×List (Nat×Kd)):=[(.ret,[(4,.int .i64)]),(.exit 0,[])]
def cK(x:Shape.den cU):Option (Shape.den cU⊕aW eE):=match x with
 | (v0,v1,v7,v8,()) =>
  bif ltI v8 v7 then
   bif aI v8 v0.length then aC (CE ((v0.getD v8.toNat []),v1.1,v1.2.1,())) λy2 =>
   bif y2.1 then
    some (.inr (.inl (v8,())))
   else some (.inl (v0,(v1.1,v1.2.1,()),v7,(aB .i64 (v8+1)),())) else none
  else some (.inr (.inr ((()))))
def fW(x:Shape.den cU):Option (aW eE):=cE cK (2^64) x
def iF(x:aH [.list TyD,.clo 174 [TyE,TyD]]):Option (aH [.int .i64]):=match x with
 | (v0,v1,()) =>
  aC (fW (v0,(v1.1,v1.2.1,()),(v0.length:Int),0,())) λz3 =>
  C5 z3 (λa4=>some (a4.1,())) λb5 =>
  some ((-1),())
def tO:Code:=aQ Tryz.f100
abbrev tQ:Env:=cG [QZ]
theorem rS:bC tP tQ:=bG ⟨Z7,trivial⟩
def mI:Code:=eR tO 0
def tF(id:Nat):Option b9:=bif Nat.beq id 2 then some ⟨cU,eE,fW⟩ else none
theorem BO:∀ x,eM tP tQ 19 (aG Tryz.f100) tF mI cU eE x=cK x:=by
 rintro⟨v0,v1,v7,v8,⟨⟩⟩
 kernel_rfl
theorem CN:cT tP 19 mI ⟨cU,eE,fW⟩:=by exact cQ rS.callee aK.mixed _ (aD (l:=[]) (by kernel_rfl) trivial) BO
theorem EI:eX tP 100 _ _ iF:=by exact bX aK rS Tryz.func100 (c:=tO) (by kernel_rfl) (aV:=aG Tryz.f100) (lt:=tF) (aD (l:=[mI]) (by kernel_rfl) ⟨cO (i:=2) (by kernel_rfl) rfl CN,trivial⟩) (by rintro⟨v0,v1,⟨⟩⟩; kernel_rfl)
abbrev uA:Ent:=⟨100,_,_,iF⟩
theorem DQ:Ent.OK tP uA:=EI
def eC(x:aH [.list TyD,.clo 174 [TyE,TyD]]):Option (aH [.bool]):=match x with
 | (v0,v1,()) =>
  aC (iF (v0,(v1.1,v1.2.1,()),())) λy1 =>
  some (!(ltI y1.1 0),())
theorem BM:bC tP (cG [uA]):=bG ⟨DQ,trivial⟩
theorem DE:eX tP 43 _ _ eC:=by exact bX aK BM Tryz.func43 (c:=aQ Tryz.f43) (by kernel_rfl) (aV:=aG Tryz.f43) (lt:=λ_=>none) (aD (lt:=λ_=>none) (l:=[]) (by kernel_rfl) trivial) (by rintro⟨v0,v1,⟨⟩⟩; kernel_rfl)
abbrev rP:Ent:=⟨43,_,_,eC⟩
theorem BR:Ent.OK tP rP:=DE
abbrev r8:List (Nat×Kd):=[(0,.list TyD),(3,.int .i64),(7,.list TyD),(8,.int .i64),(9,.int .i64)]
abbrev vQ:List (Ex×List (Nat×Kd)):=[(.ret,[(2,.bool)]),(.exit 0,[])]
def pH(x:Shape.den r8):Option (Shape.den r8⊕aW vQ):=match x with
 | (v0,v3,v7,v8,v9,()) =>
  bif ltI v9 v8 then
   bif aI v9 v7.length then aC (EL ((v7.getD v9.toNat []),())) λy3 =>
   bif !(ltI v3 y3.1) then
    some (.inr (.inl (false,())))
   else bif aI y3.1 (v7.getD v9.toNat []).length then bif ltI ((v7.getD v9.toNat []).getD y3.1.toNat 0) 0 then
    some (.inr (.inl (false,())))
   else bif !(ltI v9 0) then bif Nat.ble 0 v9.toNat then bif Nat.ble v9.toNat v0.length then aC (eC (((v0.drop 0).take (v9.toNat-0)),(y3.1,(v7.getD v9.toNat []),()),())) λy4 =>
   bif y4.1 then
    some (.inr (.inl (false,())))
   else some (.inl (v0,y3.1,v7,v8,(aB .i64 (v9+1)),())) else none else none else none else none else none
  else some (.inr (.inr ((()))))
def yF(x:Shape.den r8):Option (aW vQ):=cE pH (2^64) x
def DG(x:aH [.list TyD]):Option (aH [.bool]):=match x with
 | (v0,()) =>
  aC (yF (v0,(-1),v0,(v0.length:Int),0,())) λz5 =>
  C5 z5 (λa6=>some (a6.1,())) λb7 =>
  some (true,())
def ZK:Code:=aQ Tryz.f126
abbrev ZO:Env:=cG [aAS,rP]
theorem Q8:bC tP ZO:=bG ⟨aIG,BR,trivial⟩
def J8:Code:=eR ZK 0
def WI(id:Nat):Option b9:=bif Nat.beq id 3 then some ⟨r8,vQ,yF⟩ else none
theorem ZS:∀ x,eM tP ZO 33 (aG Tryz.f126) WI J8 r8 vQ x=pH x:=by
 rintro⟨v0,v3,v7,v8,v9,⟨⟩⟩
 kernel_rfl
theorem aAQ:cT tP 33 J8 ⟨r8,vQ,yF⟩:=by exact cQ Q8.callee aK.mixed _ (aD (l:=[]) (by kernel_rfl) trivial) ZS
theorem aJE:eX tP 126 _ _ DG:=by exact bX aK Q8 Tryz.func126 (c:=ZK) (by kernel_rfl) (aV:=aG Tryz.f126) (lt:=WI) (aD (l:=[J8]) (by kernel_rfl) ⟨cO (i:=3) (by kernel_rfl) rfl aAQ,trivial⟩) (by rintro⟨v0,⟨⟩⟩; kernel_rfl)
abbrev ZM:Ent:=⟨126,_,_,DG⟩
theorem aFG:Ent.OK tP ZM:=aJE
def rE(x:aH [.list TyD]):Option (aH [.bool,.int .i64]):=match x with
 | (v0,()) =>
  aC (JN (v0,())) λy1 =>
  bif !(eqI y1.1 0) then
   some (false,y1.1,())
  else aC (DG (v0,())) λy2 =>
  some (y2.1,0,())
theorem aFI:bC tP (cG [ZM,aIC]):=bG ⟨aFG,aLJ,trivial⟩
theorem aJQ:eX tP 71 _ _ rE:=by exact bX aK aFI Tryz.func71 (c:=aQ Tryz.f71) (by kernel_rfl) (aV:=aG Tryz.f71) (lt:=λ_=>none) (aD (lt:=λ_=>none) (l:=[]) (by kernel_rfl) trivial) (by rintro⟨v0,⟨⟩⟩; kernel_rfl)
abbrev OR:Ent:=⟨71,_,_,rE⟩
theorem SN:Ent.OK tP OR:=aJQ
def jE(x:aH [.agg TyH]):Option (aH [.int .i64]):=match x with
 | (v0,()) =>
  aC (AE (v0.1,v0.2,())) λy1 =>
  bif !(eqI y1.1 0) then
   some (y1.1,())
  else aC (rE (v0.2,())) λy2 =>
  bif !(eqI y2.2.1 0) then
   some (7,())
  else bif y2.1 then
   some (0,())
  else some (7,())
theorem aG1:bC tP (cG [OR,RP]):=bG ⟨SN,TX,trivial⟩
theorem aLH:eX tP 73 _ _ jE:=by exact bX aK aG1 Tryz.func73 (c:=aQ Tryz.f73) (by kernel_rfl) (aV:=aG Tryz.f73) (lt:=λ_=>none) (aD (lt:=λ_=>none) (l:=[]) (by kernel_rfl) trivial) (by rintro⟨v0,⟨⟩⟩; kernel_rfl)
abbrev FF:Ent:=⟨73,_,_,jE⟩
theorem D6:Ent.OK tP FF:=aLH
def a0X(x:aH [.agg TyH,.list TyE]):Option (aH [.int .i64]):=match x with
 | (v0,v1,()) =>
  aC (jE (v0,())) λy1 =>
  bif !(eqI y1.1 0) then
   some (y1.1,())
  else aC (LH (v1,())) λy2 =>
  bif !(eqI y2.1 0) then
   some (y2.1,())
  else bif !(eqI (v1.length:Int) v0.1) then
   some (5,())
  else some (0,())
def tL(x:aH [.agg TyH]):Option (aH [.clo 239 [TyH]]):=match x with
 | (v0,()) =>
  some ((v0,()),())
theorem RW:bC tP (cG []):=bG trivial
theorem U4:eX tP 225 _ _ tL:=by exact bX aK RW Tryz.func225 (c:=aQ Tryz.f225) (by kernel_rfl) (aV:=aG Tryz.f225) (lt:=λ_=>none) (aD (lt:=λ_=>none) (l:=[]) (by kernel_rfl) trivial) (by rintro⟨v0,⟨⟩⟩; kernel_rfl)
abbrev IK:Ent:=⟨225,_,_,tL⟩
theorem RE:Ent.OK tP IK:=U4
abbrev dA:List (Nat×Kd):=[(4,.bown 148 110 .str),(5,.bown 148 110 .str),(14,.clo 239 [TyH])]
abbrev gB:List (Ex×List (Nat×Kd)):=[(.normal,[(4,.bown 148 110 .str),(5,.bown 148 110 .str)])]
def lC(x:Shape.den dA)(e:aH [.int .i64,.list .str]):Option (Shape.den dA⊕aW gB):=match x,e with
 | (v4,v5,v14,()),(e0,e1,()) =>
  bif aI e0 v4.length then bif Nat.blt e0.toNat v4.length then bif aI e0 e1.length then aC (yT ((v4.getD e0.toNat ByteArray.empty),(e1.getD e0.toNat ByteArray.empty),())) λy3 =>
  aC (SQ (t:=.str) kE v4 (y3.1,e1,())) λy4 =>
  bif Nat.ble [y3.1].length 1048576 then bif Nat.ble v5.length 1048576 then some (.inl (y4,(v5++[y3.1]),(v14.1,()),())) else none else none else none else none else none
def uS(x:Shape.den dA):SO [TyH]:=match x with
 | (v4,v5,v14,())=>(v14.1,())
def lM(x:Shape.den dA):Option (aW gB):=a6N dA gB (λx=>aIS (uS x)) lC x
def mL(x:aH [.agg TyH,.list TyE]):Option (aH [.list .str,.list .str]):=match x with
 | (v0,v1,()) =>
  aC (pM (v1,())) λy1 =>
  aC (tL (v0,())) λy2 =>
  aC (lM (y1,[],(y2.1.1,()),())) λz5 =>
  some (z5.1,z5.2.1,())
def tM:Code:=aQ Tryz.f196
abbrev AU:Env:=NN [IK,VJ] [F7,KZ]
theorem FE:bC tP AU:=o9 ⟨RE,WX,trivial⟩ ⟨GZ,VL,trivial⟩
def cF:Code:=aXV tM 0
def S7:Code:=inLoop cF
def yO(id:Nat):Option b9:=none
def yS(id:Nat):Option b9:=bif Nat.beq id 5 then some ⟨dA,gB,lM⟩ else none
theorem NY:cH S7=5:=by kernel_rfl
theorem C4:cF=.rangeFunc (aQX cF) (a11 cF) (R5 cF) (inLoop cF):=by kernel_rfl
theorem M9:∀ y e,aT1 tP AU 40 (aEG Tryz.f196) yO yS (a11 cF).toList (R5 cF) (inLoop cF) [.int .i64,.list .str] dA gB y e=lC y e:=by
 rintro⟨v4,v5,v14,⟨⟩⟩ ⟨e0,e1,⟨⟩⟩
 kernel_rfl
theorem PI:∀ x,a4T 239 [TyH] dA (aQX cF) x=some (uS x):=by
 rintro⟨v4,v5,v14,⟨⟩⟩
 kernel_rfl
theorem OQ:XB tP 40 false [] cF ⟨dA,gB,lM⟩:=by exact a1W FE aK C4 Tryz.func239 (c:=aQ Tryz.f239) (by kernel_rfl) a2P (by kernel_rfl) (XQ (l:=[]) (by kernel_rfl) trivial) PI M9
theorem PU:jN tM=[cF]:=by kernel_rfl
theorem R7:∀ x,a6K tP AU Tryz.f196 (aEG Tryz.f196) yO yS tM [.agg TyH,.list TyE] [.list .str,.list .str] x=mL x:=by
 rintro⟨v0,v1,⟨⟩⟩
 kernel_rfl
theorem U2:eX tP 196 _ _ mL:=by exact a84 aK FE Tryz.func196 (c:=tM) (by kernel_rfl) (aV:=aEG Tryz.f196) (lt:=yO) (rt:=yS) (XQ PU ⟨aYB C4 NY rfl OQ,trivial⟩) R7
abbrev I7:Ent:=⟨196,_,_,mL⟩
theorem Q0:Ent.OK tP I7:=U2
end Go.PM
namespace Go.PM
open Go Go.RowKit Go.Proofs
set_option maxHeartbeats 4000000
def oR(u0:Unit) (x:aH [.int .i64]) (A:List (List ByteArray)):Option ((List ByteArray)×List (List ByteArray)):=match x with
 | (v0,()) =>
  bif !(ltI v0 0) then bif !(ltI v0 v0) then bif !(ltI 1048576 v0) then aC (pM ((List.replicate v0.toNat 0),())) λy1 =>
  some (y1,A) else none else none else none
def JT:Code:=aQ Tryz.f120
abbrev T6:Env:=NN [] [F7]
theorem aB9:bC tP T6:=o9 trivial ⟨GZ,trivial⟩
def SU(id:Nat):Option b9:=none
theorem Z4:cB JT=[]:=by kernel_rfl
theorem aBZ:∀ l x A,GM tP T6 Tryz.f120 (aG Tryz.f120) SU JT 110 .str .none [.int .i64] (.own 110 .str) l x A=oR l x A:=by
 rintro u0 ⟨v0,⟨⟩⟩ A
 kernel_rfl
theorem aFO:MZ tP 120 110 .str .none [.int .i64] (.own 110 .str) oR:=by exact BG aK aB9 Tryz.func120 (c:=JT) (by kernel_rfl) (aV:=aG Tryz.f120) (lt:=SU) (by rfl) (aD Z4 trivial) aBZ
abbrev KF:Shr:=(120,TG 0 (arH 110 .str .none [.int .i64] (.own 110 .str) oR))
theorem M7:xB tP KF:=sO (g:=120) (f:=arH 110 .str .none [.int .i64] (.own 110 .str) oR) (FJ aFO)
abbrev iI:List (Nat×Kd):=[(1,.int .i64),(2,.int .i64),(7,.own 148 (.hnd 1)),(10,.list (.hnd 1)),(11,.int .i64),(12,.int .i64),(100000,.ar 110 .str)]
abbrev lX:List (Ex×List (Nat×Kd)):=[(.exit 0,[(2,.int .i64),(7,.own 148 (.hnd 1)),(100000,.ar 110 .str)])]
def gF(x:Shape.den iI):Option (Shape.den iI⊕aW lX):=match x with
 | (v1,v2,v7,v10,v11,v12,v100000,()) =>
  bif ltI v12 v11 then
   bif aI v12 v10.length then aC (j7 () (((v10.getD v12.toNat (0,0,0)).1,(v10.getD v12.toNat (0,0,0)).2.1,(v10.getD v12.toNat (0,0,0)).2.2),()) v100000) λy2 =>
   bif !(ltI y2.1.1 v1) then
    bif !(ltI v1 0) then bif Nat.ble v1.toNat ((v10.getD v12.toNat (0,0,0)).2.2) then bif Nat.ble ((v10.getD v12.toNat (0,0,0)).2.2) ((v10.getD v12.toNat (0,0,0)).2.2) then bif Nat.ble [((v10.getD v12.toNat (0,0,0)).1,((v10.getD v12.toNat (0,0,0)).2.1+v1.toNat),((v10.getD v12.toNat (0,0,0)).2.2-v1.toNat))].length 1048576 then bif Nat.ble v7.length 1048576 then some (.inl (v1,v2,(v7++[((v10.getD v12.toNat (0,0,0)).1,((v10.getD v12.toNat (0,0,0)).2.1+v1.toNat),((v10.getD v12.toNat (0,0,0)).2.2-v1.toNat))]),v10,v11,(aB .i64 (v12+1)),y2.2,())) else none else none else none else none else none
   else some (.inl (v1,v2,v7,v10,v11,(aB .i64 (v12+1)),y2.2,())) else none
  else some (.inr ((v2,v7,v100000,())))
def kM(x:Shape.den iI):Option (aW lX):=cE gF (2^64) x
def eP(u0:Unit)(x:aH [.list (.hnd 1),.int .i64,.int .i64])(A:List (List ByteArray)):Option ((List (Nat×Nat×Nat))×List (List ByteArray)):=match x with
 | (v0,v1,v2,()) =>
  aC (kM (v1,v2,[],v0,(v0.length:Int),0,A,())) λz3 =>
  aC (dG z3.2.1 (z3.1,()) z3.2.2.1) λy4 =>
  some y4
def sW:Code:=aQ Tryz.f122
abbrev yR:Env:=NN [] [M6,mO]
theorem EF:bC tP yR:=o9 trivial ⟨V8,nF,trivial⟩
def vR:Code:=eR sW 0
def xJ(id:Nat):Option b9:=bif Nat.beq id 3 then some ⟨iI,lX,kM⟩ else none
theorem L0:∀ x,eM tP yR 30 (aG Tryz.f122) xJ vR iI lX x=gF x:=by
 rintro⟨v1,v2,v7,v10,v11,v12,v100000,⟨⟩⟩
 kernel_rfl
theorem NL:cT tP 30 vR ⟨iI,lX,kM⟩:=by exact cQ EF.callee aK.mixed _ (aD (l:=[]) (by kernel_rfl) trivial) L0
theorem ON:cB sW=[vR]:=by kernel_rfl
theorem QF:∀ l x A,GM tP yR Tryz.f122 (aG Tryz.f122) xJ sW 110 .str .none [.list (.hnd 1),.int .i64,.int .i64] (.own 148 (.hnd 1)) l x A=eP l x A:=by
 rintro u0 ⟨v0,v1,v2,⟨⟩⟩ A
 kernel_rfl
theorem S4:MZ tP 122 110 .str .none [.list (.hnd 1),.int .i64,.int .i64] (.own 148 (.hnd 1)) eP:=by exact BG aK EF Tryz.func122 (c:=sW) (by kernel_rfl) (aV:=aG Tryz.f122) (lt:=xJ) (by rfl) (aD ON ⟨cO (i:=3) (by kernel_rfl) rfl NL,trivial⟩) QF
abbrev yP:Shr:=(122,TG 0 (arH 110 .str .none [.list (.hnd 1),.int .i64,.int .i64] (.own 148 (.hnd 1)) eP))
theorem EE:xB tP yP:=sO (g:=122) (f:=arH 110 .str .none [.list (.hnd 1),.int .i64,.int .i64] (.own 148 (.hnd 1)) eP) (FJ S4)
abbrev iH:List (Nat×Kd):=[(0,.list (.hnd 1)),(1,.int .i64),(5,.own 148 (.hnd 1)),(6,.int .i64),(7,.own 110 .str),(11,.int .i64),(12,.int .i64),(15,.list (.hnd 1)),(16,.int .i64),(17,.int .i64),(100000,.ar 110 .str)]
abbrev mD:List (Ex×List (Nat×Kd)):=[(.exit 2,[(0,.list (.hnd 1)),(1,.int .i64),(5,.own 148 (.hnd 1)),(6,.int .i64),(7,.own 110 .str),(11,.int .i64),(12,.int .i64),(100000,.ar 110 .str)])]
def kP(x:Shape.den iH):Option (Shape.den iH⊕aW mD):=match x with
 | (v0,v1,v5,v6,v7,v11,v12,v15,v16,v17,v100000,()) =>
  bif ltI v17 v16 then
   bif aI v17 v15.length then bif aI v6 ((v15.getD v17.toNat (0,0,0)).2.2) then bif Nat.blt (((v15.getD v17.toNat (0,0,0)).2.1+v6.toNat)*1) (dJ v100000 ((v15.getD v17.toNat (0,0,0)).1)) then bif Nat.ble [(eD v100000 ((v15.getD v17.toNat (0,0,0)).1) (((v15.getD v17.toNat (0,0,0)).2.1+v6.toNat)*1) ByteArray.empty)].length 1048576 then bif Nat.ble v7.length 1048576 then some (.inl (v0,v1,v5,v6,(v7++[(eD v100000 ((v15.getD v17.toNat (0,0,0)).1) (((v15.getD v17.toNat (0,0,0)).2.1+v6.toNat)*1) ByteArray.empty)]),v11,v12,v15,v16,(aB .i64 (v17+1)),v100000,())) else none else none else none else none else none
  else some (.inr ((v0,v1,v5,v6,v7,v11,v12,v100000,())))
def oK(x:Shape.den iH):Option (aW mD):=cE kP (2^64) x
abbrev iN:List (Nat×Kd):=[(0,.list (.hnd 1)),(1,.int .i64),(5,.own 148 (.hnd 1)),(11,.int .i64),(12,.int .i64),(100000,.ar 110 .str)]
abbrev mA:List (Ex×List (Nat×Kd)):=[(.exit 0,[(0,.list (.hnd 1)),(1,.int .i64),(5,.own 148 (.hnd 1)),(100000,.ar 110 .str)])]
def kK(x:Shape.den iN):Option (Shape.den iN⊕aW mA):=match x with
 | (v0,v1,v5,v11,v12,v100000,()) =>
  bif ltI v12 v11 then
   aC (oK (v0,v1,v5,v12,[],v11,v12,v0,(v0.length:Int),0,v100000,())) λz3 =>
   aC (oR () (z3.2.1,()) z3.2.2.2.2.2.2.2.1) λy4 =>
   bif aI z3.2.2.2.1 y4.1.length then bif Nat.blt z3.2.2.2.1.toNat y4.1.length then bif Nat.ble (y4.1.set z3.2.2.2.1.toNat (ByteArray.mk #[49])).length 1048576 then bif Nat.ble z3.2.2.2.2.1.length 1048576 then bif Nat.ble [(y4.2.length,0,(z3.2.2.2.2.1++(y4.1.set z3.2.2.2.1.toNat (ByteArray.mk #[49]))).length)].length 1048576 then bif Nat.ble z3.2.2.1.length 1048576 then some (.inl (z3.1,z3.2.1,(z3.2.2.1++[(y4.2.length,0,(z3.2.2.2.2.1++(y4.1.set z3.2.2.2.1.toNat (ByteArray.mk #[49]))).length)]),z3.2.2.2.2.2.1,(aB .i64 (z3.2.2.2.2.2.2.1+1)),(y4.2++[(z3.2.2.2.2.1++(y4.1.set z3.2.2.2.1.toNat (ByteArray.mk #[49])))]),())) else none else none else none else none else none else none
  else some (.inr ((v0,v1,v5,v100000,())))
def kJ(x:Shape.den iN):Option (aW mA):=cE kK (2^64) x
def cZ(u0:Unit)(x:aH [.list (.hnd 1),.int .i64])(A:List (List ByteArray)):Option ((List (Nat×Nat×Nat))×List (List ByteArray)):=match x with
 | (v0,v1,()) =>
  aC (kJ (v0,v1,[],v1,0,A,())) λz5 =>
  aC (dG z5.2.2.1 ((aB .i64 ((z5.1.length:Int)+z5.2.1)),()) z5.2.2.2.1) λy6 =>
  aC (eP () (y6.1,(z5.1.length:Int),z5.2.1,()) y6.2) λy7 =>
  some y7
def sM:Code:=aQ Tryz.f130
abbrev sR:Env:=NN [] [yP,mO,KF]
theorem uP:bC tP sR:=o9 trivial ⟨EE,nF,M7,trivial⟩
def nC:Code:=eR sM 0
def vX:Code:=eR nC 0
def rG(id:Nat):Option b9:=bif Nat.beq id 7 then some ⟨iH,mD,oK⟩ else bif Nat.beq id 3 then some ⟨iN,mA,kJ⟩ else none
theorem K7:∀ x,eM tP sR 51 (aG Tryz.f130) rG vX iH mD x=kP x:=by
 rintro⟨v0,v1,v5,v6,v7,v11,v12,v15,v16,v17,v100000,⟨⟩⟩
 kernel_rfl
theorem ML:cT tP 51 vX ⟨iH,mD,oK⟩:=by exact cQ uP.callee aK.mixed _ (aD (l:=[]) (by kernel_rfl) trivial) K7
theorem LK:∀ x,eM tP sR 51 (aG Tryz.f130) rG nC iN mA x=kK x:=by
 rintro⟨v0,v1,v5,v11,v12,v100000,⟨⟩⟩
 kernel_rfl
theorem PY:cB nC=[vX]:=by kernel_rfl
theorem NV:cT tP 51 nC ⟨iN,mA,kJ⟩:=by exact cQ uP.callee aK.mixed _ (aD PY ⟨cO (i:=7) (by kernel_rfl) rfl ML,trivial⟩) LK
theorem OG:cB sM=[nC]:=by kernel_rfl
theorem PT:∀ l x A,GM tP sR Tryz.f130 (aG Tryz.f130) rG sM 110 .str .none [.list (.hnd 1),.int .i64] (.own 148 (.hnd 1)) l x A=cZ l x A:=by
 rintro u0 ⟨v0,v1,⟨⟩⟩ A
 kernel_rfl
theorem TH:MZ tP 130 110 .str .none [.list (.hnd 1),.int .i64] (.own 148 (.hnd 1)) cZ:=by exact BG aK uP Tryz.func130 (c:=sM) (by kernel_rfl) (aV:=aG Tryz.f130) (lt:=rG) (by rfl) (aD OG ⟨cO (i:=3) (by kernel_rfl) rfl NV,trivial⟩) PT
abbrev zH:Shr:=(130,TG 0 (arH 110 .str .none [.list (.hnd 1),.int .i64] (.own 148 (.hnd 1)) cZ))
theorem D3:xB tP zH:=sO (g:=130) (f:=arH 110 .str .none [.list (.hnd 1),.int .i64] (.own 148 (.hnd 1)) cZ) (FJ TH)
def oG(x:aH [.agg TyH]):Option (aH [.agg TyH,.int .i64]):=match x with
 | (v0,()) =>
  aC (jE (v0,())) λy1 =>
  bif !(eqI y1.1 0) then
   some ((0,[]),y1.1,())
  else aC (dE () (v0.2,()) []) λy2 =>
  aC (cZ () (y2.1,v0.1,()) y2.2) λy3 =>
  aC (cZ () (y3.1,v0.1,()) y3.2) λy4 =>
  aC (dH y4.1 (v0.1,()) y4.2) λy5 =>
  some (y5.1.1,y5.1.2.1,())
def JK:Code:=aQ Tryz.f74
abbrev T7:Env:=NN [FF] [uH,zH,mK]
theorem aAV:bC tP T7:=o9 ⟨D6,trivial⟩ ⟨uX,D3,mV,trivial⟩
def RZ(id:Nat):Option b9:=none
theorem aAA:cB JK=[]:=by kernel_rfl
theorem aBR:∀ x,aEA tP T7 Tryz.f74 (aG Tryz.f74) RZ JK 110 .str _ _ x=oG x:=by
 rintro⟨v0,⟨⟩⟩
 kernel_rfl
theorem aGG:eX tP 74 _ _ oG:=by exact aKN aK aAV Tryz.func74 (c:=JK) (by kernel_rfl) (aV:=aG Tryz.f74) (lt:=RZ) (aD aAA trivial) aBR
abbrev D5:Ent:=⟨74,_,_,oG⟩
theorem EY:Ent.OK tP D5:=aGG
def j8(x:aH [.agg TyH]):Option (aH [.agg TyH,.int .i64]):=match x with
 | (v0,()) =>
  aC (jE (v0,())) λy1 =>
  bif !(eqI y1.1 0) then
   some ((0,[]),y1.1,())
  else aC (dE () (v0.2,()) []) λy2 =>
  aC (cZ () (y2.1,v0.1,()) y2.2) λy3 =>
  aC (dH y3.1 (v0.1,()) y3.2) λy4 =>
  some (y4.1.1,y4.1.2.1,())
def FM:Code:=aQ Tryz.f76
abbrev M5:Env:=NN [FF] [uH,zH,mK]
theorem VW:bC tP M5:=o9 ⟨D6,trivial⟩ ⟨uX,D3,mV,trivial⟩
def KX(id:Nat):Option b9:=none
theorem UZ:cB FM=[]:=by kernel_rfl
theorem W5:∀ x,aEA tP M5 Tryz.f76 (aG Tryz.f76) KX FM 110 .str _ _ x=j8 x:=by
 rintro⟨v0,⟨⟩⟩
 kernel_rfl
theorem Z2:eX tP 76 _ _ j8:=by exact aKN aK VW Tryz.func76 (c:=FM) (by kernel_rfl) (aV:=aG Tryz.f76) (lt:=KX) (aD UZ trivial) W5
abbrev yI:Ent:=⟨76,_,_,j8⟩
theorem BH:Ent.OK tP yI:=Z2
end Go.PM
namespace Go.Lz
def d2(a b:V)(x y:Nat):Int:=a x*b y-a y*b x
def d3(a b c:V)(x y z:Nat):Int:=d2 a b x y*c z-d2 a b x z*c y+d2 a b y z*c x
def d4(a b c d:V)(x y z u:Nat):Int:=d3 a b c x y z*d u-d3 a b c x y u*d z+d3 a b c x z u*d y-d3 a b c y z u*d x
structure Lin (f:V->Int):Prop where
 zero:f (λ_=>0)=0
 add:∀ u t m,f (λi=>u i+t*m i)=f u+t*f m
theorem Lin.sp {f:V->Int}(h:Lin f){k:Nat}{M:Nat->V}(hz:∀ j,j<k->f (M j)=0){v:V}(hv:Sp k M v):f v=0:=by
 induction hv with
 | zero=>exact h.zero
 | add j t hj _ ih=>rw[h.add,ih,hz j hj]; simp
theorem Lin.pick {f:V->Int} (h:Lin f) {k:Nat} {M:Nat->V} {u:V} {t:Int} (ht:t≠0) (hs:Sp k M (λi=>t*u i)) (hu:f u≠0):∃ j,j<k/\f (M j)≠0:=by
 refine Classical.byContradiction λhn=>?_
 have hz:∀ j,j<k->f (M j)=0:=λj hj=>Classical.byContradiction λh0=>hn ⟨j,hj,h0⟩
 have h1:=h.sp hz hs;have h2:=h.add (λ_=>0) t u;have e:(λi=>(0:Int)+t*u i)=λi=>t*u i:=by funext i; simp
 rw[e,h1,h.zero,Int.zero_add]at h2;rcases Int.mul_eq_zero.1 h2.symm with h3|h3
 ·exact ht h3
 ·exact hu h3
theorem TB {x y:Int}{A B:Nat}(hx:x.natAbs<=A)(hy:y.natAbs<=B):(x*y).natAbs<=A*B:=by rw[Int.natAbs_mul]; exact Nat.mul_le_mul hx hy
theorem d2B {a b:V}{E:Nat}(ha:∀ x,(a x).natAbs<=E)(hb:∀ x,(b x).natAbs<=E)(x y:Nat):(d2 a b x y).natAbs<=2*(E*E):=by
 have h1:=TB (ha x) (hb y);have h2:=TB (ha y) (hb x);unfold d2;omega
theorem d3B {a b c:V}{E:Nat}(ha:∀ x,(a x).natAbs<=E)(hb:∀ x,(b x).natAbs<=E)(hc:∀ x,(c x).natAbs<=E)(x y z:Nat):(d3 a b c x y z).natAbs<=6*(E*E*E):=by
 have h1:=TB (d2B ha hb x y) (hc z);have h2:=TB (d2B ha hb x z) (hc y);have h3:=TB (d2B ha hb y z) (hc x);have e:2*(E*E)*E=2*(E*E*E):=by grind
 rw[e]at h1 h2 h3;unfold d3;omega
theorem d4B {a b c d:V}{E:Nat}(ha:∀ x,(a x).natAbs<=E)(hb:∀ x,(b x).natAbs<=E)(hc:∀ x,(c x).natAbs<=E)(hd:∀ x,(d x).natAbs<=E)(x y z u:Nat):(d4 a b c d x y z u).natAbs<=24*(E*E*E*E):=by
 have h1:=TB (d3B ha hb hc x y z) (hd u);have h2:=TB (d3B ha hb hc x y u) (hd z);have h3:=TB (d3B ha hb hc x z u) (hd y);have h4:=TB (d3B ha hb hc y z u) (hd x);have e:6*(E*E*E)*E=6*(E*E*E*E):=by grind
 rw[e]at h1 h2 h3 h4;unfold d4;omega
def Dg(k:Nat) (M:Nat->V) (r:Nat) (p:Nat->Nat) (W:Nat):Prop :=
 ∃ (D:Int) (w:Nat->V),D≠0/\∀ j,j<r->Sp k M (w j)/\w j (p j)=D/\(∀ i,i<r->i≠j->w j (p i)=0)/\∀ x,(w j x).natAbs<=W
theorem Dg.mono {k k':Nat}{M M':Nat->V}{r:Nat}{p:Nat->Nat}{W:Nat}(h:Dg k M r p W)(hs:∀ v,Sp k M v->Sp k' M' v):Dg k' M' r p W:=by
 obtain⟨D,w,h0,h1⟩:=h;exact⟨D,w,h0,λj hj=>⟨hs _ (h1 j hj).1,(h1 j hj).2⟩⟩
section
variable {k:Nat} {M:Nat->V}
theorem Sp.a9V {a b:Nat}(ha:a<k)(hb:b<k)(s t:Int):Sp k M (λi=>s*M a i+t*M b i):=Sp.comb t (Sp.smul s (Sp.mem ha)) (Sp.mem hb)
theorem Sp.a8F {a b c:Nat}(ha:a<k)(hb:b<k)(hc:c<k)(s t u:Int):Sp k M (λi=>s*M a i+t*M b i+u*M c i):=Sp.comb u (Sp.a9V ha hb s t) (Sp.mem hc)
theorem Sp.a8Q {a b c d:Nat}(ha:a<k)(hb:b<k)(hc:c<k)(hd:d<k)(s t u v:Int):Sp k M (λi=>s*M a i+t*M b i+u*M c i+v*M d i):=Sp.comb v (Sp.a8F ha hb hc s t u) (Sp.mem hd)
theorem aD9 {u:V} {p0:Nat} {t:Int} (ht:t≠0) (hs:Sp k M (λi=>t*u i)) (h0:u p0≠0):∃ a,a<k/\M a p0≠0 :=
 Lin.pick (f:=λv=>v p0) ⟨rfl,λ_ _ _=>rfl⟩ ht hs h0
theorem aKI {u:V}{a p0 p1:Nat}{t:Int}(ht:t≠0)(hs:Sp k M (λi=>t*u i))(h0:u p0=0)(h1:u p1≠0)(ha:M a p0≠0):∃ b,b<k/\d2 (M a) (M b) p0 p1≠0:=by
 refine Lin.pick (f:=λv=>d2 (M a) v p0 p1) ⟨by simp[d2],λu t m=>by simp only[d2]; grind⟩ ht hs ?_;simp only[d2,h0,Int.mul_zero,Int.sub_zero];exact λh=>(Int.mul_eq_zero.1 h).elim ha h1
theorem aWN {u:V}{a b p0 p1 p2:Nat}{t:Int}(ht:t≠0)(hs:Sp k M (λi=>t*u i))(h0:u p0=0)(h1:u p1=0)(h2:u p2≠0)(ha:d2 (M a) (M b) p0 p1≠0):∃ c,c<k/\d3 (M a) (M b) (M c) p0 p1 p2≠0:=by
 refine Lin.pick (f:=λv=>d3 (M a) (M b) v p0 p1 p2) ⟨by simp[d3],λu t m=>by simp only[d3]; grind⟩ ht hs ?_;simp only[d3,h0,h1,Int.mul_zero,Int.sub_zero,Int.add_zero];exact λh=>(Int.mul_eq_zero.1 h).elim ha h2
theorem a6P {u:V}{a b c p0 p1 p2 p3:Nat}{t:Int}(ht:t≠0)(hs:Sp k M (λi=>t*u i))(h0:u p0=0)(h1:u p1=0)(h2:u p2=0)(h3:u p3≠0)(ha:d3 (M a) (M b) (M c) p0 p1 p2≠0):∃ d,d<k/\d4 (M a) (M b) (M c) (M d) p0 p1 p2 p3≠0:=by
 refine Lin.pick (f:=λv=>d4 (M a) (M b) (M c) v p0 p1 p2 p3) ⟨by simp[d4],λu t m=>by simp only[d4]; grind⟩ ht hs ?_;simp only[d4,h0,h1,h2,Int.mul_zero,Int.sub_zero,Int.add_zero];exact λh=>(Int.mul_eq_zero.1 h).elim ha h3
theorem bBL {p:Nat->Nat}{W a:Nat}(hB:∀ x,(M a x).natAbs<=W)(ha:a<k)(h:M a (p 0)≠0):Dg k M 1 p W :=
 ⟨_,λ_=>M a,h,λj hj=>by
  obtain rfl:j=0:=by omega
  exact⟨Sp.mem ha,rfl,λi hi hne=>by omega,hB⟩⟩
theorem bBP {p:Nat->Nat}{W a b:Nat}(hB:∀ x y,(d2 (M a) (M b) x y).natAbs<=W)(ha:a<k)(hb:b<k)(h:d2 (M a) (M b) (p 0) (p 1)≠0):Dg k M 2 p W:=by
 refine⟨_,λj=>if j=0 then (λx=>d2 (M a) (M b) x (p 1)) else λx=>d2 (M a) (M b) (p 0) x,h,λj hj=>?_⟩;rcases(show j=0\/j=1 by omega)with rfl|rfl
 ·refine⟨?_,rfl,λi hi hne=>?_,λx=>hB _ _⟩
  ·refine cast (congrArg (Sp k M) ?_) (Sp.a9V ha hb (M b (p 1)) (-(M a (p 1))))
   funext x
   simp only[if_true,d2]; grind
  ·obtain rfl:i=1:=by omega
   simp only[if_true,d2]; grind
 ·refine⟨?_,rfl,λi hi hne=>?_,λx=>hB _ _⟩
  ·refine cast (congrArg (Sp k M) ?_) (Sp.a9V ha hb (-(M b (p 0))) (M a (p 0)))
   funext x
   simp only[d2,Nat.one_ne_zero,if_false]; grind
  ·obtain rfl:i=0:=by omega
   simp only[d2,Nat.one_ne_zero,if_false]; grind
theorem bBA {p:Nat->Nat}{W a b c:Nat}(hB:∀ x y z,(d3 (M a) (M b) (M c) x y z).natAbs<=W)(ha:a<k)(hb:b<k)(hc:c<k)(h:d3 (M a) (M b) (M c) (p 0) (p 1) (p 2)≠0):Dg k M 3 p W:=by
 refine⟨_,λj=>if j=0 then (λx=>d3 (M a) (M b) (M c) x (p 1) (p 2)) else if j=1 then (λx=>d3 (M a) (M b) (M c) (p 0) x (p 2)) else λx=>d3 (M a) (M b) (M c) (p 0) (p 1) x,h,λj hj=>?_⟩;rcases(show j=0\/j=1\/j=2 by omega)with rfl|rfl|rfl
 ·refine⟨?_,rfl,λi hi hne=>?_,λx=>hB _ _ _⟩
  ·refine cast (congrArg (Sp k M) ?_) (Sp.a8F ha hb hc (d2 (M b) (M c) (p 1) (p 2)) (-(d2 (M a) (M c) (p 1) (p 2))) (d2 (M a) (M b) (p 1) (p 2)))
   funext x
   show _=d3 (M a) (M b) (M c) x (p 1) (p 2);simp only[d3,d2]; grind
  ·show (λx=>d3 (M a) (M b) (M c) x (p 1) (p 2)) (p i)=0;rcases(show i=1\/i=2 by omega)with rfl|rfl
   ·simp only[d3,d2]; grind
   ·simp only[d3,d2]; grind
 ·refine⟨?_,rfl,λi hi hne=>?_,λx=>hB _ _ _⟩
  ·refine cast (congrArg (Sp k M) ?_) (Sp.a8F ha hb hc (-(d2 (M b) (M c) (p 0) (p 2))) (d2 (M a) (M c) (p 0) (p 2)) (-(d2 (M a) (M b) (p 0) (p 2))))
   funext x
   show _=d3 (M a) (M b) (M c) (p 0) x (p 2);simp only[d3,d2]; grind
  ·show (λx=>d3 (M a) (M b) (M c) (p 0) x (p 2)) (p i)=0;rcases(show i=0\/i=2 by omega)with rfl|rfl
   ·simp only[d3,d2]; grind
   ·simp only[d3,d2]; grind
 ·refine⟨?_,rfl,λi hi hne=>?_,λx=>hB _ _ _⟩
  ·refine cast (congrArg (Sp k M) ?_) (Sp.a8F ha hb hc (d2 (M b) (M c) (p 0) (p 1)) (-(d2 (M a) (M c) (p 0) (p 1))) (d2 (M a) (M b) (p 0) (p 1)))
   funext x
   show _=d3 (M a) (M b) (M c) (p 0) (p 1) x;simp only[d3,d2]; grind
  ·show (λx=>d3 (M a) (M b) (M c) (p 0) (p 1) x) (p i)=0;rcases(show i=0\/i=1 by omega)with rfl|rfl
   ·simp only[d3,d2]; grind
   ·simp only[d3,d2]; grind
theorem bAY {p:Nat->Nat}{W a b c d:Nat}(hB:∀ x y z u,(d4 (M a) (M b) (M c) (M d) x y z u).natAbs<=W)(ha:a<k)(hb:b<k)(hc:c<k)(hd:d<k)(h:d4 (M a) (M b) (M c) (M d) (p 0) (p 1) (p 2) (p 3)≠0):Dg k M 4 p W:=by
 refine⟨_,λj=>if j=0 then (λx=>d4 (M a) (M b) (M c) (M d) x (p 1) (p 2) (p 3)) else if j=1 then (λx=>d4 (M a) (M b) (M c) (M d) (p 0) x (p 2) (p 3)) else if j=2 then (λx=>d4 (M a) (M b) (M c) (M d) (p 0) (p 1) x (p 3)) else λx=>d4 (M a) (M b) (M c) (M d) (p 0) (p 1) (p 2) x,h,λj hj=>?_⟩;rcases(show j=0\/j=1\/j=2\/j=3 by omega)with rfl|rfl|rfl|rfl
 ·refine⟨?_,rfl,λi hi hne=>?_,λx=>hB _ _ _ _⟩
  ·refine cast (congrArg (Sp k M) ?_) (Sp.a8Q ha hb hc hd (d3 (M b) (M c) (M d) (p 1) (p 2) (p 3)) (-(d3 (M a) (M c) (M d) (p 1) (p 2) (p 3))) (d3 (M a) (M b) (M d) (p 1) (p 2) (p 3)) (-(d3 (M a) (M b) (M c) (p 1) (p 2) (p 3))))
   funext x
   show _=d4 (M a) (M b) (M c) (M d) x (p 1) (p 2) (p 3);simp only[d4,d3,d2]; grind
  ·show (λx=>d4 (M a) (M b) (M c) (M d) x (p 1) (p 2) (p 3)) (p i)=0;rcases(show i=1\/i=2\/i=3 by omega)with rfl|rfl|rfl
   ·simp only[d4,d3,d2]; grind
   ·simp only[d4,d3,d2]; grind
   ·simp only[d4,d3,d2]; grind
 ·refine⟨?_,rfl,λi hi hne=>?_,λx=>hB _ _ _ _⟩
  ·refine cast (congrArg (Sp k M) ?_) (Sp.a8Q ha hb hc hd (-(d3 (M b) (M c) (M d) (p 0) (p 2) (p 3))) (d3 (M a) (M c) (M d) (p 0) (p 2) (p 3)) (-(d3 (M a) (M b) (M d) (p 0) (p 2) (p 3))) (d3 (M a) (M b) (M c) (p 0) (p 2) (p 3)))
   funext x
   show _=d4 (M a) (M b) (M c) (M d) (p 0) x (p 2) (p 3);simp only[d4,d3,d2]; grind
  ·show (λx=>d4 (M a) (M b) (M c) (M d) (p 0) x (p 2) (p 3)) (p i)=0;rcases(show i=0\/i=2\/i=3 by omega)with rfl|rfl|rfl
   ·simp only[d4,d3,d2]; grind
   ·simp only[d4,d3,d2]; grind
   ·simp only[d4,d3,d2]; grind
 ·refine⟨?_,rfl,λi hi hne=>?_,λx=>hB _ _ _ _⟩
  ·refine cast (congrArg (Sp k M) ?_) (Sp.a8Q ha hb hc hd (d3 (M b) (M c) (M d) (p 0) (p 1) (p 3)) (-(d3 (M a) (M c) (M d) (p 0) (p 1) (p 3))) (d3 (M a) (M b) (M d) (p 0) (p 1) (p 3)) (-(d3 (M a) (M b) (M c) (p 0) (p 1) (p 3))))
   funext x
   show _=d4 (M a) (M b) (M c) (M d) (p 0) (p 1) x (p 3);simp only[d4,d3,d2]; grind
  ·show (λx=>d4 (M a) (M b) (M c) (M d) (p 0) (p 1) x (p 3)) (p i)=0;rcases(show i=0\/i=1\/i=3 by omega)with rfl|rfl|rfl
   ·simp only[d4,d3,d2]; grind
   ·simp only[d4,d3,d2]; grind
   ·simp only[d4,d3,d2]; grind
 ·refine⟨?_,rfl,λi hi hne=>?_,λx=>hB _ _ _ _⟩
  ·refine cast (congrArg (Sp k M) ?_) (Sp.a8Q ha hb hc hd (-(d3 (M b) (M c) (M d) (p 0) (p 1) (p 2))) (d3 (M a) (M c) (M d) (p 0) (p 1) (p 2)) (-(d3 (M a) (M b) (M d) (p 0) (p 1) (p 2))) (d3 (M a) (M b) (M c) (p 0) (p 1) (p 2)))
   funext x
   show _=d4 (M a) (M b) (M c) (M d) (p 0) (p 1) (p 2) x;simp only[d4,d3,d2]; grind
  ·show (λx=>d4 (M a) (M b) (M c) (M d) (p 0) (p 1) (p 2) x) (p i)=0;rcases(show i=0\/i=1\/i=2 by omega)with rfl|rfl|rfl
   ·simp only[d4,d3,d2]; grind
   ·simp only[d4,d3,d2]; grind
   ·simp only[d4,d3,d2]; grind
def fac(E:Nat):Nat->Nat
 | 0=>1
 | 1=>E
 | 2=>2*(E*E)
 | 3=>6*(E*E*E)
 | _=>24*(E*E*E*E)
theorem aS4 {r E:Nat}{H:Nat->V}{p:Nat->Nat}(hr:r<=4)(hH:Hn r H p)(hs:∀ j,j<r->∃ t:Int,t≠0/\Sp k M (λi=>t*H j i))(hE:∀ j,j<k->∀ x,(M j x).natAbs<=E):Dg k M r p (fac E r):=by
 have pv:∀ j,j<r->H j (p j)≠0:=λj hj=>by have:=hH.pos j hj; omega
 have lo:∀ i j,i<j->j<r->H j (p i)=0:=λi j hij hj=>hH.low j hj _ (hH.inc i j hij hj)
 rcases(show r=0\/r=1\/r=2\/r=3\/r=4 by omega)with rfl|rfl|rfl|rfl|rfl
 ·exact⟨1,λ_ _=>0,by decide,λj hj=>by omega⟩
 ·obtain⟨t,ht,h0⟩:=hs 0 (by omega);obtain⟨a,ha,q0⟩:=aD9 ht h0 (pv 0 (by omega));exact bBL (hE a ha) ha q0
 ·obtain⟨t,ht,h0⟩:=hs 0 (by omega);obtain⟨a,ha,q0⟩:=aD9 ht h0 (pv 0 (by omega));obtain⟨t,ht,h0⟩:=hs 1 (by omega);obtain⟨b,hb,q1⟩:=aKI ht h0 (lo 0 1 (by omega) (by omega)) (pv 1 (by omega)) q0;exact bBP (d2B (hE a ha) (hE b hb)) ha hb q1
 ·obtain⟨t,ht,h0⟩:=hs 0 (by omega);obtain⟨a,ha,q0⟩:=aD9 ht h0 (pv 0 (by omega));obtain⟨t,ht,h0⟩:=hs 1 (by omega);obtain⟨b,hb,q1⟩:=aKI ht h0 (lo 0 1 (by omega) (by omega)) (pv 1 (by omega)) q0;obtain⟨t,ht,h0⟩:=hs 2 (by omega);obtain⟨c,hc,q2⟩:=aWN ht h0 (lo 0 2 (by omega) (by omega)) (lo 1 2 (by omega) (by omega)) (pv 2 (by omega)) q1;exact bBA (d3B (hE a ha) (hE b hb) (hE c hc)) ha hb hc q2
 ·obtain⟨t,ht,h0⟩:=hs 0 (by omega);obtain⟨a,ha,q0⟩:=aD9 ht h0 (pv 0 (by omega));obtain⟨t,ht,h0⟩:=hs 1 (by omega);obtain⟨b,hb,q1⟩:=aKI ht h0 (lo 0 1 (by omega) (by omega)) (pv 1 (by omega)) q0;obtain⟨t,ht,h0⟩:=hs 2 (by omega);obtain⟨c,hc,q2⟩:=aWN ht h0 (lo 0 2 (by omega) (by omega)) (lo 1 2 (by omega) (by omega)) (pv 2 (by omega)) q1;obtain⟨t,ht,h0⟩:=hs 3 (by omega);obtain⟨d,hd,q3⟩:=a6P ht h0 (lo 0 3 (by omega) (by omega)) (lo 1 3 (by omega) (by omega)) (lo 2 3 (by omega) (by omega)) (pv 3 (by omega)) q2
  exact bAY (d4B (hE a ha) (hE b hb) (hE c hc) (hE d hd)) ha hb hc hd q3
end
theorem Hn.zero {k:Nat} {M:Nat->V} {c:Nat->Nat} (h:Hn k M c) {v:V} (hv:Sp k M v) (hz:∀ i,i<k->v (c i)=0):v=λ_=>0 :=
 h.small hv λi hi=>by have:=h.pos i hi; rw[hz i hi]; constructor <;> omega
theorem Hn.aZ9:∀ {k:Nat} {M:Nat->V} {c:Nat->Nat},Hn k M c->∀ {v:V},Sp k M v->∀ j,j<k->(∀ i,i<j->v (c i)=0)->M j (c j) ∣ v (c j)
 | 0,_,_,_,_,_,j,hj,_=>by omega
 | k+1,M,c,h,v,hv,j,hj,hz=>by
  obtain⟨t,u,hu,rfl⟩:=hv.first;have h0:=h.aLD hu (Nat.le_refl _);cases j with
  | zero=>exact⟨t,by simp only[h0,Int.zero_add]; exact Int.mul_comm _ _⟩
  | succ j =>
   have h1:=hz 0 (by omega);have hp:=h.pos 0 (by omega);simp only[h0,Int.zero_add]at h1;have ht:t=0:=by
    rcases Int.mul_eq_zero.1 h1 with h2|h2
    ·exact h2
    ·omega
   subst ht;have:=Hn.aZ9 h.tail hu j (by omega) λi hi=>by have:=hz (i+1) (by omega); simpa using this
   simpa using this
def sm(f:Nat->Int):Nat->Int
 | 0=>0
 | n+1=>sm f n+f n
theorem MF {f:Nat->Int}:∀ {n:Nat},(∀ i,i<n->f i=0)->sm f n=0
 | 0,_=>rfl
 | n+1,h=>by rw[sm,MF λi hi=>h i (by omega),h n (by omega)]; rfl
theorem U6 {f:Nat->Int}{j:Nat}:∀ {n:Nat},j<n->(∀ i,i<n->i≠j->f i=0)->sm f n=f j
 | 0,h,_=>by omega
 | n+1,h,hz=>by
  rw[sm]
  by_cases hj:j=n
  ·subst hj;rw[MF λi hi=>hz i (by omega) (by omega),Int.zero_add]
  ·rw[U6 (by omega) λi hi=>hz i (by omega),hz n (by omega) (Ne.symm hj),Int.add_zero]
theorem a64 {f:Nat->Int}{B:Nat}:∀ {n:Nat},(∀ i,i<n->(f i).natAbs<=B)->(sm f n).natAbs<=n*B
 | 0,_=>by simp[sm]
 | n+1,h=>by
  have h1:=a64 (n:=n) λi hi=>h i (by omega)
  have h2:=h n (by omega);rw[Nat.succ_mul];show (sm f n+f n).natAbs<=_;omega
theorem Sp.sm {k:Nat}{M:Nat->V}{w:Nat->V}{s:Nat->Int}:∀ {n:Nat},(∀ j,j<n->Sp k M (w j))->Sp k M (λx=>Lz.sm (λj=>s j*w j x) n)
 | 0,_=>Sp.zero
 | n+1,h=>Sp.comb (s n) (Sp.sm λj hj=>h j (by omega)) (h n (by omega))
theorem Hn.aHW {r W:Nat} {H:Nat->V} {p:Nat->Nat} (h:Hn r H p) (hd:Dg r H r p W):∀ i,i<r->∀ x,(H i x).natAbs<=r*W:=by
 obtain⟨D,w,hD,hw⟩:=hd;intro i hi x;have hz:(λy=>D*H i y-Lz.sm (λj=>H i (p j)*w j y) r)=λ_=>0:=by
  refine h.zero (Sp.sub (Sp.smul D (Sp.mem hi)) (Sp.sm λj hj=>(hw j hj).1)) λl hl=>?_
  rw[U6 (f:=λj=>H i (p j)*w j (p l)) hl λj hj hne=>by rw[(hw j hj).2.2.1 l hl (Ne.symm hne),Int.mul_zero]];rw[(hw l hl).2.1];grind
 have h1:=congrFun hz x;have h2:D*H i x=Lz.sm (λj=>H i (p j)*w j x) r:=by
  have:D*H i x-Lz.sm (λj=>H i (p j)*w j x) r=0:=h1;omega
 have h3:(Lz.sm (λj=>H i (p j)*w j x) r).natAbs<=r*(D.natAbs*W):=by
  refine a64 λj hj=>TB ?_ ((hw j hj).2.2.2 x)
  have e1:H j (p j) ∣ D:=by
   have:=h.aZ9 (hw j hj).1 j hj λl hl=>(hw j hj).2.2.1 l (by omega) (by omega)
   rwa[(hw j hj).2.1]at this
  have e2:=Int.natAbs_dvd_natAbs.2 e1;have e3:=Nat.le_of_dvd (by omega) e2;rcases Nat.lt_trichotomy i j with g|g|g
  ·have:=h.red i j g hj;omega
  ·subst g; exact e3
  ·rw[h.low i hi _ (h.inc j i g hi)]; simp
 rw[<- h2,Int.natAbs_mul]at h3;have e:r*(D.natAbs*W)=D.natAbs*(r*W):=by grind
 rw[e]at h3;exact Nat.le_of_mul_le_mul_left h3 (by omega)
end Go.Lz
namespace Go.PM
open Go Go.RowKit Go.Proofs Go.Lz
theorem aST(a n:Nat)(v:V):Zr (a+n) v=Zr a v++Zr n (λy=>v (a+y)):=by
 unfold Zr;rw[List.range_add,List.map_append,List.map_map];rfl
theorem bAK:Zn 1=ByteArray.mk #[49]:=by kernel_rfl
def aEB(J:Nat->Nat) (i o n:Nat) (A:List (List ByteArray)) (t:Nat):=bT ((J i,o,n),(),(n:Int),(t:Int),A,())
section
variable {o k n:Nat} {m:List (Nat×Nat×Nat)} {A:List (List ByteArray)} {J:Nat->Nat} {M:Nat->V}
theorem nJ.ext (h:nJ o k n m A J M)(R:List (List ByteArray)):nJ o k n m (A++R) J M :=
 ⟨h.ml,λi hi=>by
  obtain⟨pre,h1,h2⟩:=h.at_ i hi;refine⟨pre,h1,?_⟩;have:=(List.getElem?_eq_some_iff.1 h2).1;rw[List.getElem?_append_left this]; exact h2,h.inj⟩
theorem nJ.take (h:nJ o k n m A J M){d:Nat}(hd:d<=k):nJ o d n (m.take d) A J M :=
 ⟨by rw[h.ml,<- List.map_take,List.take_range,Nat.min_eq_left hd],λi hi=>h.at_ i (by omega),λi j hi hj=>h.inj i j (by omega) (by omega)⟩
theorem a4R(h:nJ o k n m A J M) (hn:n<1048576) {i:Nat} (hi:i<k) :
  ∃ L:Int,j7 () ((J i,o,n),()) A=some ((L,()),A)/\((L = -1/\∀ x,x<n->M i x=0)\/∃ x,x<n/\L=(x:Int)/\M i x≠0/\∀ y,y<x->M i y=0):=by
 have hg:∀ t,t<n->PM.dJ A (J i)=o+n/\PM.eD A (J i) ((o+t)*1) ByteArray.empty=Zn (M i t):=λt ht=>⟨h.dJ hi,by rw[Nat.mul_one]; exact h.eD hi ht⟩
 have step1:∀ t,t<n->∀ b,decide (M i t=0)=b->aEB J i o n A t=(bif b then some (.inl ((J i,o,n),(),(n:Int),((t+1:Nat):Int),A,())) else some (.inr (.inl ((t:Int),A,())))):=λt ht b hb=>by
  have e1:ltI (t:Int) (n:Int)=true:=by rw[aF]; exact oT (by omega)
  have e2:aI (t:Int) n=true:=by rw[aP]; exact oT (by omega)
  have e3:((t:Nat):Int).toNat=t:=oN _;have e4:Nat.blt ((o+t)*1) (o+n)=true:=by rw[cP]; exact oT (by omega)
  have e5:=cS t (by omega);unfold aEB;simp only[bT,e1,e2,e3,(hg t ht).1,e4,(hg t ht).2,oC,kH,HV,aE,hb,e5];cases b <;> rfl
 by_cases hz:∀ x,x<n->M i x=0
 ·refine⟨-1,?_,.inl ⟨rfl,hz⟩⟩;have key:=bF (step:=bT) (N:=2^64) (λt=>((J i,o,n),(),(n:Int),(t:Int),A,())) n (.inr (A,())) (by omega) (λt ht=>step1 t ht true (oT (hz t ht))) (by
   have e1:ltI (n:Int) (n:Int)=false:=by rw[aF]; exact oF (by omega)
   simp only[bT,e1,oD])
  have key:dD ((J i,o,n),(),((n:Nat):Int),0,A,())=_:=key;simp only[j7,cD,key,aE,nQ]
 ·obtain⟨x,hx1,hx2,hx3⟩:∃ x,x<n/\M i x≠0/\∀ y,y<x->M i y=0:=by
   obtain⟨x0,h1⟩:=Classical.not_forall.1 hz;obtain⟨h1,h2⟩:=Classical.not_imp.1 h1;have:∀ N x0,x0<N->x0<n->M i x0≠0->∃ x,x<n/\M i x≠0/\∀ y,y<x->M i y=0:=by
    intro N
    induction N with
    | zero=>intro x0 h; omega
    | succ N ih =>
     intro x0 h0 h1 h2
     by_cases hy:∀ y,y<x0->M i y=0
     ·exact⟨x0,h1,h2,hy⟩
     ·obtain⟨y,g1⟩:=Classical.not_forall.1 hy;obtain⟨g1,g2⟩:=Classical.not_imp.1 g1;exact ih y (by omega) (by omega) g2
   exact this (x0+1) x0 (by omega) h1 h2
  refine⟨(x:Int),?_,.inr ⟨x,hx1,rfl,hx2,hx3⟩⟩;have key:=bF (step:=bT) (N:=2^64) (λt=>((J i,o,n),(),(n:Int),(t:Int),A,())) x (.inl ((x:Int),A,())) (by omega) (λt ht=>step1 t (by omega) true (oT (hx3 t ht))) (step1 x hx1 false (oF hx2));have key:dD ((J i,o,n),(),((n:Nat):Int),0,A,())=_:=key;simp only[j7,cD,key,aE,FY]
theorem aXX(hn:n<1048576) (A:List (List ByteArray)):oR () ((n:Int),()) A=some (Zr n (λ_=>0),A):=by
 have e1:ltI (n:Int) 0=false:=by rw[aF]; exact oF (by omega)
 have e2:ltI (n:Int) (n:Int)=false:=by rw[aF]; exact oF (by omega)
 have e3:ltI 1048576 (n:Int)=false:=by rw[aF]; exact oF (by omega)
 have e4:((n:Nat):Int).toNat=n:=oN _;have e5:=aC9 (List.replicate n 0) (by simp; omega) (λa ha=>by have:=List.eq_of_mem_replicate ha; omega);have e6:(List.replicate n (0:Int)).map Zn=Zr n (λ_=>0):=by
  unfold Zr;rw[List.map_replicate];refine List.ext_getElem (by simp) λi h1 h2=>by simp
 rw[e6]at e5;simp only[oR,e1,e2,e3,e4,e5,aE,Bool.not_false,oC]
theorem a4Y(M:Nat->V) {c:Nat} (hc:c<n):(List.range k).map (λi=>Zn (M i c))++(Zr n (λ_=>0)).set c (ByteArray.mk #[49])=Zr (k+n) (wide n k M c):=by
 rw[aST]
 congr 1
 ·unfold Zr;refine List.map_congr_left λi hi=>?_
  have:=List.mem_range.1 hi;simp only[wide,this,if_true]
 ·refine List.ext_getElem (by simp[fM]) λi h1 h2=>?_
  rw[fM]at h2;rw[List.getElem_set];have e1:¬ k+i<k:=by omega
  by_cases hic:c=i
  ·subst hic;simp only[if_true,Zr,List.getElem_map,List.getElem_range,wide,e1,if_false];exact bAK.symm
  ·have e2:¬ k+i=k+c:=by omega
   simp only[hic,if_false,Zr,List.getElem_map,List.getElem_range,wide,e1,e2]
theorem a3B(hk:k<1048576) (hn:n<1048576) (hkn:k+n<1048576) (h:nJ o k n m A J M) :
  kJ (m,(n:Int),[],(n:Int),0,A,())=some (m,(n:Int),(List.range n).map (λc=>(A.length+c,0,k+n)),A++(List.range n).map (λc=>Zr (k+n) (wide n k M c)),()):=by
 have key:=bF (step:=kK) (N:=2^64)
  (λt=>(m,(n:Int),(List.range t).map (λc=>(A.length+c,0,k+n)),(n:Int),(t:Int),A++(List.range t).map (λc=>Zr (k+n) (wide n k M c)),())) n
  (m,(n:Int),(List.range n).map (λc=>(A.length+c,0,k+n)),A++(List.range n).map (λc=>Zr (k+n) (wide n k M c)),()) (by omega) (λt ht=>?_) ?_
 ·have e0:A++(List.range 0).map (λc=>Zr (k+n) (wide n k M c))=A:=by simp
  have key:kJ (m,(n:Int),[],(n:Int),0,A++(List.range 0).map (λc=>Zr (k+n) (wide n k M c)),())=_:=key;rwa[e0]at key
 ·generalize hR:(List.range t).map (λc=>Zr (k+n) (wide n k M c))=R;have h':=h.ext R;generalize hB:A++R=B at h' ⊢;have hlen:B.length=A.length+t:=by rw[<- hB,<- hR]; simp
  have col:=bF (step:=kP) (N:=2^64)
   (λs=>(m,(n:Int),(List.range t).map (λc=>(A.length+c,0,k+n)),(t:Int),(List.range s).map (λi=>Zn (M i t)),(n:Int),(t:Int),m,(m.length:Int),(s:Int),B,())) k
   (m,(n:Int),(List.range t).map (λc=>(A.length+c,0,k+n)),(t:Int),(List.range k).map (λi=>Zn (M i t)),(n:Int),(t:Int),B,()) (by omega) (λs hs=>?_) ?_
  ·have col:oK (m,(n:Int),(List.range t).map (λc=>(A.length+c,0,k+n)),(t:Int),[],(n:Int),(t:Int),m,(m.length:Int),0,B,())=_:=col;have e1:ltI (t:Int) (n:Int)=true:=by rw[aF]; exact oT (by omega)
   have e2:aI (t:Int) n=true:=by rw[aP]; exact oT (by omega)
   have e3:((t:Nat):Int).toNat=t:=oN _;have e4:Nat.blt t n=true:=by rw[cP]; exact oT ht
   have e5:(Zr n (λ_=>0)).length=n:=fM _ _;have e6:Nat.ble n 1048576=true:=by rw[eI]; exact oT (by omega)
   have e7:Nat.ble ((List.range k).map (λi=>Zn (M i t))).length 1048576=true:=by rw[eI,List.length_map,List.length_range]; exact oT (by omega)
   have e8:=a4Y (n:=n) (k:=k) M ht;have e9:(Zr (k+n) (wide n k M t)).length=k+n:=fM _ _;have e10:Nat.ble [(A.length+t,0,k+n)].length 1048576=true:=rfl;have e11:Nat.ble ((List.range t).map (λc=>(A.length+c,0,k+n))).length 1048576=true:=by rw[eI,List.length_map,List.length_range]; exact oT (by omega)
   have e12:=cS t (by omega);have e13:(List.range t).map (λc=>(A.length+c,0,k+n))++[(A.length+t,0,k+n)]=(List.range (t+1)).map (λc=>(A.length+c,0,k+n)):=by rw[List.range_succ,List.map_append]; rfl
   have e14:B++[Zr (k+n) (wide n k M t)]=A++(List.range (t+1)).map (λc=>Zr (k+n) (wide n k M c)):=by rw[<- hB,<- hR,List.range_succ,List.map_append,List.append_assoc]; rfl
   have e15:((Zr n (λ_=>0)).set t (ByteArray.mk #[49])).length=n:=by rw[List.length_set,fM]
   simp only[kK,e1,oC,col,aE,aXX hn,e5,e2,e3,e4,e15,e6,e7,e8,e9,hlen,e10,e11,e12,e13,e14]
  ·have e1:ltI (s:Int) (k:Int)=true:=by rw[aF]; exact oT (by omega)
   have e2:aI (s:Int) k=true:=by rw[aP]; exact oT (by omega)
   have e3:((s:Nat):Int).toNat=s:=oN _;have e4:aI (t:Int) n=true:=by rw[aP]; exact oT (by omega)
   have e5:((t:Nat):Int).toNat=t:=oN _;have e6:Nat.blt ((o+t)*1) (o+n)=true:=by rw[cP]; exact oT (by omega)
   have e7:PM.eD B (J s) ((o+t)*1) ByteArray.empty=Zn (M s t):=by rw[Nat.mul_one]; exact h'.eD hs ht
   have e8:Nat.ble [Zn (M s t)].length 1048576=true:=rfl;have e9:Nat.ble ((List.range s).map (λi=>Zn (M i t))).length 1048576=true:=by rw[eI,List.length_map,List.length_range]; exact oT (by omega)
   have e10:=cS s (by omega);have e11:(List.range s).map (λi=>Zn (M i t))++[Zn (M s t)]=(List.range (s+1)).map (λi=>Zn (M i t)):=by rw[List.range_succ,List.map_append]; rfl
   simp only[kP,h.len,e1,e2,e3,h'.get hs,e4,e5,h'.dJ hs,e6,e7,e8,e9,e10,e11,oC]
  ·have e1:ltI (k:Int) (k:Int)=false:=by rw[aF]; exact oF (by omega)
   simp only[kP,h.len,e1,oD]
 ·have e1:ltI (n:Int) (n:Int)=false:=by rw[aF]; exact oF (by omega)
  simp only[kK,e1,oD]
end
theorem Hn.split {d:Nat}{W:Nat->V}{p:Nat->Nat}(h:Hn d W p)(k:Nat):∃ j,j<=d/\(∀ i,i<j->p i<k)/\∀ i,j<=i->i<d->k<=p i:=by
 have:∀ t,t<=d->∃ j,j<=t/\(∀ i,i<j->p i<k)/\∀ i,j<=i->i<t->k<=p i:=by
  intro t
  induction t with
  | zero=>exact λ_=>⟨0,Nat.le_refl _,λi hi=>by omega,λi _ hi=>by omega⟩
  | succ t ih =>
   intro ht;obtain⟨j,h1,h2,h3⟩:=ih (by omega)
   by_cases hj:j=t
   ·by_cases hp:p t<k
    ·exact⟨t+1,by omega,λi hi=>by
      by_cases e:i=t
      ·subst e; exact hp
      ·exact h2 i (by omega),λi g1 g2=>by omega⟩
    ·exact⟨j,by omega,h2,λi g1 g2=>by
      have:i=t:=by omega
      subst this; omega⟩
   ·exact⟨j,by omega,h2,λi g1 g2=>by
     by_cases e:i=t
     ·subst e;have a1:=h3 j (Nat.le_refl _) (by omega);have a2:=h.inc j i (by omega) (by omega);omega
     ·exact h3 i g1 (by omega)⟩
 exact this d (Nat.le_refl _)
section
variable {o k n d:Nat} {m:List (Nat×Nat×Nat)} {A:List (List ByteArray)} {J:Nat->Nat} {M:Nat->V}
theorem nJ.behind (h:nJ o d (k+n) m A J M){j:Nat}(hj:j<=d):nJ (o+k) (d-j) n ((List.range (d-j)).map λi=>(J (j+i),o+k,n)) A (λi=>J (j+i)) (λi y=>M (j+i) (k+y)) :=
 ⟨rfl,λi hi=>by
  obtain⟨pre,h1,h2⟩:=h.at_ (j+i) (by omega);refine⟨pre++Zr k (M (j+i)),by rw[List.length_append,fM,h1],?_⟩;rw[h2,aST,List.append_assoc],λa b ha hb e=>by
  have:=h.inj (j+a) (j+b) (by omega) (by omega) e;omega⟩
theorem aKZ(hkn:k+n<1048576) (hd:d<1048576) (h:nJ o d (k+n) m A J M) {p:Nat->Nat} (hH:Hn d M p) (hw:Wd d (k+n) M) {j:Nat} (hj:j<=d) (h1:∀ i,i<j->p i<k) (h2:∀ i,j<=i->i<d->k<=p i) :
  kM ((k:Int),(n:Int),[],m,(m.length:Int),0,A,())=some ((n:Int),(List.range (d-j)).map (λi=>(J (j+i),o+k,n)),A,()):=by
 have key:=bF (step:=gF) (N:=2^64)
  (λt=>((k:Int),(n:Int),(List.range (t-j)).map (λi=>(J (j+i),o+k,n)),m,(m.length:Int),(t:Int),A,())) d
  ((n:Int),(List.range (d-j)).map (λi=>(J (j+i),o+k,n)),A,()) (by omega) (λt ht=>?_) ?_
 ·have key:kM ((k:Int),(n:Int),(List.range (0-j)).map (λi=>(J (j+i),o+k,n)),m,(m.length:Int),0,A,())=_:=key;rwa[Nat.zero_sub]at key
 ·have e1:ltI (t:Int) (d:Int)=true:=by rw[aF]; exact oT (by omega)
  have e2:aI (t:Int) d=true:=by rw[aP]; exact oT (by omega)
  have e3:((t:Nat):Int).toNat=t:=oN _;obtain⟨L,q1,q2⟩:=a4R h (by omega) ht;have hp:=hH.pos t ht;have hpl:p t<k+n:=by
   refine Classical.byContradiction λhc=>?_
   have:=hw t ht (p t) (by omega);omega
  have hL:L=(p t:Int):=by
   rcases q2 with ⟨_,q3⟩|⟨x,g1,g2,g3,g4⟩
   ·have:=q3 (p t) hpl; omega
   ·rw[g2]
    congr 1
    rcases Nat.lt_trichotomy x (p t)with g|g|g
    ·exact absurd (hH.low t ht x g) g3
    ·exact g
    ·have:=g4 (p t) g; omega
  subst hL;have e4:=cS t (by omega)
  by_cases htj:t<j
  ·have e5:ltI (p t:Int) (k:Int)=true:=by rw[aF]; exact oT (by have:=h1 t htj; omega)
   have e6:t+1-j=0:=by omega
   have e7:t-j=0:=by omega
   simp only[gF,h.len,e1,e2,e3,h.get ht,q1,aE,e5,e4,e6,e7,oC,oD,Bool.not_true]
  ·have e5:ltI (p t:Int) (k:Int)=false:=by rw[aF]; exact oF (by have:=h2 t (by omega) ht; omega)
   have e6:ltI (k:Int) 0=false:=by rw[aF]; exact oF (by omega)
   have e7:((k:Nat):Int).toNat=k:=oN _;have e8:Nat.ble k (k+n)=true:=by rw[eI]; exact oT (by omega)
   have e9:Nat.ble (k+n) (k+n)=true:=by rw[eI]; exact oT (by omega)
   have e10:k+n-k=n:=by omega
   have e11:Nat.ble [(J t,o+k,n)].length 1048576=true:=rfl;have e12:Nat.ble ((List.range (t-j)).map (λi=>(J (j+i),o+k,n))).length 1048576=true:=by rw[eI,List.length_map,List.length_range]; exact oT (by omega)
   have e13:(List.range (t-j)).map (λi=>(J (j+i),o+k,n))++[(J t,o+k,n)]=(List.range (t+1-j)).map (λi=>(J (j+i),o+k,n)):=by
    rw[show t+1-j=(t-j)+1 by omega,List.range_succ,List.map_append];have:j+(t-j)=t:=by omega
    simp only[List.map_cons,List.map_nil,this]
   simp only[gF,h.len,e1,e2,e3,h.get ht,q1,aE,e5,e4,e6,e7,e8,e9,e10,e11,e12,e13,oC,oD,Bool.not_false]
 ·have e1:ltI (d:Int) (d:Int)=false:=by rw[aF]; exact oF (by omega)
  simp only[gF,h.len,e1,oD]
theorem Wd.wide (hw:Wd k n M):Wd n (k+n) (wide n k M):=λi hi x hx=>by
 have e1:¬ x<k:=by omega
 have e2:¬ x=k+i:=by omega
 simp only[Lz.wide,e1,e2,if_false]
theorem Big.wide {E:Nat}(hE:Big k n M E)(h1:1<=E):Big n (k+n) (wide n k M) E:=λi hi x hx=>by
 simp only[Lz.wide];split
 ·rename_i hk; exact hE x hk i hi
 ·split
  ·simpa using h1
  ·simp
theorem aBJ {W:Nat->V} {p:Nat->Nat} (hH:Hn d W p) (hs:Same n (wide n k M) d W) {j:Nat} (hj:j<=d) (h1:∀ i,i<j->p i<k) (h2:∀ i,j<=i->i<d->k<=p i) :
  Hn (d-j) (λi y=>W (j+i) (k+y)) (λi=>p (j+i)-k)/\l8 n k M (d-j) (λi y=>W (j+i) (k+y)):=by
 refine⟨⟨λa b hab hb=>?_,λi hi x hx=>?_,λi hi=>?_,λa b hab hb=>?_⟩,a3D hH hs hj h1 h2⟩
 ·have g1:=h2 (j+a) (by omega) (by omega);have g2:=hH.inc (j+a) (j+b) (by omega) (by omega);show p (j+a)-k<p (j+b)-k;omega
 ·exact hH.low (j+i) (by omega) (k+x) (by have:x<p (j+i)-k:=hx; omega)
 ·have g1:=h2 (j+i) (by omega) (by omega);show 0<W (j+i) (k+(p (j+i)-k));rw[show k+(p (j+i)-k)=p (j+i)by omega];exact hH.pos (j+i) (by omega)
 ·have g1:=h2 (j+b) (by omega) (by omega);show 0<=W (j+a) (k+(p (j+b)-k))/\W (j+a) (k+(p (j+b)-k))<W (j+b) (k+(p (j+b)-k));rw[show k+(p (j+b)-k)=p (j+b)by omega];exact hH.red (j+a) (j+b) (by omega) (by omega)
theorem aQ7 {E T:Nat->Nat} (hk:k<1048576) (hn:n<1048576) (hkn:k+n<1048576) (h:nJ o k n m A J M) (hw:Wd k n M) (hE:Big k n M (E 0)) (h1E:1<=E 0) (hb:Bds n (k+n) E T)
  (hK:∀ r K p,r<=n->Hn r K p->l8 n k M r K->∃ E2 T2:Nat->Nat,Big r n K (E2 0)/\Bds r n E2 T2) :
  ∃ m' A' J' K p r,cZ () (m,(n:Int),()) A=some (m',A')/\nJ k r n m' A' J' K/\r<=n/\Hn r K p/\l8 n k M r K/\Wd r n K:=by
 have hl:=a3B hk hn hkn h;have hL:nJ 0 n (k+n) ((List.range n).map λc=>(A.length+c,0,k+n)) (A++(List.range n).map λc=>Zr (k+n) (wide n k M c)) (λc=>A.length+c) (wide n k M) :=
  ⟨rfl,λi hi=>⟨[],rfl,by
   rw[List.getElem?_append_right (by omega),show A.length+i-A.length=i by omega,List.getElem?_map,List.getElem?_range hi];rfl⟩,λi j _ _ e=>by omega⟩
 obtain⟨m1,A1,J1,W,d,p,g1,g2,g3,g4,g5,g6,g7⟩:=YK hn hkn hL hw.wide (hE.wide h1E) hb;obtain⟨j,b1,b2,b3⟩:=Hn.split g4 k;have hL2:=g3.take g2;have hwd:Wd d (k+n) W:=λi hi x hx=>g6 i (by omega) x hx
 have hbl:=aKZ hkn (by omega) hL2 g4 hwd b1 b2 b3;obtain⟨c1,c2⟩:=aBJ g4 g5 b1 b2 b3;have hL3:=hL2.behind b1;have hwK:Wd (d-j) n (λi y=>W (j+i) (k+y)):=λi hi x hx=>hwd (j+i) (by omega) (k+x) (by omega)
 obtain⟨E2,T2,k1,k2⟩:=hK _ _ _ (by omega) c1 c2;obtain⟨m2,A2,J2,K,r,p2,f1,f2,f3,f4,f5,f6,f7⟩:=YK (show d-j<1048576 by omega) hn hL3 hwK k1 k2;rw[Nat.zero_add]at f3;refine⟨m2.take r,A2,J2,K,p2,r,?_,f3.take f2,by omega,f4,?_,λi hi x hx=>f6 i (by omega) x hx⟩
 ·have e1:aB .i64 ((k:Int)+(n:Int))=((k+n:Nat):Int):=by rw[wrap64 (by omega) (by omega)]; omega
  have hml:=h.len;simp only[cZ,hl,aE,hml,e1,g1,eP,hbl,f1]
 ·intro y;rw[<- f5 y];exact c2 y
end
theorem xP(n:Nat)(v:V):(Vr n v).length=n:=by simp[Vr]
theorem aUU {n i:Nat}(v:V)(h:i<n):(Vr n v).getD i 0=v i:=by simp[Vr,List.getD,h]
theorem aA0 {n:Nat}{v:V}{B:Nat}(h:∀ x,x<n->(v x).natAbs<=B):∀ a∈Vr n v,a.natAbs<=B:=by
 intro a ha;obtain⟨x,hx,rfl⟩:=List.mem_map.1 ha;exact h x (List.mem_range.1 hx)
def Mr(d n:Nat) (M:Nat->V):List (List Int):=(List.range d).map λi=>Vr n (M i)
theorem fN(d n:Nat)(M:Nat->V):(Mr d n M).length=d:=by simp[Mr]
theorem aFD {d n i:Nat}(M:Nat->V)(h:i<d)(z:List Int):(Mr d n M).getD i z=Vr n (M i):=by simp[Mr,List.getD,h]
theorem aE5 {d n:Nat}{M:Nat->V}{r:List Int}(h:r∈Mr d n M):∃ i,i<d/\r=Vr n (M i):=by
 obtain⟨i,hi,rfl⟩:=List.mem_map.1 h;exact⟨i,List.mem_range.1 hi,rfl⟩
theorem a6Z(r:List Int)(hl:r.length<1048576)(hr:∀ a∈r,a.natAbs<=1000000000):gN (r,(),())=some (false,()):=by
 have key:=bF (step:=dZ) (N:=2^64) (λt=>(r,(),(r.length:Int),(t:Int),())) r.length (.inr ()) (by omega) (λt ht=>?_) ?_
 ·have key:cE dZ (2^64) (r,(),(r.length:Int),0,())=some (.inr ()):=key;have e2:ltI (-1) 0=true:=by decide
  simp only[gN,nO,jX,key,aE,nQ,e2,Bool.not_true]
 ·have e1:ltI (t:Int) (r.length:Int)=true:=by rw[aF]; exact oT (by omega)
  have e2:aI (t:Int) r.length=true:=by rw[aP]; exact oT (by omega)
  have e3:((t:Nat):Int).toNat=t:=oN _;have e4:r.getD t 0=r[t]:=by simp[List.getD,ht]
  have b:=hr r[t] (List.getElem_mem ht);have e5:ltI r[t] (-1000000000)=false:=by rw[aF]; exact oF (by omega)
  have e6:ltI 1000000000 r[t]=false:=by rw[aF]; exact oF (by omega)
  have e7:=cS t (by omega);simp only[dZ,e1,e2,e3,e4,QL,e5,e6,aE,oC,oD,e7]
 ·have e1:ltI (r.length:Int) (r.length:Int)=false:=by rw[aF]; exact oF (by omega)
  simp only[dZ,e1,oD]
theorem aAU(rows:List (List Int)){n:Nat}(hk:rows.length<=12)(hn:n<=12)(hlen:∀ r∈rows,r.length=n)(hr:∀ r∈rows,∀ a∈r,a.natAbs<=1000000000):JN (rows,())=some (0,()):=by
 have key:=bF (step:=tN) (N:=2^64) (λt=>(rows,rows,(rows.length:Int),(t:Int),())) rows.length (.inr ()) (by omega) (λt ht=>?_) ?_
 ·have key:cE tN (2^64) (rows,rows,(rows.length:Int),0,())=some (.inr ()):=key;have e1:ltI 12 (rows.length:Int)=false:=by rw[aF]; exact oF (by omega)
  simp only[JN,EB,e1,oD,key,aE,nQ]
 ·have e1:ltI (t:Int) (rows.length:Int)=true:=by rw[aF]; exact oT (by omega)
  have e2:aI (t:Int) rows.length=true:=by rw[aP]; exact oT (by omega)
  have e3:((t:Nat):Int).toNat=t:=oN _;have e4:rows.getD t []=rows[t]:=by simp[List.getD,ht]
  have e4':rows.getD 0 []=rows[0]:=by simp[List.getD,show 0<rows.length by omega]
  have hm:=List.getElem_mem ht;have hm0:=List.getElem_mem (show 0<rows.length by omega);have e5:ltI 12 (rows[t].length:Int)=false:=by rw[aF,hlen _ hm]; exact oF (by omega)
  have e6:aI 0 rows.length=true:=by rw[aP]; exact oT (by omega)
  have e7:eqI (rows[t].length:Int) (rows[0].length:Int)=true:=by rw[jZ,hlen _ hm,hlen _ hm0]; exact oT rfl
  have e8:=a6Z rows[t] (by rw[hlen _ hm]; omega) (hr _ hm);have e9:=cS t (by omega);simp only[tN,e1,e2,e3,e4,e4',e5,e6,e7,e8,e9,aE,Bool.not_true,oC,oD]
 ·have e1:ltI (rows.length:Int) (rows.length:Int)=false:=by rw[aF]; exact oF (by omega)
  simp only[tN,e1,oD]
theorem a7C {n c:Nat} {v:V} (hn:n<1048576) (hc:c<n) (hz:∀ x,x<c->v x=0) (hp:v c≠0):EL (Vr n v,())=some ((c:Int),()):=by
 have hl:=xP n v;have key:=bF (step:=dX) (N:=2^64) (λt=>(Vr n v,(),(n:Int),(t:Int),())) c (.inl ((c:Int),())) (by omega) (λt ht=>?_) ?_
 ·have key:cE dX (2^64) (Vr n v,(),(n:Int),0,())=some (.inl ((c:Int),())):=key;simp only[EL,nM,jT,hl,key,aE,FY]
 ·have e1:ltI (t:Int) (n:Int)=true:=by rw[aF]; exact oT (by omega)
  have e2:aI (t:Int) n=true:=by rw[aP]; exact oT (by omega)
  have e3:((t:Nat):Int).toNat=t:=oN _;have e4:(Vr n v).getD t 0=0:=by rw[aUU v (by omega)]; exact hz t ht
  have e5:eqI 0 0=true:=by decide
  have e9:=cS t (by omega);simp only[dX,hl,e1,e2,e3,e4,AS,e5,e9,aE,Bool.not_true,oC,oD]
 ·have e1:ltI (c:Int) (n:Int)=true:=by rw[aF]; exact oT (by omega)
  have e2:aI (c:Int) n=true:=by rw[aP]; exact oT (by omega)
  have e3:((c:Nat):Int).toNat=c:=oN _;have e4:eqI ((Vr n v).getD c 0) 0=false:=by rw[aUU v hc,jZ]; exact oF hp
  simp only[dX,hl,e1,e2,e3,AS,e4,aE,Bool.not_false,oC]
theorem a02 {n c:Nat}{v:V}(hn:n<1048576)(hc:c<n)(hz:∀ x,x<c->v x=0)(hp:v c≠0):k9 (Zr n v,())=some ((c:Int),()):=by
 have hl:=fM n v;have key:=bF (step:=aT) (N:=2^64) (λt=>(Zr n v,(),(n:Int),(t:Int),())) c (.inl ((c:Int),())) (by omega) (λt ht=>?_) ?_
 ·have key:cE aT (2^64) (Zr n v,(),(n:Int),0,())=some (.inl ((c:Int),())):=key;simp only[k9,eO,dI,hl,key,aE,FY]
 ·have e1:ltI (t:Int) (n:Int)=true:=by rw[aF]; exact oT (by omega)
  have e2:aI (t:Int) n=true:=by rw[aP]; exact oT (by omega)
  have e3:((t:Nat):Int).toNat=t:=oN _;have e4:eqS ((Zr n v).getD t ByteArray.empty) (ByteArray.mk #[48])=true:=by rw[RQ v (by omega),HV]; exact oT (hz t ht)
  have e9:=cS t (by omega);simp only[aT,hl,e1,e2,e3,kH,e4,e9,aE,Bool.not_true,oC,oD]
 ·have e1:ltI (c:Int) (n:Int)=true:=by rw[aF]; exact oT (by omega)
  have e2:aI (c:Int) n=true:=by rw[aP]; exact oT (by omega)
  have e3:((c:Nat):Int).toNat=c:=oN _;have e4:eqS ((Zr n v).getD c ByteArray.empty) (ByteArray.mk #[48])=false:=by rw[RQ v hc,HV]; exact oF hp
  simp only[aT,hl,e1,e2,e3,kH,e4,aE,Bool.not_false,oC]
theorem Hn.aJV {d n:Nat} {M:Nat->V} {p:Nat->Nat} (h:Hn d M p) (hw:∀ i,i<d->∀ x,n<=x->M i x=0) {i:Nat} (hi:i<d):p i<n:=by
 rcases Nat.lt_or_ge (p i) n with g|g
 ·exact g
 ·have:=hw i hi _ g;have:=h.pos i hi;omega
theorem a6W {d n t:Nat}{M:Nat->V}{p:Nat->Nat}(h:Hn d M p)(hw:∀ i,i<d->∀ x,n<=x->M i x=0)(hd:d<1048576)(hn:n<1048576)(ht:t<d) :
  eC (Mr t n M,((p t:Int),Vr n (M t),()),())=some (false,()):=by
 have hl:=fN t n M;have hp:=Hn.aJV h hw ht;have key:=bF (step:=cK) (N:=2^64) (λs=>(Mr t n M,((p t:Int),Vr n (M t),()),(t:Int),(s:Int),())) t (.inr ()) (by omega) (λs hs=>?_) ?_
 ·have key:cE cK (2^64) (Mr t n M,((p t:Int),Vr n (M t),()),(t:Int),0,())=some (.inr ()):=key;have e2:ltI (-1) 0=true:=by decide
  simp only[eC,iF,fW,hl,key,aE,nQ,e2,Bool.not_true]
 ·have e1:ltI (s:Int) (t:Int)=true:=by rw[aF]; exact oT (by omega)
  have e2:aI (s:Int) t=true:=by rw[aP]; exact oT (by omega)
  have e3:∀ a:Nat,((a:Nat):Int).toNat=a:=λa=>oN _
  have e4:=aFD (n:=n) M hs [];have e5:aI (p t:Int) n=true:=by rw[aP]; exact oT (by omega)
  obtain⟨r1,r2⟩:=h.red s t hs ht;have e6:ltI (M s (p t)) 0=false:=by rw[aF]; exact oF (by omega)
  have e7:ltI (M s (p t)) (M t (p t))=true:=by rw[aF]; exact oT r2
  have e9:=cS s (by omega);simp only[cK,hl,e1,e2,e3,e4,CE,xP,e5,aUU _ hp,e6,e7,e9,aE,Bool.not_true,oC,oD]
 ·have e1:ltI (t:Int) (t:Int)=false:=by rw[aF]; exact oF (by omega)
  simp only[cK,e1,oD]
theorem aQ5 {d n:Nat}{M:Nat->V}{p:Nat->Nat}(h:Hn d M p)(hw:∀ i,i<d->∀ x,n<=x->M i x=0)(hd:d<1048576)(hn:n<1048576):DG (Mr d n M,())=some (true,()):=by
 have hl:=fN d n M;obtain⟨q,hq⟩:∃ q:Nat->Int,q=λt=>if t=0 then -1 else (p (t-1):Int):=⟨_,rfl⟩
 have key:=bF (step:=pH) (N:=2^64) (λt=>(Mr d n M,q t,Mr d n M,(d:Int),(t:Int),())) d (.inr ()) (by omega) (λt ht=>?_) ?_
 ·have q0:q 0 = -1:=by rw[hq]; rfl
  rw[q0]at key;have key:cE pH (2^64) (Mr d n M,-1,Mr d n M,(d:Int),0,())=some (.inr ()):=key;simp only[DG,yF,hl,key,aE,nQ]
 ·have hp:=Hn.aJV h hw ht;have e1:ltI (t:Int) (d:Int)=true:=by rw[aF]; exact oT (by omega)
  have e2:aI (t:Int) d=true:=by rw[aP]; exact oT (by omega)
  have e3:∀ a:Nat,((a:Nat):Int).toNat=a:=λa=>oN _
  have e4:=aFD (n:=n) M ht [];have e5:=a7C hn hp (h.low t ht) (by have:=h.pos t ht; omega);have e6:ltI (q t) (p t:Int)=true:=by
   rw[aF,hq];dsimp only;split
   ·exact oT (by omega)
   ·have:=h.inc (t-1) t (by omega) ht;exact oT (by omega)
  have e7:aI (p t:Int) n=true:=by rw[aP]; exact oT (by omega)
  have e8:ltI (M t (p t)) 0=false:=by rw[aF]; exact oF (by have:=h.pos t ht; omega)
  have e9:ltI (t:Int) 0=false:=by rw[aF]; exact oF (by omega)
  have e10:Nat.ble 0 t=true:=rfl;have e11:Nat.ble t d=true:=by rw[eI]; exact oT (by omega)
  have e12:((Mr d n M).drop 0).take (t-0)=Mr t n M:=by
   rw[List.drop_zero,Nat.sub_zero];unfold Mr;rw[<- List.map_take,List.take_range,Nat.min_eq_left (by omega)]
  have e13:=a6W h hw hd hn ht;have e14:=cS t (by omega);have e15:q (t+1)=(p t:Int):=by rw[hq]; simp
  simp only[pH,hl,e1,e2,e3,e4,e5,aE,e6,xP,e7,aUU _ hp,e8,e9,e10,e11,e12,e13,e14,e15,Bool.not_true,Bool.not_false,oC,oD]
 ·have e1:ltI (d:Int) (d:Int)=false:=by rw[aF]; exact oF (by omega)
  simp only[pH,e1,oD]
theorem RJ {d n:Nat} {M:Nat->V} {p:Nat->Nat} (h:Hn d M p) (hw:∀ i,i<d->∀ x,n<=x->M i x=0) (hd:d<=12) (hn:n<=12) (hM:∀ i,i<d->∀ x,x<n->(M i x).natAbs<=1000000000):jE (((n:Int),Mr d n M),())=some (0,()):=by
 have hlen:∀ r∈Mr d n M,r.length=n:=λr hr=>by
  obtain⟨i,_,rfl⟩:=aE5 hr;exact xP _ _
 have hr:∀ r∈Mr d n M,∀ a∈r,a.natAbs<=1000000000:=λr hr=>by
  obtain⟨i,hi,rfl⟩:=aE5 hr;exact aA0 (hM i hi)
 have e0:eqI 0 0=true:=by decide
 have c1:=aXG (Mr d n M) (n:=n) (by rw[fN]; exact hd) hn hlen hr;have c2:=aAU (Mr d n M) (n:=n) (by rw[fN]; exact hd) hn hlen hr;simp only[jE,c1,aE,e0,Bool.not_true,oD,rE,c2,aQ5 h hw (by omega) (by omega),oC]
end Go.PM
namespace Go.Lz
theorem aZK {E d:Nat}(h:1<=E)(hd:d<=4):fac E d<=24*(E*E*E*E):=by
 have h1:E<=E*E:=Nat.le_mul_of_pos_left E h;have h2:E*E<=E*E*E:=Nat.le_mul_of_pos_right _ h;have h3:E*E*E<=E*E*E*E:=Nat.le_mul_of_pos_right _ h;rcases(show d=0\/d=1\/d=2\/d=3\/d=4 by omega)with rfl|rfl|rfl|rfl|rfl <;> simp only[fac] <;> omega
def un(q:Nat):V:=λc=>if c=q then 1 else 0
theorem aE1(b:V){q:Nat}:∀ {n:Nat},(q<n->dot n (un q) b=b q)/\(n<=q->dot n (un q) b=0)
 | 0=>⟨λh=>by omega,λ_=>rfl⟩
 | n+1=>by
  have ih:=aE1 b (q:=q) (n:=n);refine⟨λh=>?_,λh=>?_⟩
  ·show dot n (un q) b+un q n*b n=b q
   by_cases hq:q=n
   ·subst hq;rw[ih.2 (Nat.le_refl _)];simp[un]
   ·rw[ih.1 (by omega)];have:¬ n=q:=λe=>hq e.symm
    simp[un,this]
  ·show dot n (un q) b+un q n*b n=0;have:¬ n=q:=by omega
   rw[ih.2 (by omega)];simp[un,this]
theorem aU0 {n:Nat}(b:V)(s:Nat->Int)(U:Nat->V):∀ d,dot n (λc=>sm (λj=>s j*U j c) d) b=sm (λj=>s j*dot n (U j) b) d
 | 0=>HM b n
 | d+1=>by
  show dot n (λc=>sm (λj=>s j*U j c) d+s d*U d c) b=_;rw[vN,aU0 b s U d];rfl
theorem aOS {n k r r2 d W:Nat} {M K S H:Nat->V} {p:Nat->Nat} (hw:∀ i,i<k->∀ x,n<=x->M i x=0) (hH:Hn d H p) (hs:Same k M d H) (hp:∀ j,j<d->p j<n) (hd:Dg k M d p W) (h1:l8 n k M r K) (h2:l8 n r K r2 S) :
  ∃ D:Int,D≠0/\∀ v,Sp r2 S v->Sp k M (λx=>D*v x):=by
 obtain⟨D,w,h0,hw'⟩:=hd;refine⟨D,h0,λv hv=>?_⟩;have hwid:∀ {b:V},Sp k M b->∀ x,n<=x->b x=0:=λhb x hx=>Sp.l9 (λj hj=>hw j hj x hx) hb
 -- what the rows of the lattice are
 have comb:∀ b,Sp k M b->∀ x,D*b x=sm (λj=>b (p j)*w j x) d:=λb hb x=>by
  have hz:(λy=>D*b y-sm (λj=>b (p j)*w j y) d)=λ_=>0:=by
   refine hH.zero ((hs _).1 (Sp.sub (Sp.smul D hb) (Sp.sm λj hj=>(hw' j hj).1))) λl hl=>?_
   rw[U6 (f:=λj=>b (p j)*w j (p l)) hl λj hj hne=>by rw[(hw' j hj).2.2.1 l hl (Ne.symm hne),Int.mul_zero]];rw[(hw' l hl).2.1];grind
  have:=congrFun hz x;have:D*b x-sm (λj=>b (p j)*w j x) d=0:=this;omega
 have main:∀ x,D*v x=sm (λj=>v (p j)*w j x) d:=λx=>by
  by_cases hx:x<n
  ·-- a row of the kernel
   have hy:∀ b:V,dot n (λc=>sm (λj=>-(w j x)*un (p j) c) d+D*un x c) b=D*b x-sm (λj=>b (p j)*w j x) d:=λb=>by
    rw[vN,aU0,(aE1 b).1 hx];have:sm (λj=>-(w j x)*dot n (un (p j)) b) d = -(sm (λj=>b (p j)*w j x) d):=by
     have:∀ e,e<=d->sm (λj=>-(w j x)*dot n (un (p j)) b) e = -(sm (λj=>b (p j)*w j x) e):=by
      intro e
      induction e with
      | zero=>exact λ_=>rfl
      | succ e ih =>
       intro he;rw[sm,sm,ih (by omega),(aE1 b).1 (hp e (by omega))];grind
     exact this d (Nat.le_refl _)
    rw[this];omega
   have hk:Ker n k M (λc=>sm (λj=>-(w j x)*un (p j) c) d+D*un x c):=by
    refine⟨λc hc=>?_,λi hi=>?_⟩
    ·have e1:¬ c=x:=by omega
     show sm (λj=>-(w j x)*un (p j) c) d+D*un x c=0;rw[MF λj hj=>by
      have:=hp j hj;have e2:¬ c=p j:=by omega
      simp[un,e2]]
     simp[un,e1]
    ·rw[hy,comb _ (Sp.mem hi) x]; omega
   have hv2:=(h2 v).1 hv;have:=hv2.span ((h1 _).2 hk);rw[pL,hy]at this;omega
  ·have g1:=((h2 v).1 hv).1 x (by omega);rw[g1,MF λj hj=>by rw[hwid (hw' j hj).1 x (by omega),Int.mul_zero],Int.mul_zero]
 have:=Sp.sm (k:=k) (M:=M) (w:=w) (s:=λj=>v (p j)) (n:=d) λj hj=>(hw' j hj).1
 refine cast (congrArg _ ?_) this
 funext x
 exact(main x).symm
theorem d2W {a b:V}{A B:Nat}(ha:∀ x,(a x).natAbs<=A)(hb:∀ x,(b x).natAbs<=B)(x y:Nat):(d2 a b x y).natAbs<=2*(A*B):=by
 have h1:=TB (ha x) (hb y);have h2:=TB (ha y) (hb x);unfold d2;omega
theorem sg3 {x y z s t u:Int}{B:Nat}(b1:x.natAbs<=B)(b2:y.natAbs<=B)(b3:z.natAbs<=B)(hs:s=1\/s = -1)(ht:t=1\/t = -1)(hu:u=1\/u = -1):(s*y+t*z).natAbs+(u*z-s*x).natAbs+(t*x+u*y).natAbs<=4*B:=by rcases hs with rfl|rfl <;> rcases ht with rfl|rfl <;> rcases hu with rfl|rfl <;> (simp only[Int.one_mul,Int.neg_mul]; omega)
theorem m3s {a b:V} {A B:Nat} (ha:∀ x,(a x).natAbs<=A) (hb:∀ x,(b x).natAbs<=B) (x y z:Nat) {s t u:Int} (hs:s=1\/s = -1) (ht:t=1\/t = -1) (hu:u=1\/u = -1) :
  (s*d2 a b x y+t*d2 a b x z+u*d2 a b y z).natAbs<=4*(A*B):=by
 have e:s*d2 a b x y+t*d2 a b x z+u*d2 a b y z=a x*(s*b y+t*b z)+a y*(u*b z-s*b x)-a z*(t*b x+u*b y):=by simp only[d2]; grind
 have h1:=TB (ha x) (Nat.le_refl (s*b y+t*b z).natAbs);have h2:=TB (ha y) (Nat.le_refl (u*b z-s*b x).natAbs);have h3:=TB (ha z) (Nat.le_refl (t*b x+u*b y).natAbs);have h4:=sg3 (hb x) (hb y) (hb z) hs ht hu;have h5:=Nat.mul_le_mul_left A h4;rw[Nat.mul_add,Nat.mul_add]at h5;have e2:A*(4*B)=4*(A*B):=by grind
 rw[e];omega
theorem m3 {a b:V}{A B:Nat}(ha:∀ x,(a x).natAbs<=A)(hb:∀ x,(b x).natAbs<=B)(x y z:Nat):(d2 a b x y).natAbs+(d2 a b x z).natAbs+(d2 a b y z).natAbs<=4*(A*B):=by
 have sg:∀ v:Int,∃ s:Int,(s=1\/s = -1)/\s*v=(v.natAbs:Int):=λv=>by
  rcases(by omega:0<=v\/v<0)with h|h
  ·exact⟨1,.inl rfl,by omega⟩
  ·exact⟨-1,.inr rfl,by omega⟩
 obtain⟨s,hs,e1⟩:=sg (d2 a b x y);obtain⟨t,ht,e2⟩:=sg (d2 a b x z);obtain⟨u,hu,e3⟩:=sg (d2 a b y z);have:=m3s ha hb x y z hs ht hu;rw[e1,e2,e3]at this;omega
theorem d3W {a b c:V}{A B C:Nat}(ha:∀ x,(a x).natAbs<=A)(hb:∀ x,(b x).natAbs<=B)(hc:∀ x,(c x).natAbs<=C)(x y z:Nat):(d3 a b c x y z).natAbs<=4*(A*B*C):=by
 have h:=Nat.mul_le_mul_right C (m3 ha hb x y z);have h1:=TB (Nat.le_refl (d2 a b x y).natAbs) (hc z);have h2:=TB (Nat.le_refl (d2 a b x z).natAbs) (hc y);have h3:=TB (Nat.le_refl (d2 a b y z).natAbs) (hc x);rw[Nat.add_mul,Nat.add_mul]at h;have e:4*(A*B)*C=4*(A*B*C):=by grind
 unfold d3;omega
theorem d4W {a b c d:V}{A B C D:Nat}(ha:∀ x,(a x).natAbs<=A)(hb:∀ x,(b x).natAbs<=B)(hc:∀ x,(c x).natAbs<=C)(hd:∀ x,(d x).natAbs<=D)(x y z u:Nat):(d4 a b c d x y z u).natAbs<=16*(A*B*C*D):=by
 have h1:=TB (d3W ha hb hc x y z) (hd u);have h2:=TB (d3W ha hb hc x y u) (hd z);have h3:=TB (d3W ha hb hc x z u) (hd y);have h4:=TB (d3W ha hb hc y z u) (hd x);have e:4*(A*B*C)*D=4*(A*B*C*D):=by grind
 rw[e]at h1 h2 h3 h4;unfold d4;omega
def aP5(k:Nat) (B:Nat->Nat) (W:Nat):Nat->Prop
 | 0=>1<=W
 | 1=>∀ a,a<k->B a<=W
 | 2=>∀ a b,a<k->b<k->a≠b->2*(B a*B b)<=W
 | 3=>∀ a b c,a<k->b<k->c<k->a≠b->a≠c->b≠c->4*(B a*B b*B c)<=W
 | _=>∀ a b c d,a<k->b<k->c<k->d<k->a≠b->a≠c->a≠d->b≠c->b≠d->c≠d->16*(B a*B b*B c*B d)<=W
def a7F(k:Nat) (M:Nat->V) (r:Nat) (p:Nat->Nat):Prop:=∀ i,i<r->∃ u:V,(∃ t:Int,t≠0/\Sp k M (λx=>t*u x))/\(∀ l,l<i->u (p l)=0)/\u (p i)≠0
theorem Hn.chain {r k:Nat}{H M:Nat->V}{p:Nat->Nat}(hH:Hn r H p)(hs:∀ j,j<r->∃ t:Int,t≠0/\Sp k M (λi=>t*H j i)):a7F k M r p:=λi hi =>
 ⟨H i,hs i hi,λl hl=>hH.low i hi _ (hH.inc l i hl hi),by have:=hH.pos i hi; omega⟩
section
variable {k:Nat} {M:Nat->V}
theorem X2 {r W:Nat}{p:Nat->Nat}{B:Nat->Nat}(hr:r<=4)(hC:a7F k M r p)(hE:∀ j,j<k->∀ x,(M j x).natAbs<=B j)(hP:aP5 k B W r) :
  ∃ (D:Int) (w:Nat->V),D≠0/\D.natAbs<=W/\∀ j,j<r->Sp k M (w j)/\w j (p j)=D/\(∀ i,i<r->i≠j->w j (p i)=0)/\∀ x,(w j x).natAbs<=W:=by
 have fin:0<r->Dg k M r p W->∃ (D:Int) (w:Nat->V),D≠0/\D.natAbs<=W/\∀ j,j<r->Sp k M (w j)/\w j (p j)=D/\(∀ i,i<r->i≠j->w j (p i)=0)/\∀ x,(w j x).natAbs<=W:=λh0 ⟨D,w,h1,h2⟩ =>
  ⟨D,w,h1,by have:=(h2 0 h0).2.2.2 (p 0); rwa[(h2 0 h0).2.1]at this,h2⟩
 have ne2:∀ {a b:Nat} {x y:Nat},d2 (M a) (M b) x y≠0->a≠b:=λh e=>h (by subst e; simp only[d2]; grind)
 have ne3:∀ {a b c:Nat} {x y z:Nat},d3 (M a) (M b) (M c) x y z≠0->a≠b/\a≠c/\b≠c:=λh=>⟨λe=>h (by subst e; simp only[d3,d2]; grind),λe=>h (by subst e; simp only[d3,d2]; grind),λe=>h (by subst e; simp only[d3,d2]; grind)⟩
 rcases(show r=0\/r=1\/r=2\/r=3\/r=4 by omega)with rfl|rfl|rfl|rfl|rfl
 ·have:1<=W:=hP;exact⟨1,λ_ _=>0,by decide,this,λj hj=>by omega⟩
 ·obtain⟨u,⟨t,ht,h0⟩,z0,n0⟩:=hC 0 (by omega);obtain⟨a,ha,q0⟩:=aD9 ht h0 n0;exact fin (by omega) (bBL (λx=>Nat.le_trans (hE a ha x) (hP a ha)) ha q0)
 ·obtain⟨u,⟨t,ht,h0⟩,z0,n0⟩:=hC 0 (by omega);obtain⟨a,ha,q0⟩:=aD9 ht h0 n0;obtain⟨u,⟨t,ht,h0⟩,z1,n1⟩:=hC 1 (by omega);obtain⟨b,hb,q1⟩:=aKI ht h0 (z1 0 (by omega)) n1 q0;exact fin (by omega) (bBP (λx y=>Nat.le_trans (d2W (hE a ha) (hE b hb) x y) (hP a b ha hb (ne2 q1))) ha hb q1)
 ·obtain⟨u,⟨t,ht,h0⟩,z0,n0⟩:=hC 0 (by omega);obtain⟨a,ha,q0⟩:=aD9 ht h0 n0;obtain⟨u,⟨t,ht,h0⟩,z1,n1⟩:=hC 1 (by omega);obtain⟨b,hb,q1⟩:=aKI ht h0 (z1 0 (by omega)) n1 q0;obtain⟨u,⟨t,ht,h0⟩,z2,n2⟩:=hC 2 (by omega);obtain⟨c,hc,q2⟩:=aWN ht h0 (z2 0 (by omega)) (z2 1 (by omega)) n2 q1;obtain⟨a1,a2,a3⟩:=ne3 q2;exact fin (by omega) (bBA (λx y z=>Nat.le_trans (d3W (hE a ha) (hE b hb) (hE c hc) x y z) (hP a b c ha hb hc a1 a2 a3)) ha hb hc q2)
 ·obtain⟨u,⟨t,ht,h0⟩,z0,n0⟩:=hC 0 (by omega);obtain⟨a,ha,q0⟩:=aD9 ht h0 n0;obtain⟨u,⟨t,ht,h0⟩,z1,n1⟩:=hC 1 (by omega);obtain⟨b,hb,q1⟩:=aKI ht h0 (z1 0 (by omega)) n1 q0;obtain⟨u,⟨t,ht,h0⟩,z2,n2⟩:=hC 2 (by omega);obtain⟨c,hc,q2⟩:=aWN ht h0 (z2 0 (by omega)) (z2 1 (by omega)) n2 q1;obtain⟨u,⟨t,ht,h0⟩,z3,n3⟩:=hC 3 (by omega);obtain⟨d,hd,q3⟩:=a6P ht h0 (z3 0 (by omega)) (z3 1 (by omega)) (z3 2 (by omega)) n3 q2
  obtain⟨a1,a2,a3⟩:=ne3 q2;have ne4:a≠d/\b≠d/\c≠d:=⟨λe=>q3 (by subst e; simp only[d4,d3,d2]; grind),λe=>q3 (by subst e; simp only[d4,d3,d2]; grind),λe=>q3 (by subst e; simp only[d4,d3,d2]; grind)⟩;exact fin (by omega) (bAY (λx y z u=>Nat.le_trans (d4W (hE a ha) (hE b hb) (hE c hc) (hE d hd) x y z u) (hP a b c d ha hb hc hd a1 a2 ne4.1 a3 ne4.2.1 ne4.2.2)) ha hb hc hd q3)
end
theorem aVA {k r W:Nat}{M:Nat->V}{p:Nat->Nat}(h:∃ (D:Int) (w:Nat->V),D≠0/\D.natAbs<=W/\∀ j,j<r->Sp k M (w j)/\w j (p j)=D/\(∀ i,i<r->i≠j->w j (p i)=0)/\∀ x,(w j x).natAbs<=W):Dg k M r p W:=by
 obtain⟨D,w,h1,_,h2⟩:=h;exact⟨D,w,h1,h2⟩
theorem yH {f g:Nat->Int}:∀ {n:Nat},(∀ i,i<n->f i=g i)->sm f n=sm g n
 | 0,_=>rfl
 | n+1,h=>by rw[sm,sm,yH λi hi=>h i (by omega),h n (by omega)]
theorem a69(f g:Nat->Int):∀ n,sm (λi=>f i+g i) n=sm f n+sm g n
 | 0=>rfl
 | n+1=>by rw[sm,sm,sm,a69 f g n]; omega
theorem aTE(t:Int)(f:Nat->Int):∀ n,sm (λi=>t*f i) n=t*sm f n
 | 0=>by simp[sm]
 | n+1=>by rw[sm,sm,aTE t f n,Int.mul_add]
def skip(j i:Nat):Nat:=if i<j then i else i+1
theorem a6C(j i:Nat):(if skip j i<j then skip j i else skip j i-1)=i:=by
 by_cases h:i<j
 ·simp only[skip,h,if_true]
 ·have:¬ i+1<j:=by omega
  simp only[skip,h,if_false,this];omega
theorem a07(f:Nat->Int)(j:Nat):∀ n,j<=n->sm f (n+1)=sm (λi=>f (skip j i)) n+f j
 | 0,h=>by
  obtain rfl:j=0:=by omega
  rfl
 | n+1,h=>by
  by_cases hj:j=n+1
  ·subst hj;rw[sm,yH (g:=λi=>f (skip (n+1) i)) λi hi=>by
    have:i<n+1:=hi;simp only[skip,this,if_true]]
  ·have e:skip j n=n+1:=by
    have:¬ n<j:=by omega
    simp only[skip,this,if_false]
   rw[sm,a07 f j n (by omega),sm,e];omega
theorem dep:∀ (k:Nat) (M u:Nat->V),(∀ i,i<=k->Sp k M (u i))->∃ c:Nat->Int,(∃ i,i<=k/\c i≠0)/\∀ x,sm (λi=>c i*u i x) (k+1)=0
 | 0,M,u,h=>⟨λ_=>1,⟨0,by omega,by decide⟩,λx=>by
  have:u 0 x=0:=Sp.l9 (λj hj=>by omega) (h 0 (by omega));simp[sm,this]⟩
 | k+1,M,u,h=>by
  have hc:∀ i,∃ tv:Int×V,i<=k+1->Sp k (λj=>M (j+1)) tv.2/\u i=λx=>tv.2 x+tv.1*M 0 x:=λi=>by
   by_cases hi:i<=k+1
   ·obtain⟨t,v,h1,h2⟩:=(h i hi).first;exact⟨(t,v),λ_=>⟨h1,h2⟩⟩
   ·exact⟨(0,λ_=>0),λg=>absurd g hi⟩
  obtain⟨tv,hc⟩:=Classical.axiomOfChoice hc
  by_cases hj:∃ j,j<=k+1/\(tv j).1≠0
  ·obtain⟨j,hj,ht⟩:=hj;have hsk:∀ i,i<=k->skip j i<=k+1:=λi hi=>by unfold skip; split <;> omega
   obtain⟨c,⟨i0,hi0,hc0⟩,hs⟩:=dep k (λj=>M (j+1)) (λi x=>(tv j).1*u (skip j i) x-(tv (skip j i)).1*u j x) λi hi=>by
    obtain⟨a1,a2⟩:=hc (skip j i) (hsk i hi);obtain⟨b1,b2⟩:=hc j hj;have:=Sp.sub (Sp.smul (tv j).1 a1) (Sp.smul (tv (skip j i)).1 b1);refine cast (congrArg _ ?_) this
    funext x
    rw[a2,b2];grind
   -- back
   have hun:∀ i,skip j i≠j:=λi=>by unfold skip; split <;> omega
   refine⟨λm=>if m=j then -(sm (λi=>c i*(tv (skip j i)).1) (k+1)) else c (if m<j then m else m-1)*(tv j).1,⟨skip j i0,hsk i0 hi0,?_⟩,λx=>?_⟩
   ·have e:=a6C j i0;simp only[hun i0,if_false,e];exact Int.mul_ne_zero hc0 ht
   ·rw[a07 _ j (k+1) hj];have e1:∀ i,(λi=>(if skip j i=j then -(sm (λi=>c i*(tv (skip j i)).1) (k+1)) else c (if skip j i<j then skip j i else skip j i-1)*(tv j).1)*u (skip j i) x) i=c i*((tv j).1*u (skip j i) x-(tv (skip j i)).1*u j x)+u j x*(c i*(tv (skip j i)).1):=λi=>by
     have e:=a6C j i;simp only[hun i,if_false,e];grind
    rw[yH λi _=>e1 i,a69,hs x,aTE];simp only[if_true];grind
  ·have hz:∀ i,i<=k+1->Sp k (λj=>M (j+1)) (u i):=λi hi=>by
    obtain⟨a1,a2⟩:=hc i hi;have:(tv i).1=0:=Classical.byContradiction λh0=>hj ⟨i,hi,h0⟩
    rw[a2,this];refine cast (congrArg _ ?_) a1
    funext x; simp
   obtain⟨c,⟨i0,hi0,hc0⟩,hs⟩:=dep k _ u λi hi=>hz i (by omega)
   refine⟨λi=>if i<=k then c i else 0,⟨i0,by omega,by simp only[hi0,if_true]; exact hc0⟩,λx=>?_⟩;have e:¬ k+1<=k:=by omega
   rw[sm,yH (g:=λi=>c i*u i x) λi hi=>by
    have:i<=k:=by omega
    simp only[this,if_true],hs x]
   simp only[e,if_false];omega
def Ind(k:Nat) (u:Nat->V):Prop:=∀ c:Nat->Int,(∀ x,sm (λi=>c i*u i x) k=0)->∀ i,i<k->c i=0
theorem a5H {f:Nat->Int}{m:Nat}:∀ {k:Nat},m<=k->(∀ i,m<=i->i<k->f i=0)->sm f k=sm f m
 | 0,h,_=>by
  obtain rfl:m=0:=by omega
  rfl
 | k+1,h,hz=>by
  by_cases e:m=k+1
  ·subst e; rfl
  ·rw[sm,a5H (k:=k) (by omega) (λi h1 h2=>hz i h1 (by omega)),hz k (by omega) (by omega),Int.add_zero]
theorem Ind.le {k m:Nat}{u:Nat->V}(h:Ind k u)(hm:m<=k):Ind m u:=λc hc i hi=>by
 have:=h (λi=>if i<m then c i else 0) (λx=>by
  rw[a5H hm λi h1 h2=>by
   have:¬ i<m:=by omega
   simp only[this,if_false,Int.zero_mul]]
  rw[yH (g:=λi=>c i*u i x) λi hi=>by simp only[hi,if_true]];exact hc x) i (by omega)
 simpa[hi]using this
theorem Ind.aIN {k k':Nat}{u M:Nat->V}(h:Ind k u)(hs:∀ i,i<k->∃ t:Int,t≠0/\Sp k' M (λx=>t*u i x)):k<=k':=by
 refine Classical.byContradiction λhn=>?_
 have h':=h.le (show k'+1<=k by omega);have hc:∀ i,∃ t:Int,i<k->t≠0/\Sp k' M (λx=>t*u i x):=λi=>by
  by_cases hi:i<k
  ·obtain⟨t,ht⟩:=hs i hi;exact⟨t,λ_=>ht⟩
  ·exact⟨0,λg=>absurd g hi⟩
 obtain⟨t,ht⟩:=Classical.axiomOfChoice hc;obtain⟨c,⟨i,hi,h0⟩,h1⟩:=dep k' M (λi x=>t i*u i x) λi hi=>(ht i (by omega)).2
 have:=h' (λi=>c i*t i) (λx=>by
  rw[<- h1 x];exact yH λi _=>by grind) i (by omega)
 rcases Int.mul_eq_zero.1 this with g|g
 ·exact h0 g
 ·exact(ht i (by omega)).1 g
theorem Hn.ind {k:Nat}{M:Nat->V}{p:Nat->Nat}(h:Hn k M p):Ind k M:=λc hc=>by
 have:∀ N i,i<N->i<k->c i=0:=by
  intro N
  induction N with
  | zero=>intro i hi; omega
  | succ N ih =>
   intro i hi hk;have h1:=hc (p i);rw[U6 (j:=i) hk λl hl hne=>by
    rcases Nat.lt_or_ge l i with g|g
    ·rw[ih l (by omega) hl,Int.zero_mul]
    ·rw[h.low l hl (p i) (h.inc i l (by omega) hl),Int.mul_zero]]at h1
   rcases Int.mul_eq_zero.1 h1 with g|g
   ·exact g
   ·have:=h.pos i hk; omega
 exact λi hi=>this (i+1) i (by omega) hi
end Go.Lz
namespace Go.PM
open Go Go.RowKit Go.Proofs Go.Lz
def dg(D:Nat):Nat->Nat
 | 0=>D
 | d+1=>6*dg D d+2
theorem bBO(D:Nat){a b:Nat}(h:a<=b):dg D a<=dg D b:=by
 induction h with
 | refl=>exact Nat.le_refl _
 | step _ ih=>refine Nat.le_trans ih ?_; rw[dg]; omega
theorem a92 {D k n:Nat}(h:∀ d,d<k->d<n->10*dg D d+4<=400000):Bds k n (λd=>10^dg D d) (λd=>10^(5*dg D d+1)):=by
 have e5:∀ a:Nat,(10^a)^5=10^(5*a):=λa=>by rw[<- Nat.pow_mul,Nat.mul_comm]
 refine⟨λd hd hdn=>⟨Nat.pow_pos (by decide),Nat.pow_le_pow_right (by decide) (by omega),λ_=>?_,?_⟩,λd hd _=>?_⟩
 ·show 9*(10^dg D d)^5<=10^(5*dg D d+1);rw[e5,Nat.pow_succ];omega
 ·have h1:(10^(5*dg D d+1)+1:Nat)<10^(5*dg D d+1+1):=by
   rw[Nat.pow_succ 10 (5*dg D d+1)];have:0<10^(5*dg D d+1):=Nat.pow_pos (by decide);omega
  have h2:=CS (u:=10^(5*dg D d+1)+1) (k:=5*dg D d+1) h1;have:=h d hd hdn;have e:uD=400000:=rfl;show 2*Lib.nDigits (10^(5*dg D d+1)+1)<=uD;omega
 ·show 10^dg D d+(10^dg D d+1)*10^(5*dg D d+1)<=10^(6*dg D d+2);generalize ha:dg D d=a;have h1:(10^(5*a+1):Nat)=10*10^(5*a):=by rw[Nat.pow_succ]; omega
  have h2:(10^(6*a+2):Nat)=100*(10^a*10^(5*a)):=by rw[<- Nat.pow_add,show a+5*a=6*a by omega,Nat.pow_add]; omega
  have h3:(10^a:Nat)<=10^a*10^(5*a):=Nat.le_mul_of_pos_right _ (Nat.pow_pos (by decide));have h4:(10^(5*a):Nat)<=10^a*10^(5*a):=Nat.le_mul_of_pos_left _ (Nat.pow_pos (by decide));have h5:(10^a+1)*(10*10^(5*a))=10*(10^a*10^(5*a))+10*10^(5*a):=by grind
  rw[h1,h2,h5];omega
theorem aT5 {D k n:Nat}(hk:k<=4\/n<=4)(hD:D<=154):Bds k n (λd=>10^dg D d) (λd=>10^(5*dg D d+1)):=a92 λd hd hn=>by
 have h1:=bBO D (show d<=3 by omega);have h2:dg D 3=6*(6*(6*D+2)+2)+2:=rfl;omega
theorem QV {k n D:Nat} {M:Nat->V} (hk:k<=4\/n<=4) (hkk:k<1048576) (hn:n<1048576) (hw:Wd k n M) (hE:Big k n M (10^D)) (hD:D<=154):∃ d H p,d<=k/\Hn d H p/\Same k M d H/\Wd d n H:=by
 have hL:nJ 0 k n ((List.range k).map λc=>(c,0,n)) ((List.range k).map λc=>Zr n (M c)) (λc=>c) M :=
  ⟨rfl,λi hi=>⟨[],rfl,by rw[List.getElem?_map,List.getElem?_range hi]; rfl⟩,λi j _ _ e=>e⟩
 obtain⟨m',A',J',H,d,p,_,g2,g3,g4,g5,g6,g7⟩:=YK (by omega) hn hL hw (E:=λd=>10^dg D d) (T:=λd=>10^(5*dg D d+1)) hE (aT5 hk hD);exact⟨d,H,p,g2,g4,g5,λi hi x hx=>g6 i (by omega) x hx⟩
theorem Hn.jY {d n:Nat}{H:Nat->V}{p:Nat->Nat}(h:Hn d H p)(hw:Wd d n H):d<=n/\∀ j,j<d->p j<n:=by
 have hp:∀ j,j<d->p j<n:=λj hj=>Hn.aJV h hw hj
 refine⟨?_,hp⟩;have:∀ j,j<d->j<=p j:=by
  intro j
  induction j with
  | zero=>exact λ_=>Nat.zero_le _
  | succ j ih=>intro hj; have:=ih (by omega); have:=h.inc j (j+1) (by omega) hj; omega
 rcases Nat.eq_zero_or_pos d with h0|h0
 ·omega
 ·have:=this (d-1) (by omega); have:=hp (d-1) (by omega); omega
theorem WC {k n E D r:Nat} {M K:Nat->V} {p:Nat->Nat} (hn:n<=4) (hk:k<1048000) (hw:Wd k n M) (hE:Big k n M E) (h1:1<=E) (hD:E<=10^D) (hD2:D<=154) (hH:Hn r K p) (hI:l8 n k M r K) :
  ∀ i,i<r->∀ x,(K i x).natAbs<=4*(24*(E*E*E*E)):=by
 have hB:=hE.wide (k:=k) (M:=M) h1;obtain⟨d,W,q,g1,g2,g3,g4⟩:=QV (k:=n) (n:=k+n) (M:=wide n k M) (.inl hn) (by omega) (by omega) hw.wide (λi hi x hx=>Nat.le_trans (hB i hi x hx) hD) hD2;obtain⟨j,b1,b2,b3⟩:=Hn.split g2 k;obtain⟨c1,c2⟩:=aBJ g2 g3 b1 b2 b3;obtain⟨e1,_,e3⟩:=Hn.unique hH c1 λv=>(hI v).trans (c2 v).symm
 have hdg:=(aS4 (k:=n) (M:=wide n k M) (E:=E) (by omega) g2 (λj hj=>⟨1,by decide,by
  have:=(g3 _).2 (Sp.mem hj);refine cast (congrArg _ ?_) this
  funext x; simp⟩) (hB.all hw.wide)).mono λv=>(g3 v).1
 have hle:=Hn.aHW g2 hdg;intro i hi x;rw[e3 i hi];refine Nat.le_trans (hle (j+i) (by omega) (k+x)) (Nat.mul_le_mul (by omega) (aZK h1 (by omega)))
theorem a15 {k n E D r r2:Nat} {M K S:Nat->V} {p2:Nat->Nat} (hk:k<=4) (hn:n<=4) (hw:Wd k n M) (hE:Big k n M E) (h1:1<=E) (hD:E<=10^D) (hD2:D<=154) (hI:l8 n k M r K) (hS:Hn r2 S p2) (hI2:l8 n r K r2 S) :
  ∀ i,i<r2->∀ x,(S i x).natAbs<=4*(24*(E*E*E*E)):=by
 obtain⟨d,H,p,g1,g2,g3,g4⟩:=QV (.inl hk) (by omega) (by omega) hw (λi hi x hx=>Nat.le_trans (hE i hi x hx) hD) hD2;have a1:=(Hn.jY g2 g4);have hdg:=aS4 (k:=k) (M:=M) (E:=E) (by omega) g2 (λj hj=>⟨1,by decide,by
  have:=(g3 _).2 (Sp.mem hj);refine cast (congrArg _ ?_) this
  funext x; simp⟩) (hE.all hw)
 obtain⟨D0,h0,hsp⟩:=aOS hw g2 g3 a1.2 hdg hI hI2;have hwS:Wd r2 n S:=λi hi x hx=>hI2.width hi x hx
 have a2:=Hn.jY hS hwS;have hdS:=(aS4 (k:=k) (M:=M) (E:=E) (by omega) hS (λj hj=>⟨D0,h0,hsp _ (Sp.mem hj)⟩) (hE.all hw)).mono (k':=r2) (M':=S) λv hv=>by
  refine(hI2 v).2 ⟨λc hc=>Sp.l9 (λj hj=>hw j hj c hc) hv,λx hx=>?_⟩;rw[pL];exact((hI _).1 (Sp.mem hx)).span hv
 have hle:=Hn.aHW hS hdS;intro i hi x;refine Nat.le_trans (hle i hi x) (Nat.mul_le_mul (by omega) (aZK h1 (by omega)))
theorem aMF {d n:Nat}{M:Nat->V}(hw:Wd d n M){i:Nat}(hi:i<d):LV (Mr d n M) i=M i:=by
 unfold LV;rw[aFD M hi];exact a1B λx hx=>hw i hi x hx
theorem nJ.congr {o k n:Nat}{m:List (Nat×Nat×Nat)}{A:List (List ByteArray)}{J:Nat->Nat}{M M':Nat->V}(h:nJ o k n m A J M)(e:∀ i,i<k->M i=M' i):nJ o k n m A J M' :=
 ⟨h.ml,λi hi=>by rw[<- e i hi]; exact h.at_ i hi,h.inj⟩
theorem aFW {d n:Nat}{M:Nat->V}(hd:d<=12)(hn:n<=12)(hw:Wd d n M)(hM:Big d n M 1000000000):∃ m A,dE () (Mr d n M,()) []=some (m,A)/\nJ 0 d n m A (λi=>i) M:=by
 have hlen:∀ r∈Mr d n M,r.length=n:=λr hr=>by
  obtain⟨i,hi,rfl⟩:=aE5 hr;exact xP _ _
 obtain⟨m,A,h1,h2⟩:=aPF (Mr d n M) (n:=n) (by rw[fN]; omega) (by omega) hlen λr hr a ha=>by
  obtain⟨i,hi,rfl⟩:=aE5 hr;have:=aA0 (λx hx=>hM i hi x hx) a ha;omega
 rw[fN]at h2;exact⟨m,A,h1,h2.congr λi hi=>aMF hw hi⟩
section
variable {d n:Nat} {B:Nat->V}
theorem p9:(1000000000:Nat)=10^9:=by decide
theorem p38:4*(24*((10^9)*(10^9)*(10^9)*(10^9)))<=10^38:=by decide
theorem bB2:4*(24*((10^38)*(10^38)*(10^38)*(10^38)))<=10^154:=by
 have e:(10^38:Nat)*10^38*10^38*10^38=10^152:=by rw[<- Nat.pow_add,<- Nat.pow_add,<- Nat.pow_add]
 rw[e,show (154:Nat)=152+2 by rfl,Nat.pow_add];have:(10^2:Nat)=100:=by decide
 rw[this];generalize (10^152:Nat)=a;omega
theorem aGE {m:List (Nat×Nat×Nat)} {A:List (List ByteArray)} {J:Nat->Nat} (hd:d<=4) (hn:n<=4) (hw:Wd d n B) (hB:Big d n B (10^9)) (h:nJ 0 d n m A J B) :
  ∃ m' A' J' K p r,cZ () (m,(n:Int),()) A=some (m',A')/\nJ d r n m' A' J' K/\r<=n/\Hn r K p/\l8 n d B r K/\Wd r n K/\Big r n K (10^38):=by
 have hk:=λ(r:Nat) (K:Nat->V) (p:Nat->Nat) (hH:Hn r K p) (hI:l8 n d B r K)=>WC (E:=10^9) (D:=9) hn (by omega) hw hB (by decide) (Nat.le_refl _) (by decide) hH hI
 obtain⟨m',A',J',K,p,r,g1,g2,g3,g4,g5,g6⟩:=aQ7 (E:=λd=>10^dg 9 d) (T:=λd=>10^(5*dg 9 d+1)) (show d<1048576 by omega) (show n<1048576 by omega) (by omega) h hw hB (show 1<=10^dg 9 0 from Nat.pow_pos (by decide)) (aT5 (.inl hn) (by decide)) λr K p hr hH hI =>
  ⟨λd=>10^dg 38 d,λd=>10^(5*dg 38 d+1),λi hi x _=>Nat.le_trans (hk r K p hH hI i hi x) p38,aT5 (.inl (by omega)) (by decide)⟩
 exact⟨m',A',J',K,p,r,g1,g2,g3,g4,g5,g6,λi hi x _=>Nat.le_trans (hk r K p g4 g5 i hi x) p38⟩
theorem aMR {o:Nat} {m:List (Nat×Nat×Nat)} {A:List (List ByteArray)} {J:Nat->Nat} (hd:d<=4) (hn:n<=4) (hw:Wd d n B) (hB:Big d n B (10^38)) (h:nJ o d n m A J B) :
  ∃ m' A' J' K p r,cZ () (m,(n:Int),()) A=some (m',A')/\nJ d r n m' A' J' K/\r<=n/\Hn r K p/\l8 n d B r K/\Wd r n K/\Big r n K (10^154):=by
 have hk:=λ(r:Nat) (K:Nat->V) (p:Nat->Nat) (hH:Hn r K p) (hI:l8 n d B r K)=>WC (E:=10^38) (D:=38) hn (by omega) hw hB (Nat.pow_pos (by decide)) (Nat.le_refl _) (by decide) hH hI
 obtain⟨m',A',J',K,p,r,g1,g2,g3,g4,g5,g6⟩:=aQ7 (E:=λd=>10^dg 38 d) (T:=λd=>10^(5*dg 38 d+1)) (show d<1048576 by omega) (show n<1048576 by omega) (by omega) h hw hB (show 1<=10^dg 38 0 from Nat.pow_pos (by decide)) (aT5 (.inl hn) (by decide)) λr K p hr hH hI =>
  ⟨λd=>10^dg 154 d,λd=>10^(5*dg 154 d+1),λi hi x _=>Nat.le_trans (hk r K p hH hI i hi x) bB2,aT5 (.inl (by omega)) (by decide)⟩
 exact⟨m',A',J',K,p,r,g1,g2,g3,g4,g5,g6,λi hi x _=>Nat.le_trans (hk r K p g4 g5 i hi x) bB2⟩
theorem RU {q:Nat->Nat} (hH:Hn d B q) (hn:n<=4) (hw:Wd d n B) (hB:Big d n B 1000000000) {K:Nat->V} {p:Nat->Nat} {r:Nat} (hK:Hn r K p) (hI:l8 n d B r K) (ok:∀ i,i<r->∀ x,x<n->(K i x).natAbs<=1000000000) :
  j8 (((n:Int),Mr d n B),())=some (((n:Int),Mr r n K),0,()):=by
 have hd:=(Hn.jY hH hw).1;obtain⟨m,A,a1,a2⟩:=aFW (by omega) (by omega) hw hB;obtain⟨m',A',J',K',p',r',g1,g2,g3,g4,g5,g6,g7⟩:=aGE (by omega) hn hw (by rw[<- p9]; exact hB) a2;obtain⟨e1,_,e3⟩:=Hn.unique hK g4 λv=>(hI v).trans (g5 v).symm
 subst e1;have g2':=g2.congr (M':=K) λi hi=>(e3 i hi).symm
 have hs:=aAT g2' (Nat.le_refl _) (by omega) (by omega) ok (n:Int);rw[List.take_of_length_le (by rw[g2'.len]; exact Nat.le_refl _)]at hs;have e0:eqI 0 0=true:=by decide
 simp only[j8,RJ hH hw (by omega) (by omega) hB,aE,e0,Bool.not_true,oD,a1,g1,hs];rfl
theorem aCF {q:Nat->Nat} (hH:Hn d B q) (hn:n<=4) (hw:Wd d n B) (hB:Big d n B 1000000000) {K:Nat->V} {r:Nat} (hI:l8 n d B r K) {S:Nat->V} {s:Nat->Nat} {t:Nat} (hS:Hn t S s) (hI2:l8 n r K t S) (ok:∀ i,i<t->∀ x,x<n->(S i x).natAbs<=1000000000) :
  oG (((n:Int),Mr d n B),())=some (((n:Int),Mr t n S),0,()):=by
 have hd:=(Hn.jY hH hw).1;obtain⟨m,A,a1,a2⟩:=aFW (by omega) (by omega) hw hB;obtain⟨m',A',J',K',p',r',g1,g2,g3,g4,g5,g6,g7⟩:=aGE (by omega) hn hw (by rw[<- p9]; exact hB) a2;obtain⟨m2,A2,J2,S',p2,t',b1,b2,b3,b4,b5,b6,b7⟩:=aMR (by omega) hn g6 g7 g2;have hsame:Same r' K' r K:=λv=>(g5 v).trans (hI v).symm
 obtain⟨e1,_,e3⟩:=Hn.unique hS b4 λv=>(hI2 v).trans ((Ker.same hsame).symm.trans (b5 v).symm)
 subst e1;have g2':=b2.congr (M':=S) λi hi=>(e3 i hi).symm
 have hs:=aAT g2' (Nat.le_refl _) (by omega) (by omega) ok (n:Int);rw[List.take_of_length_le (by rw[g2'.len]; exact Nat.le_refl _)]at hs;have e0:eqI 0 0=true:=by decide
 simp only[oG,RJ hH hw (by omega) (by omega) hB,aE,e0,Bool.not_true,oD,a1,g1,b1,hs];rfl
end
end Go.PM
namespace Go.PM
open Go Go.RowKit Go.Proofs
set_option maxHeartbeats 4000000
abbrev gS:List (Nat×Kd):=[(0,.list TyE),(1,.list TyE),(12,.int .i64),(13,.int .i64)]
abbrev lF:List (Ex×List (Nat×Kd)):=[(.ret,[(4,.bool)]),(.exit 0,[])]
def eN(x:Shape.den gS):Option (Shape.den gS⊕aW lF):=match x with
 | (v0,v1,v12,v13,()) =>
  bif ltI v13 v12 then
   bif aI v13 v0.length then bif aI v13 v1.length then bif !(eqI (v0.getD v13.toNat 0) (v1.getD v13.toNat 0)) then
    some (.inr (.inl (false,())))
   else some (.inl (v0,v1,v12,(aB .i64 (v13+1)),())) else none else none
  else some (.inr (.inr ((()))))
def jC(x:Shape.den gS):Option (aW lF):=cE eN (2^64) x
def dF(x:aH [.list TyE,.list TyE]):Option (aH [.bool]):=match x with
 | (v0,v1,()) =>
  bif !(eqI (v0.length:Int) (v1.length:Int)) then
   some (false,())
  else aC (jC (v0,v1,(v0.length:Int),0,())) λz1 =>
  C5 z1 (λa2=>some (a2.1,())) λb3 =>
  some (true,())
def GF:Code:=aQ Tryz.f62
abbrev GD:Env:=cG []
theorem DA:bC tP GD:=bG trivial
def vB:Code:=eR GF 0
def EJ(id:Nat):Option b9:=bif Nat.beq id 4 then some ⟨gS,lF,jC⟩ else none
theorem KH:∀ x,eM tP GD 26 (aG Tryz.f62) EJ vB gS lF x=eN x:=by
 rintro⟨v0,v1,v12,v13,⟨⟩⟩
 kernel_rfl
theorem LG:cT tP 26 vB ⟨gS,lF,jC⟩:=by exact cQ DA.callee aK.mixed _ (aD (l:=[]) (by kernel_rfl) trivial) KH
theorem QY:eX tP 62 _ _ dF:=by exact bX aK DA Tryz.func62 (c:=GF) (by kernel_rfl) (aV:=aG Tryz.f62) (lt:=EJ) (aD (l:=[vB]) (by kernel_rfl) ⟨cO (i:=4) (by kernel_rfl) rfl LG,trivial⟩) (by rintro⟨v0,v1,⟨⟩⟩; kernel_rfl)
abbrev rI:Ent:=⟨62,_,_,dF⟩
theorem uG:Ent.OK tP rI:=QY
def XV(x:aH [.list TyE,.list TyE]):Option (aH [.bool]):=match x with
 | (v0,v1,()) =>
  aC (dF (v0,v1,())) λy1 =>
  some (y1.1,())
theorem aP2:bC tP (cG [rI]):=bG ⟨uG,trivial⟩
theorem aVY:eX tP 132 _ _ XV:=by exact bX aK aP2 Tryz.func132 (c:=aQ Tryz.f132) (by kernel_rfl) (aV:=aG Tryz.f132) (lt:=λ_=>none) (aD (lt:=λ_=>none) (l:=[]) (by kernel_rfl) trivial) (by rintro⟨v0,v1,⟨⟩⟩; kernel_rfl)
abbrev aOD:Ent:=⟨132,_,_,XV⟩
theorem aP1:Ent.OK tP aOD:=aVY
abbrev bD:List (Nat×Kd):=[(1,.list TyD),(2,.fn 132),(15,.list TyD),(16,.int .i64),(17,.int .i64)]
abbrev bV:List (Ex×List (Nat×Kd)):=[(.ret,[(6,.bool)]),(.exit 0,[])]
def aS(x:Shape.den bD):Option (Shape.den bD⊕aW bV):=match x with
 | (v1,v2,v15,v16,v17,()) =>
  bif ltI v17 v16 then
   bif aI v17 v15.length then bif aI v17 v1.length then aC (XV ((v15.getD v17.toNat []),(v1.getD v17.toNat []),())) λy2 =>
   bif y2.1 then
    some (.inl (v1,(),v15,v16,(aB .i64 (v17+1)),()))
   else some (.inr (.inl (false,()))) else none else none
  else some (.inr (.inr ((()))))
def bL(x:Shape.den bD):Option (aW bV):=cE aS (2^64) x
def aZ(x:aH [.list TyD,.list TyD,.fn 132]):Option (aH [.bool]):=match x with
 | (v0,v1,v2,()) =>
  bif !(eqI (v0.length:Int) (v1.length:Int)) then
   some (false,())
  else aC (bL (v1,(),v0,(v0.length:Int),0,())) λz3 =>
  C5 z3 (λa4=>some (a4.1,())) λb5 =>
  some (true,())
def kF:Code:=aQ Tryz.f131
abbrev kQ:Env:=cG [aOD]
theorem iT:bC tP kQ:=bG ⟨aP1,trivial⟩
def eK:Code:=eR kF 0
def jS(id:Nat):Option b9:=bif Nat.beq id 4 then some ⟨bD,bV,bL⟩ else none
theorem qN:∀ x,eM tP kQ 32 (aG Tryz.f131) jS eK bD bV x=aS x:=by
 rintro⟨v1,v2,v15,v16,v17,⟨⟩⟩
 kernel_rfl
theorem rC:cT tP 32 eK ⟨bD,bV,bL⟩:=by exact cQ iT.callee aK.mixed _ (aD (l:=[]) (by kernel_rfl) trivial) qN
theorem sU:eX tP 131 _ _ aZ:=by exact bX aK iT Tryz.func131 (c:=kF) (by kernel_rfl) (aV:=aG Tryz.f131) (lt:=jS) (aD (l:=[eK]) (by kernel_rfl) ⟨cO (i:=4) (by kernel_rfl) rfl rC,trivial⟩) (by rintro⟨v0,v1,v2,⟨⟩⟩; kernel_rfl)
abbrev kO:Ent:=⟨131,_,_,aZ⟩
theorem rX:Ent.OK tP kO:=sU
def AZ(x:aH [.agg TyH,.agg TyH]):Option (aH [.bool]):=match x with
 | (v0,v1,()) =>
  bif eqI v0.1 v1.1 then
   aC (aZ (v0.2,v1.2,(),())) λy1 =>
   some (y1.1,())
  else some (false,())
theorem aH8:bC tP (cG [kO]):=bG ⟨rX,trivial⟩
theorem aLR:eX tP 75 _ _ AZ:=by exact bX aK aH8 Tryz.func75 (c:=aQ Tryz.f75) (by kernel_rfl) (aV:=aG Tryz.f75) (lt:=λ_=>none) (aD (lt:=λ_=>none) (l:=[]) (by kernel_rfl) trivial) (by rintro⟨v0,v1,⟨⟩⟩; kernel_rfl)
abbrev aA1:Ent:=⟨75,_,_,AZ⟩
theorem aH9:Ent.OK tP aA1:=aLR
def pT(x:aH [.agg TyH,.list TyE]):Option (aH [.bool]):=match x with
 | (v0,v1,()) =>
  aC (mL (v0,v1,())) λy1 =>
  aC (k9 (y1.1,())) λy2 =>
  some (ltI y2.1 0,())
theorem WM:bC tP (cG [I7,II]):=bG ⟨Q0,KS,trivial⟩
theorem aAI:eX tP 143 _ _ pT:=by exact bX aK WM Tryz.func143 (c:=aQ Tryz.f143) (by kernel_rfl) (aV:=aG Tryz.f143) (lt:=λ_=>none) (aD (lt:=λ_=>none) (l:=[]) (by kernel_rfl) trivial) (by rintro⟨v0,v1,⟨⟩⟩; kernel_rfl)
abbrev MW:Ent:=⟨143,_,_,pT⟩
theorem V5:Ent.OK tP MW:=aAI
abbrev oY:List (Nat×Kd):=[(2,.ptr TyH),(3,.ptr TyH),(10,.list TyH),(11,.int .i64),(12,.int .i64)]
abbrev rU:List (Ex×List (Nat×Kd)):=[(.ret,[(4,.int .i64)]),(.exit 0,[(2,.ptr TyH),(3,.ptr TyH)])]
def dY(x:Shape.den oY):Option (Shape.den oY⊕aW rU):=match x with
 | (v2,v3,v10,v11,v12,()) =>
  bif ltI v12 v11 then
   bif aI v12 v10.length then aC (jE (((v10.getD v12.toNat (0,[])).1,(v10.getD v12.toNat (0,[])).2),())) λy2 =>
   bif !(eqI y2.1 0) then
    some (.inr (.inl (y2.1,())))
   else some (.inl (v2,v3,v10,v11,(aB .i64 (v12+1)),())) else none
  else some (.inr (.inr ((v2,v3,()))))
def p7(x:Shape.den oY):Option (aW rU):=cE dY (2^64) x
def lA(x:aH [.agg TyH,.agg TyH]):Option (aH [.int .i64]):=match x with
 | (v0,v1,()) =>
  aC (p7 (v0,v1,[v0,v1],([v0,v1].length:Int),0,())) λz3 =>
  C5 z3 (λa4=>some (a4.1,())) λb5 =>
  bif !(eqI b5.1.1 b5.2.1.1) then
   some (5,())
  else some (0,())
def SG:Code:=aQ Tryz.f117
abbrev RV:Env:=cG [FF]
theorem K3:bC tP RV:=bG ⟨D6,trivial⟩
def EM:Code:=eR SG 0
def PB(id:Nat):Option b9:=bif Nat.beq id 2 then some ⟨oY,rU,p7⟩ else none
theorem UN:∀ x,eM tP RV 27 (aG Tryz.f117) PB EM oY rU x=dY x:=by
 rintro⟨v2,v3,v10,v11,v12,⟨⟩⟩
 kernel_rfl
theorem XA:cT tP 27 EM ⟨oY,rU,p7⟩:=by exact cQ K3.callee aK.mixed _ (aD (l:=[]) (by kernel_rfl) trivial) UN
theorem aDR:eX tP 117 _ _ lA:=by exact bX aK K3 Tryz.func117 (c:=SG) (by kernel_rfl) (aV:=aG Tryz.f117) (lt:=PB) (aD (l:=[EM]) (by kernel_rfl) ⟨cO (i:=2) (by kernel_rfl) rfl XA,trivial⟩) (by rintro⟨v0,v1,⟨⟩⟩; kernel_rfl)
abbrev B7:Ent:=⟨117,_,_,lA⟩
theorem D1:Ent.OK tP B7:=aDR
def sC(x:aH [.list TyE,.ptr TyH]):Option (aH [.bool]):=match x with
 | (v0,v1,()) =>
  aC (pT (v1,v0,())) λy1 =>
  bif y1.1 then
   some (false,())
  else some (true,())
theorem ZV:bC tP (cG [MW]):=bG ⟨V5,trivial⟩
theorem aDX:eX tP 171 _ _ sC:=by exact bX aK ZV Tryz.func171 (c:=aQ Tryz.f171) (by kernel_rfl) (aV:=aG Tryz.f171) (lt:=λ_=>none) (aD (lt:=λ_=>none) (l:=[]) (by kernel_rfl) trivial) (by rintro⟨v0,v1,⟨⟩⟩; kernel_rfl)
abbrev S3:Ent:=⟨171,_,_,sC⟩
theorem aAK:Ent.OK tP S3:=aDX
abbrev cW:List (Nat×Kd):=[(0,.list TyD),(1,.clo 171 [TyH]),(7,.int .i64),(8,.int .i64)]
abbrev eB:List (Ex×List (Nat×Kd)):=[(.ret,[(4,.int .i64)]),(.exit 0,[])]
def cA(x:Shape.den cW):Option (Shape.den cW⊕aW eB):=match x with
 | (v0,v1,v7,v8,()) =>
  bif ltI v8 v7 then
   bif aI v8 v0.length then aC (sC ((v0.getD v8.toNat []),v1.1,())) λy2 =>
   bif y2.1 then
    some (.inr (.inl (v8,())))
   else some (.inl (v0,(v1.1,()),v7,(aB .i64 (v8+1)),())) else none
  else some (.inr (.inr ((()))))
def dO(x:Shape.den cW):Option (aW eB):=cE cA (2^64) x
def fC(x:aH [.list TyD,.clo 171 [TyH]]):Option (aH [.int .i64]):=match x with
 | (v0,v1,()) =>
  aC (dO (v0,(v1.1,()),(v0.length:Int),0,())) λz3 =>
  C5 z3 (λa4=>some (a4.1,())) λb5 =>
  some ((-1),())
def uB:Code:=aQ Tryz.f100
abbrev tV:Env:=cG [S3]
theorem rM:bC tP tV:=bG ⟨aAK,trivial⟩
def mF:Code:=eR uB 0
def tH(id:Nat):Option b9:=bif Nat.beq id 2 then some ⟨cW,eB,dO⟩ else none
theorem BN:∀ x,eM tP tV 19 (aG Tryz.f100) tH mF cW eB x=cA x:=by
 rintro⟨v0,v1,v7,v8,⟨⟩⟩
 kernel_rfl
theorem CH:cT tP 19 mF ⟨cW,eB,dO⟩:=by exact cQ rM.callee aK.mixed _ (aD (l:=[]) (by kernel_rfl) trivial) BN
theorem EK:eX tP 100 _ _ fC:=by exact bX aK rM Tryz.func100 (c:=uB) (by kernel_rfl) (aV:=aG Tryz.f100) (lt:=tH) (aD (l:=[mF]) (by kernel_rfl) ⟨cO (i:=2) (by kernel_rfl) rfl CH,trivial⟩) (by rintro⟨v0,v1,⟨⟩⟩; kernel_rfl)
abbrev tT:Ent:=⟨100,_,_,fC⟩
theorem DS:Ent.OK tP tT:=EK
def eG(x:aH [.list TyD,.clo 171 [TyH]]):Option (aH [.bool]):=match x with
 | (v0,v1,()) =>
  aC (fC (v0,(v1.1,()),())) λy1 =>
  some (!(ltI y1.1 0),())
theorem BK:bC tP (cG [tT]):=bG ⟨DS,trivial⟩
theorem DC:eX tP 43 _ _ eG:=by exact bX aK BK Tryz.func43 (c:=aQ Tryz.f43) (by kernel_rfl) (aV:=aG Tryz.f43) (lt:=λ_=>none) (aD (lt:=λ_=>none) (l:=[]) (by kernel_rfl) trivial) (by rintro⟨v0,v1,⟨⟩⟩; kernel_rfl)
abbrev rY:Ent:=⟨43,_,_,eG⟩
theorem BI:Ent.OK tP rY:=DC
def xV(x:aH [.agg TyH,.agg TyH]):Option (aH [.bool,.int .i64]):=match x with
 | (v0,v1,()) =>
  aC (lA (v0,v1,())) λy1 =>
  bif !(eqI y1.1 0) then
   some (false,y1.1,())
  else aC (eG (v0.2,(v1,()),())) λy2 =>
  bif y2.1 then
   some (false,0,())
  else some (true,0,())
theorem aF2:bC tP (cG [B7,rY]):=bG ⟨D1,BI,trivial⟩
theorem aIZ:eX tP 124 _ _ xV:=by exact bX aK aF2 Tryz.func124 (c:=aQ Tryz.f124) (by kernel_rfl) (aV:=aG Tryz.f124) (lt:=λ_=>none) (aD (lt:=λ_=>none) (l:=[]) (by kernel_rfl) trivial) (by rintro⟨v0,v1,⟨⟩⟩; kernel_rfl)
abbrev ZF:Ent:=⟨124,_,_,xV⟩
theorem aFT:Ent.OK tP ZF:=aIZ
end Go.PM
namespace Go.PM
open Go Go.RowKit Go.Proofs
set_option maxHeartbeats 4000000
def FQ(x:aH [.agg TyH,.agg TyH]):Option (aH [.agg TyH,.int .i64]):=match x with
 | (v0,v1,()) =>
  aC (lA (v0,v1,())) λy1 =>
  bif !(eqI y1.1 0) then
   some ((0,[]),y1.1,())
  else aC (dE () (v0.2,()) []) λy2 =>
  aC (dE () (v1.2,()) y2.2) λy3 =>
  bif Nat.ble y3.1.length 1048576 then bif Nat.ble y2.1.length 1048576 then aC (dG (y2.1++y3.1) (v0.1,()) y3.2) λy4 =>
  aC (dH y4.1 (v0.1,()) y4.2) λy5 =>
  some (y5.1.1,y5.1.2.1,()) else none else none
def X6:Code:=aQ Tryz.f116
abbrev aIO:Env:=NN [B7] [uH,mO,mK]
theorem aL5:bC tP aIO:=o9 ⟨D1,trivial⟩ ⟨uX,nF,mV,trivial⟩
def aEL(id:Nat):Option b9:=none
theorem aJA:cB X6=[]:=by kernel_rfl
theorem aLW:∀ x,aEA tP aIO Tryz.f116 (aG Tryz.f116) aEL X6 110 .str _ _ x=FQ x:=by
 rintro⟨v0,v1,⟨⟩⟩
 kernel_rfl
theorem aQN:eX tP 116 _ _ FQ:=by exact aKN aK aL5 Tryz.func116 (c:=X6) (by kernel_rfl) (aV:=aG Tryz.f116) (lt:=aEL) (aD aJA trivial) aLW
abbrev aG6:Ent:=⟨116,_,_,FQ⟩
theorem aLA:Ent.OK tP aG6:=aQN
end Go.PM
namespace Go.PM
open Go Go.RowKit Go.Proofs
set_option maxHeartbeats 4000000
abbrev fO:List (Nat×Kd):=[(0,.list TyE),(1,.list TyE),(12,.int .i64),(13,.int .i64)]
abbrev iQ:List (Ex×List (Nat×Kd)):=[(.ret,[(4,.bool)]),(.exit 0,[])]
def dK(x:Shape.den fO):Option (Shape.den fO⊕aW iQ):=match x with
 | (v0,v1,v12,v13,()) =>
  bif ltI v13 v12 then
   bif aI v13 v0.length then bif aI v13 v1.length then bif !(eqI (v0.getD v13.toNat 0) (v1.getD v13.toNat 0)) then
    some (.inr (.inl (false,())))
   else some (.inl (v0,v1,v12,(aB .i64 (v13+1)),())) else none else none
  else some (.inr (.inr ((()))))
def gM(x:Shape.den fO):Option (aW iQ):=cE dK (2^64) x
def dR(x:aH [.list TyE,.list TyE]):Option (aH [.bool]):=match x with
 | (v0,v1,()) =>
  bif !(eqI (v0.length:Int) (v1.length:Int)) then
   some (false,())
  else aC (gM (v0,v1,(v0.length:Int),0,())) λz1 =>
  C5 z1 (λa2=>some (a2.1,())) λb3 =>
  some (true,())
def C9:Code:=aQ Tryz.f20
abbrev C8:Env:=cG []
theorem zK:bC tP C8:=bG trivial
def r9:Code:=eR C9 0
def BU(id:Nat):Option b9:=bif Nat.beq id 4 then some ⟨fO,iQ,gM⟩ else none
theorem IB:∀ x,eM tP C8 26 (aG Tryz.f20) BU r9 fO iQ x=dK x:=by
 rintro⟨v0,v1,v12,v13,⟨⟩⟩
 kernel_rfl
theorem JA:cT tP 26 r9 ⟨fO,iQ,gM⟩:=by exact cQ zK.callee aK.mixed _ (aD (l:=[]) (by kernel_rfl) trivial) IB
theorem NH:eX tP 20 _ _ dR:=by exact bX aK zK Tryz.func20 (c:=C9) (by kernel_rfl) (aV:=aG Tryz.f20) (lt:=BU) (aD (l:=[r9]) (by kernel_rfl) ⟨cO (i:=4) (by kernel_rfl) rfl JA,trivial⟩) (by rintro⟨v0,v1,⟨⟩⟩; kernel_rfl)
abbrev C6:Ent:=⟨20,_,_,dR⟩
theorem KL:Ent.OK tP C6:=NH
def zU(x:aH [.list TyE,.list TyE]):Option (aH [.bool]):=match x with
 | (v0,v1,()) =>
  aC (dF (v0,v1,())) λy1 =>
  some (y1.1,())
theorem X8:bC tP (cG [rI]):=bG ⟨uG,trivial⟩
theorem aCR:eX tP 133 _ _ zU:=by exact bX aK X8 Tryz.func133 (c:=aQ Tryz.f133) (by kernel_rfl) (aV:=aG Tryz.f133) (lt:=λ_=>none) (aD (lt:=λ_=>none) (l:=[]) (by kernel_rfl) trivial) (by rintro⟨v0,v1,⟨⟩⟩; kernel_rfl)
abbrev O8:Ent:=⟨133,_,_,zU⟩
theorem YO:Ent.OK tP O8:=aCR
abbrev bE:List (Nat×Kd):=[(1,.list TyD),(2,.fn 133),(15,.list TyD),(16,.int .i64),(17,.int .i64)]
abbrev bW:List (Ex×List (Nat×Kd)):=[(.ret,[(6,.bool)]),(.exit 0,[])]
def aR(x:Shape.den bE):Option (Shape.den bE⊕aW bW):=match x with
 | (v1,v2,v15,v16,v17,()) =>
  bif ltI v17 v16 then
   bif aI v17 v15.length then bif aI v17 v1.length then aC (zU ((v15.getD v17.toNat []),(v1.getD v17.toNat []),())) λy2 =>
   bif y2.1 then
    some (.inl (v1,(),v15,v16,(aB .i64 (v17+1)),()))
   else some (.inr (.inl (false,()))) else none else none
  else some (.inr (.inr ((()))))
def bP(x:Shape.den bE):Option (aW bW):=cE aR (2^64) x
def aY(x:aH [.list TyD,.list TyD,.fn 133]):Option (aH [.bool]):=match x with
 | (v0,v1,v2,()) =>
  bif !(eqI (v0.length:Int) (v1.length:Int)) then
   some (false,())
  else aC (bP (v1,(),v0,(v0.length:Int),0,())) λz3 =>
  C5 z3 (λa4=>some (a4.1,())) λb5 =>
  some (true,())
def kC:Code:=aQ Tryz.f131
abbrev kG:Env:=cG [O8]
theorem iS:bC tP kG:=bG ⟨YO,trivial⟩
def eJ:Code:=eR kC 0
def jW(id:Nat):Option b9:=bif Nat.beq id 4 then some ⟨bE,bW,bP⟩ else none
theorem qM:∀ x,eM tP kG 32 (aG Tryz.f131) jW eJ bE bW x=aR x:=by
 rintro⟨v1,v2,v15,v16,v17,⟨⟩⟩
 kernel_rfl
theorem rD:cT tP 32 eJ ⟨bE,bW,bP⟩:=by exact cQ iS.callee aK.mixed _ (aD (l:=[]) (by kernel_rfl) trivial) qM
theorem sT:eX tP 131 _ _ aY:=by exact bX aK iS Tryz.func131 (c:=kC) (by kernel_rfl) (aV:=aG Tryz.f131) (lt:=jW) (aD (l:=[eJ]) (by kernel_rfl) ⟨cO (i:=4) (by kernel_rfl) rfl rD,trivial⟩) (by rintro⟨v0,v1,v2,⟨⟩⟩; kernel_rfl)
abbrev kI:Ent:=⟨131,_,_,aY⟩
theorem rO:Ent.OK tP kI:=sT
def yG(x:aH [.list TyD,.list TyD]):Option (aH [.bool]):=match x with
 | (v0,v1,()) =>
  aC (aY (v0,v1,(),())) λy1 =>
  some (y1.1,())
theorem aBC:bC tP (cG [kI]):=bG ⟨rO,trivial⟩
theorem aE8:eX tP 77 _ _ yG:=by exact bX aK aBC Tryz.func77 (c:=aQ Tryz.f77) (by kernel_rfl) (aV:=aG Tryz.f77) (lt:=λ_=>none) (aD (lt:=λ_=>none) (l:=[]) (by kernel_rfl) trivial) (by rintro⟨v0,v1,⟨⟩⟩; kernel_rfl)
abbrev TW:Ent:=⟨77,_,_,yG⟩
theorem aBO:Ent.OK tP TW:=aE8
abbrev tU:List (Nat×Kd):=[(0,.int .i64),(3,.int .i64)]
abbrev yJ:List (Ex×List (Nat×Kd)):=[(.ret,[(2,.bool)]),(.exit 0,[])]
def PG(x:Shape.den tU):Option (Shape.den tU⊕aW yJ):=match x with
 | (v0,v3,()) =>
  bif !(ltI v0 (aB .i64 (v3*v3))) then
   bif eqI v3 0 then none else bif eqI (v0.tmod v3) 0 then
    some (.inr (.inl (false,())))
   else some (.inl (v0,(aB .i64 (v3+1)),()))
  else some (.inr (.inr ((()))))
def G9(x:Shape.den tU):Option (aW yJ):=cE PG (2^64) x
def R2(x:aH [.int .i64]):Option (aH [.bool]):=match x with
 | (v0,()) =>
  bif ltI v0 2 then
   some (false,())
  else bif ltI 97 v0 then
   some (false,())
  else aC (G9 (v0,2,())) λz1 =>
  C5 z1 (λa2=>some (a2.1,())) λb3 =>
  some (true,())
def aB3:Code:=aQ Tryz.f48
abbrev aCI:Env:=cG []
theorem UB:bC tP aCI:=bG trivial
def LN:Code:=eR aB3 0
def ZP(id:Nat):Option b9:=bif Nat.beq id 4 then some ⟨tU,yJ,G9⟩ else none
theorem aBT:∀ x,eM tP aCI 21 (aG Tryz.f48) ZP LN tU yJ x=PG x:=by
 rintro⟨v0,v3,⟨⟩⟩
 kernel_rfl
theorem aDN:cT tP 21 LN ⟨tU,yJ,G9⟩:=by exact cQ UB.callee aK.mixed _ (aD (l:=[]) (by kernel_rfl) trivial) aBT
theorem aLK:eX tP 48 _ _ R2:=by exact bX aK UB Tryz.func48 (c:=aB3) (by kernel_rfl) (aV:=aG Tryz.f48) (lt:=ZP) (aD (l:=[LN]) (by kernel_rfl) ⟨cO (i:=4) (by kernel_rfl) rfl aDN,trivial⟩) (by rintro⟨v0,⟨⟩⟩; kernel_rfl)
abbrev aCD:Ent:=⟨48,_,_,R2⟩
theorem aHO:Ent.OK tP aCD:=aLK
abbrev xU:List (Nat×Kd):=[(0,.list TyE),(13,.list TyE),(14,.int .i64),(15,.int .i64)]
abbrev C1:List (Ex×List (Nat×Kd)):=[(.ret,[(2,.int .i64)]),(.exit 1,[])]
def T0(x:Shape.den xU):Option (Shape.den xU⊕aW C1):=match x with
 | (v0,v13,v14,v15,()) =>
  bif ltI v15 v14 then
   bif aI v15 v13.length then aC (R2 ((v13.getD v15.toNat 0),())) λy2 =>
   bif y2.1 then
    bif ltI 0 v15 then
     bif aI (aB .i64 (v15-1)) v0.length then bif !(ltI (v0.getD ((aB .i64 (v15-1)).toNat) 0) (v13.getD v15.toNat 0)) then
      some (.inr (.inl (6,())))
     else some (.inl (v0,v13,v14,(aB .i64 (v15+1)),())) else none
    else some (.inl (v0,v13,v14,(aB .i64 (v15+1)),()))
   else some (.inr (.inl (25,()))) else none
  else some (.inr (.inr ((()))))
def KB(x:Shape.den xU):Option (aW C1):=cE T0 (2^64) x
def o8(x:aH [.list TyE]):Option (aH [.int .i64]):=match x with
 | (v0,()) =>
  bif eqI (v0.length:Int) 0 then
   some (13,())
  else bif ltI 6 (v0.length:Int) then
   some (4,())
  else aC (KB (v0,v0,(v0.length:Int),0,())) λz3 =>
  C5 z3 (λa4=>some (a4.1,())) λb5 =>
  some (0,())
def aID:Code:=aQ Tryz.f32
abbrev aG8:Env:=cG [aCD]
theorem ZR:bC tP aG8:=bG ⟨aHO,trivial⟩
def QX:Code:=eR aID 0
def aEN(id:Nat):Option b9:=bif Nat.beq id 6 then some ⟨xU,C1,KB⟩ else none
theorem aGB:∀ x,eM tP aG8 35 (aG Tryz.f32) aEN QX xU C1 x=T0 x:=by
 rintro⟨v0,v13,v14,v15,⟨⟩⟩
 kernel_rfl
theorem aHQ:cT tP 35 QX ⟨xU,C1,KB⟩:=by exact cQ ZR.callee aK.mixed _ (aD (l:=[]) (by kernel_rfl) trivial) aGB
theorem aPQ:eX tP 32 _ _ o8:=by exact bX aK ZR Tryz.func32 (c:=aID) (by kernel_rfl) (aV:=aG Tryz.f32) (lt:=aEN) (aD (l:=[QX]) (by kernel_rfl) ⟨cO (i:=6) (by kernel_rfl) rfl aHQ,trivial⟩) (by rintro⟨v0,⟨⟩⟩; kernel_rfl)
abbrev PQ:Ent:=⟨32,_,_,o8⟩
theorem N9:Ent.OK tP PQ:=aPQ
def gC(x:aH [.agg TyG]):Option (aH [.int .i64]):=match x with
 | (v0,()) =>
  aC (o8 (v0.1,())) λy1 =>
  bif !(eqI y1.1 0) then
   some (y1.1,())
  else aC (jE (((v0.1.length:Int),v0.2.1),())) λy2 =>
  bif !(eqI y2.1 0) then
   some (y2.1,())
  else aC (oG (((v0.1.length:Int),v0.2.1),())) λy3 =>
  bif !(eqI y3.2.1 0) then
   some (7,())
  else aC (AZ (y3.1,((v0.1.length:Int),v0.2.1),())) λy4 =>
  bif y4.1 then
   aC (j8 (((v0.1.length:Int),v0.2.1),())) λy5 =>
   bif !(eqI y5.2.1 0) then
    some (14,())
   else aC (yG (y5.1.2,v0.2.2,())) λy6 =>
   bif y6.1 then
    some (0,())
   else some (14,())
  else some (7,())
theorem aAD:bC tP (cG [yI,FF,aA1,D5,PQ,TW]):=bG ⟨BH,D6,aH9,EY,N9,aBO,trivial⟩
theorem aD2:eX tP 24 _ _ gC:=by exact bX aK aAD Tryz.func24 (c:=aQ Tryz.f24) (by kernel_rfl) (aV:=aG Tryz.f24) (lt:=λ_=>none) (aD (lt:=λ_=>none) (l:=[]) (by kernel_rfl) trivial) (by rintro⟨v0,⟨⟩⟩; kernel_rfl)
abbrev RR:Ent:=⟨24,_,_,gC⟩
theorem aAC:Ent.OK tP RR:=aD2
def yD(x:aH [.list TyE,.list TyD]):Option (aH [.list TyD,.list TyD,.int .i64]):=match x with
 | (v0,v1,()) =>
  aC (o8 (v0,())) λy1 =>
  bif !(eqI y1.1 0) then
   some ([],[],y1.1,())
  else aC (B0 ((v0.length:Int),v1,())) λy2 =>
  bif !(eqI y2.2.1 0) then
   some ([],[],y2.2.1,())
  else aC (oG (y2.1,())) λy3 =>
  bif !(eqI y3.2.1 0) then
   some ([],[],y3.2.1,())
  else aC (j8 (y2.1,())) λy4 =>
  some (y3.1.2,y4.1.2,y4.2.1,())
theorem aBP:bC tP (cG [yI,aA6,D5,PQ]):=bG ⟨BH,aB2,EY,N9,trivial⟩
theorem aF3:eX tP 94 _ _ yD:=by exact bX aK aBP Tryz.func94 (c:=aQ Tryz.f94) (by kernel_rfl) (aV:=aG Tryz.f94) (lt:=λ_=>none) (aD (lt:=λ_=>none) (l:=[]) (by kernel_rfl) trivial) (by rintro⟨v0,v1,⟨⟩⟩; kernel_rfl)
abbrev TP:Ent:=⟨94,_,_,yD⟩
theorem aCW:Ent.OK tP TP:=aF3
def lD(x:aH [.list TyE]):Option (aH [.list TyE]):=match x with
 | (v0,()) =>
  bif Nat.blt 0 v0.length then bif Nat.ble v0.length 1048576 then some (v0,()) else none else none
theorem KJ:bC tP (cG []):=bG trivial
theorem NC:eX tP 95 _ _ lD:=by exact bX aK KJ Tryz.func95 (c:=aQ Tryz.f95) (by kernel_rfl) (aV:=aG Tryz.f95) (lt:=λ_=>none) (aD (lt:=λ_=>none) (l:=[]) (by kernel_rfl) trivial) (by rintro⟨v0,⟨⟩⟩; kernel_rfl)
abbrev DI:Ent:=⟨95,_,_,lD⟩
theorem KG:Ent.OK tP DI:=NC
def dW(x:aH [.list TyE,.list TyD]):Option (aH [.agg TyG,.int .i64]):=match x with
 | (v0,v1,()) =>
  aC (yD (v0,v1,())) λy1 =>
  bif !(eqI y1.2.2.1 0) then
   some (([],([],[])),y1.2.2.1,())
  else aC (lD (v0,())) λy2 =>
  some ((y2.1,(y1.1,y1.2.1)),0,())
theorem RN:bC tP (cG [DI,TP]):=bG ⟨KG,aCW,trivial⟩
theorem VA:eX tP 39 _ _ dW:=by exact bX aK RN Tryz.func39 (c:=aQ Tryz.f39) (by kernel_rfl) (aV:=aG Tryz.f39) (lt:=λ_=>none) (aD (lt:=λ_=>none) (l:=[]) (by kernel_rfl) trivial) (by rintro⟨v0,v1,⟨⟩⟩; kernel_rfl)
abbrev tY:Ent:=⟨39,_,_,dW⟩
theorem wG:Ent.OK tP tY:=VA
end Go.PM
namespace Go.PM
open Go Go.RowKit Go.Proofs
set_option maxHeartbeats 4000000
def yK(x:aH [.int .u8]):Option (aH [.list TyE]):=match x with
 | (v0,()) =>
  bif eqI ([[2,3,5],[2,3,5,7],[2,3],[2,3,7],[2,5,7],[3,5,7],[2,3,5,11],[2],[2,3,7,13],[3,5,7,13]].length:Int) 0 then none else bif aI ((IntKind.wrap .i64 v0).tmod ([[2,3,5],[2,3,5,7],[2,3],[2,3,7],[2,5,7],[3,5,7],[2,3,5,11],[2],[2,3,7,13],[3,5,7,13]].length:Int)) [[2,3,5],[2,3,5,7],[2,3],[2,3,7],[2,5,7],[3,5,7],[2,3,5,11],[2],[2,3,7,13],[3,5,7,13]].length then some (([[2,3,5],[2,3,5,7],[2,3],[2,3,7],[2,5,7],[3,5,7],[2,3,5,11],[2],[2,3,7,13],[3,5,7,13]].getD (((IntKind.wrap .i64 v0).tmod ([[2,3,5],[2,3,5,7],[2,3],[2,3,7],[2,5,7],[3,5,7],[2,3,5,11],[2],[2,3,7,13],[3,5,7,13]].length:Int)).toNat) []),()) else none
theorem WD:bC tP (cG []):=bG trivial
theorem aAG:eX tP 63 _ _ yK:=by exact bX aK WD Tryz.func63 (c:=aQ Tryz.f63) (by kernel_rfl) (aV:=aG Tryz.f63) (lt:=λ_=>none) (aD (lt:=λ_=>none) (l:=[]) (by kernel_rfl) trivial) (by rintro⟨v0,⟨⟩⟩; kernel_rfl)
abbrev NZ:Ent:=⟨63,_,_,yK⟩
theorem VX:Ent.OK tP NZ:=aAG
abbrev kT:List (Nat×Kd):=[(0,.list TyE),(3,.box 52 TyI),(5,.own 3 TyE),(6,.int .i64)]
abbrev n7:List (Ex×List (Nat×Kd)):=[(.exit 0,[(5,.own 3 TyE)])]
def l5(x:Shape.den kT):Option (Shape.den kT⊕aW n7):=match x with
 | (v0,v3,v5,v6,()) =>
  bif ltI v6 (v0.length:Int) then
   bif ltI v6 4 then
    bif eqI v6 0 then
     bif Nat.ble [((IntKind.wrap .i64 v3.1).tmod 10)].length 1048576 then bif Nat.ble v5.length 1048576 then some (.inl (v0,v3,(v5++[((IntKind.wrap .i64 v3.1).tmod 10)]),(aB .i64 (v6+1)),())) else none else none
    else bif eqI v6 1 then
     bif Nat.ble [((IntKind.wrap .i64 v3.2.1).tmod 10)].length 1048576 then bif Nat.ble v5.length 1048576 then some (.inl (v0,v3,(v5++[((IntKind.wrap .i64 v3.2.1).tmod 10)]),(aB .i64 (v6+1)),())) else none else none
    else bif eqI v6 2 then
     bif Nat.ble [((IntKind.wrap .i64 v3.2.2.1).tmod 10)].length 1048576 then bif Nat.ble v5.length 1048576 then some (.inl (v0,v3,(v5++[((IntKind.wrap .i64 v3.2.2.1).tmod 10)]),(aB .i64 (v6+1)),())) else none else none
    else bif eqI v6 3 then bif Nat.ble [((IntKind.wrap .i64 v3.2.2.2).tmod 10)].length 1048576 then bif Nat.ble v5.length 1048576 then some (.inl (v0,v3,(v5++[((IntKind.wrap .i64 v3.2.2.2).tmod 10)]),(aB .i64 (v6+1)),())) else none else none else none
   else some (.inr ((v5,())))
  else some (.inr ((v5,())))
def qF(x:Shape.den kT):Option (aW n7):=cE l5 (2^64) x
def qO(x:aH [.list TyE,.agg TyI]):Option (aH [.list TyE]):=match x with
 | (v0,v1,()) =>
  aC (qF (v0,v1,[],0,())) λz1 =>
  some (z1.1,())
def KC:Code:=aQ Tryz.f64
abbrev JQ:Env:=cG []
theorem GI:bC tP JQ:=bG trivial
def yV:Code:=eR KC 0
def IN(id:Nat):Option b9:=bif Nat.beq id 3 then some ⟨kT,n7,qF⟩ else none
theorem N2:∀ x,eM tP JQ 26 (aG Tryz.f64) IN yV kT n7 x=l5 x:=by
 rintro⟨v0,v3,v5,v6,⟨⟩⟩
 kernel_rfl
theorem QA:cT tP 26 yV ⟨kT,n7,qF⟩:=by exact cQ GI.callee aK.mixed _ (aD (l:=[]) (by kernel_rfl) trivial) N2
theorem WT:eX tP 64 _ _ qO:=by exact bX aK GI Tryz.func64 (c:=KC) (by kernel_rfl) (aV:=aG Tryz.f64) (lt:=IN) (aD (l:=[yV]) (by kernel_rfl) ⟨cO (i:=3) (by kernel_rfl) rfl QA,trivial⟩) (by rintro⟨v0,v1,⟨⟩⟩; kernel_rfl)
abbrev J6:Ent:=⟨64,_,_,qO⟩
theorem TD:Ent.OK tP J6:=WT
def n8(x:aH [.list TyE,.list TyD,.bool]):Option (aH [.agg TyG,.int .i64]):=match x with
 | (v0,v1,v2,()) =>
  aC (o8 (v0,())) λy1 =>
  bif !(eqI y1.1 0) then
   some (([],([],[])),y1.1,())
  else aC (B0 ((v0.length:Int),v1,())) λy2 =>
  bif !(eqI y2.2.1 0) then
   some (([],([],[])),y2.2.1,())
  else aC (oG (y2.1,())) λy3 =>
  aC (j8 (y2.1,())) λy4 =>
  bif !(eqI y3.2.1 0) then
   some (([],([],[])),4,())
  else bif !(eqI y4.2.1 0) then
   some (([],([],[])),4,())
  else bif v2 then
   some ((v0,(y4.1.2,y3.1.2)),0,())
  else some ((v0,(y3.1.2,y4.1.2)),0,())
theorem YN:bC tP (cG [yI,aA6,D5,PQ]):=bG ⟨BH,aB2,EY,N9,trivial⟩
theorem aAY:eX tP 65 _ _ n8:=by exact bX aK YN Tryz.func65 (c:=aQ Tryz.f65) (by kernel_rfl) (aV:=aG Tryz.f65) (lt:=λ_=>none) (aD (lt:=λ_=>none) (l:=[]) (by kernel_rfl) trivial) (by rintro⟨v0,v1,v2,⟨⟩⟩; kernel_rfl)
abbrev O1:Ent:=⟨65,_,_,n8⟩
theorem X1:Ent.OK tP O1:=aAY
abbrev oS:List (Nat×Kd):=[(1,.box 24 TyP),(2,.box 35 TyG),(3,.list TyE),(4,.own 53 TyD),(5,.int .i64)]
abbrev rN:List (Ex×List (Nat×Kd)):=[(.exit 0,[(1,.box 24 TyP),(2,.box 35 TyG),(3,.list TyE),(4,.own 53 TyD)])]
def pU(x:Shape.den oS):Option (Shape.den oS⊕aW rN):=match x with
 | (v1,v2,v3,v4,v5,()) =>
  bif ltI v5 (v1.2.1.length:Int) then
   bif ltI v5 3 then
    bif aI v5 v1.2.1.length then aC (qO (v3,((v1.2.1.getD v5.toNat (0,(0,(0,0)))).1,((v1.2.1.getD v5.toNat (0,(0,(0,0)))).2.1,((v1.2.1.getD v5.toNat (0,(0,(0,0)))).2.2.1,(v1.2.1.getD v5.toNat (0,(0,(0,0)))).2.2.2))),())) λy3 =>
    bif Nat.ble [y3.1].length 1048576 then bif Nat.ble v4.length 1048576 then some (.inl (v1,v2,v3,(v4++[y3.1]),(aB .i64 (v5+1)),())) else none else none else none
   else some (.inr ((v1,v2,v3,v4,())))
  else some (.inr ((v1,v2,v3,v4,())))
def tX(x:Shape.den oS):Option (aW rN):=cE pU (2^64) x
def iB(x:aH [.agg TyP]):Option (aH [.agg TyG]):=match x with
 | (v0,()) =>
  aC (yK (v0.1,())) λy1 =>
  aC (tX (v0,([],([],[])),y1.1,[],0,())) λz4 =>
  aC (n8 (z4.2.2.1,z4.2.2.2.1,z4.1.2.2,())) λy5 =>
  some (y5.1,())
def RK:Code:=aQ Tryz.f15
abbrev SS:Env:=cG [J6,NZ,O1]
theorem KV:bC tP SS:=bG ⟨TD,VX,X1,trivial⟩
def ES:Code:=eR RK 0
def PD(id:Nat):Option b9:=bif Nat.beq id 4 then some ⟨oS,rN,tX⟩ else none
theorem UR:∀ x,eM tP SS 41 (aG Tryz.f15) PD ES oS rN x=pU x:=by
 rintro⟨v1,v2,v3,v4,v5,⟨⟩⟩
 kernel_rfl
theorem WE:cT tP 41 ES ⟨oS,rN,tX⟩:=by exact cQ KV.callee aK.mixed _ (aD (l:=[]) (by kernel_rfl) trivial) UR
theorem aD4:eX tP 15 _ _ iB:=by exact bX aK KV Tryz.func15 (c:=RK) (by kernel_rfl) (aV:=aG Tryz.f15) (lt:=PD) (aD (l:=[ES]) (by kernel_rfl) ⟨cO (i:=4) (by kernel_rfl) rfl WE,trivial⟩) (by rintro⟨v0,⟨⟩⟩; kernel_rfl)
abbrev ID:Ent:=⟨15,_,_,iB⟩
theorem K1:Ent.OK tP ID:=aD4
def nG(x:aH [.agg TyP]):Option (aH [.bool]):=match x with
 | (v0,()) =>
  some (!(ltI 3 (v0.2.1.length:Int)),())
theorem aAE:bC tP (cG []):=bG trivial
theorem aDI:eX tP 13 _ _ nG:=by exact bX aK aAE Tryz.func13 (c:=aQ Tryz.f13) (by kernel_rfl) (aV:=aG Tryz.f13) (lt:=λ_=>none) (aD (lt:=λ_=>none) (l:=[]) (by kernel_rfl) trivial) (by rintro⟨v0,⟨⟩⟩; kernel_rfl)
abbrev HY:Ent:=⟨13,_,_,nG⟩
theorem KR:Ent.OK tP HY:=aDI
def vW(x:aH [.agg TyQ]):Option (aH [.agg TyG,.agg TyG]):=match x with
 | (v0,()) =>
  bif v0.2.2 then
   aC (iB (v0.1,())) λy1 =>
   aC (iB ((v0.1.1,v0.2.1.2),())) λy2 =>
   some (y1.1,y2.1,())
  else aC (iB (v0.1,())) λy3 =>
  aC (iB (v0.2.1,())) λy4 =>
  some (y3.1,y4.1,())
theorem Z3:bC tP (cG [ID]):=bG ⟨K1,trivial⟩
theorem aDG:eX tP 14 _ _ vW:=by exact bX aK Z3 Tryz.func14 (c:=aQ Tryz.f14) (by kernel_rfl) (aV:=aG Tryz.f14) (lt:=λ_=>none) (aD (lt:=λ_=>none) (l:=[]) (by kernel_rfl) trivial) (by rintro⟨v0,⟨⟩⟩; kernel_rfl)
abbrev RA:Ent:=⟨14,_,_,vW⟩
theorem aAL:Ent.OK tP RA:=aDG
def sE(x:aH [.agg TyQ]):Option (aH [.bool]):=match x with
 | (v0,()) =>
  aC (nG (v0.1,())) λy1 =>
  bif y1.1 then
   aC (nG (v0.2.1,())) λy2 =>
   some (y2.1,())
  else some (false,())
theorem ZZ:bC tP (cG [HY]):=bG ⟨KR,trivial⟩
theorem aDO:eX tP 12 _ _ sE:=by exact bX aK ZZ Tryz.func12 (c:=aQ Tryz.f12) (by kernel_rfl) (aV:=aG Tryz.f12) (lt:=λ_=>none) (aD (lt:=λ_=>none) (l:=[]) (by kernel_rfl) trivial) (by rintro⟨v0,⟨⟩⟩; kernel_rfl)
abbrev SA:Ent:=⟨12,_,_,sE⟩
theorem ZU:Ent.OK tP SA:=aDO
abbrev pW:List (Nat×Kd):=[(0,.list TyG),(8,.list TyG),(9,.int .i64),(10,.int .i64)]
abbrev sY:List (Ex×List (Nat×Kd)):=[(.ret,[(2,.int .i64)]),(.exit 0,[(0,.list TyG)])]
def qZ(x:Shape.den pW):Option (Shape.den pW⊕aW sY):=match x with
 | (v0,v8,v9,v10,()) =>
  bif ltI v10 v9 then
   bif aI v10 v8.length then aC (gC (((v8.getD v10.toNat ([],([],[]))).1,((v8.getD v10.toNat ([],([],[]))).2.1,(v8.getD v10.toNat ([],([],[]))).2.2)),())) λy2 =>
   bif !(eqI y2.1 0) then
    some (.inr (.inl (y2.1,())))
   else some (.inl (v0,v8,v9,(aB .i64 (v10+1)),())) else none
  else some (.inr (.inr ((v0,()))))
def u9(x:Shape.den pW):Option (aW sY):=cE qZ (2^64) x
abbrev pO:List (Nat×Kd):=[(0,.list TyG),(20,.list TyG),(21,.int .i64),(22,.int .i64)]
abbrev tC:List (Ex×List (Nat×Kd)):=[(.ret,[(2,.int .i64)]),(.exit 2,[])]
def lB(x:Shape.den pO):Option (Shape.den pO⊕aW tC):=match x with
 | (v0,v20,v21,v22,()) =>
  bif ltI v22 v21 then
   bif aI v22 v20.length then bif aI 0 v0.length then aC (dR ((v20.getD v22.toNat ([],([],[]))).1,(v0.getD 0 ([],([],[]))).1,())) λy7 =>
   bif y7.1 then
    some (.inl (v0,v20,v21,(aB .i64 (v22+1)),()))
   else some (.inr (.inl (14,()))) else none else none
  else some (.inr (.inr ((()))))
def qU(x:Shape.den pO):Option (aW tC):=cE lB (2^64) x
def hO(x:aH [.list TyG]):Option (aH [.int .i64]):=match x with
 | (v0,()) =>
  aC (u9 (v0,v0,(v0.length:Int),0,())) λz3 =>
  C5 z3 (λa4=>some (a4.1,())) λb5 =>
  aC (qU (b5.1,b5.1,(b5.1.length:Int),0,())) λz8 =>
  C5 z8 (λa9=>some (a9.1,())) λb10 =>
  some (0,())
def JU:Code:=aQ Tryz.f66
abbrev JO:Env:=cG [C6,RR]
theorem EW:bC tP JO:=bG ⟨KL,aAC,trivial⟩
def GU:Code:=eR JU 0
def GX:Code:=eR JU 1
def IH(id:Nat):Option b9:=bif Nat.beq id 2 then some ⟨pW,sY,u9⟩ else bif Nat.beq id 9 then some ⟨pO,tC,qU⟩ else none
theorem WA:∀ x,eM tP JO 35 (aG Tryz.f66) IH GU pW sY x=qZ x:=by
 rintro⟨v0,v8,v9,v10,⟨⟩⟩
 kernel_rfl
theorem Y9:cT tP 35 GU ⟨pW,sY,u9⟩:=by exact cQ EW.callee aK.mixed _ (aD (l:=[]) (by kernel_rfl) trivial) WA
theorem VS:∀ x,eM tP JO 35 (aG Tryz.f66) IH GX pO tC x=lB x:=by
 rintro⟨v0,v20,v21,v22,⟨⟩⟩
 kernel_rfl
theorem X3:cT tP 35 GX ⟨pO,tC,qU⟩:=by exact cQ EW.callee aK.mixed _ (aD (l:=[]) (by kernel_rfl) trivial) VS
theorem aE6:eX tP 66 _ _ hO:=by exact bX aK EW Tryz.func66 (c:=JU) (by kernel_rfl) (aV:=aG Tryz.f66) (lt:=IH) (aD (l:=[GU,GX]) (by kernel_rfl) ⟨cO (i:=2) (by kernel_rfl) rfl Y9,cO (i:=9) (by kernel_rfl) rfl X3,trivial⟩) (by rintro⟨v0,⟨⟩⟩; kernel_rfl)
abbrev ED:Ent:=⟨66,_,_,hO⟩
theorem EV:Ent.OK tP ED:=aE6
def gA(x:aH [.agg TyG]):Option (aH [.agg TyH]):=match x with
 | (v0,()) =>
  some (((v0.1.length:Int),v0.2.1),())
theorem Z8:bC tP (cG []):=bG trivial
theorem aDW:eX tP 69 _ _ gA:=by exact bX aK Z8 Tryz.func69 (c:=aQ Tryz.f69) (by kernel_rfl) (aV:=aG Tryz.f69) (lt:=λ_=>none) (aD (lt:=λ_=>none) (l:=[]) (by kernel_rfl) trivial) (by rintro⟨v0,⟨⟩⟩; kernel_rfl)
abbrev CJ:Ent:=⟨69,_,_,gA⟩
theorem DP:Ent.OK tP CJ:=aDW
def uM(x:aH [.agg TyG,.agg TyG]):Option (aH [.bool,.int .i64]):=match x with
 | (v0,v1,()) =>
  aC (gA (v0,())) λy1 =>
  aC (gA (v1,())) λy2 =>
  aC (xV (y1.1,y2.1,())) λy3 =>
  some (y3.1,y3.2.1,())
theorem Y6:bC tP (cG [ZF,CJ]):=bG ⟨aFT,DP,trivial⟩
theorem aAW:eX tP 70 _ _ uM:=by exact bX aK Y6 Tryz.func70 (c:=aQ Tryz.f70) (by kernel_rfl) (aV:=aG Tryz.f70) (lt:=λ_=>none) (aD (lt:=λ_=>none) (l:=[]) (by kernel_rfl) trivial) (by rintro⟨v0,v1,⟨⟩⟩; kernel_rfl)
abbrev PF:Ent:=⟨70,_,_,uM⟩
theorem YM:Ent.OK tP PF:=aAW
def dP(x:aH [.agg TyG,.agg TyG]):Option (aH [.bool,.int .i64]):=match x with
 | (v0,v1,()) =>
  aC (hO ([v0,v1],())) λy1 =>
  bif !(eqI y1.1 0) then
   some (false,y1.1,())
  else aC (uM (v0,v1,())) λy2 =>
  some (y2.1,y2.2.1,())
theorem XI:bC tP (cG [ED,PF]):=bG ⟨EV,YM,trivial⟩
theorem aBK:eX tP 18 _ _ dP:=by exact bX aK XI Tryz.func18 (c:=aQ Tryz.f18) (by kernel_rfl) (aV:=aG Tryz.f18) (lt:=λ_=>none) (aD (lt:=λ_=>none) (l:=[]) (by kernel_rfl) trivial) (by rintro⟨v0,v1,⟨⟩⟩; kernel_rfl)
abbrev zY:Ent:=⟨18,_,_,dP⟩
theorem B8:Ent.OK tP zY:=aBK
def G6(x:aH [.agg TyG,.agg TyG]):Option (aH [.int .i64]):=match x with
 | (v0,v1,()) =>
  aC (dP (v0,v1,())) λy1 =>
  bif !(eqI y1.2.1 0) then
   some (y1.2.1,())
  else bif y1.1 then
   some (0,())
  else some (6,())
theorem YY:bC tP (cG [zY]):=bG ⟨B8,trivial⟩
theorem aA3:eX tP 82 _ _ G6:=by exact bX aK YY Tryz.func82 (c:=aQ Tryz.f82) (by kernel_rfl) (aV:=aG Tryz.f82) (lt:=λ_=>none) (aD (lt:=λ_=>none) (l:=[]) (by kernel_rfl) trivial) (by rintro⟨v0,v1,⟨⟩⟩; kernel_rfl)
abbrev PE:Ent:=⟨82,_,_,G6⟩
theorem XP:Ent.OK tP PE:=aA3
def D8(x:aH [.agg TyG,.agg TyG]):Option (aH [.int .i64,.int .i64]):=match x with
 | (v0,v1,()) =>
  aC (G6 (v0,v1,())) λy1 =>
  bif !(eqI y1.1 0) then
   some (0,y1.1,())
  else some ((aB .i64 ((v1.2.1.length:Int)-(v0.2.1.length:Int))),0,())
theorem aBY:bC tP (cG [PE]):=bG ⟨XP,trivial⟩
theorem aF4:eX tP 27 _ _ D8:=by exact bX aK aBY Tryz.func27 (c:=aQ Tryz.f27) (by kernel_rfl) (aV:=aG Tryz.f27) (lt:=λ_=>none) (aD (lt:=λ_=>none) (l:=[]) (by kernel_rfl) trivial) (by rintro⟨v0,v1,⟨⟩⟩; kernel_rfl)
abbrev T5:Ent:=⟨27,_,_,D8⟩
theorem aCA:Ent.OK tP T5:=aF4
end Go.PM
namespace Go.PM
open Go Go.RowKit Go.Proofs
set_option maxHeartbeats 4000000
def cY(x:aH [.nil0,.int .i64]):Option (List ByteArray):=match x with
 | (v0,v1,()) =>
  bif ltI v1 0 then none else bif ltI 0 (aB .i64 (v1-0)) then
   bif !(ltI (aB .i64 (v1-0)) 0) then bif !(ltI 1048576 (aB .i64 (v1-0))) then bif Nat.ble 0 0 then bif Nat.ble 0 ((List.replicate (aB .i64 (v1-0)).toNat (ByteArray.empty:Ty.den .str)).length) then bif Nat.blt 0 ((List.replicate (aB .i64 (v1-0)).toNat (ByteArray.empty:Ty.den .str)).length) then some ((List.replicate (aB .i64 (v1-0)).toNat (ByteArray.empty:Ty.den .str)).take (0-0)) else none else none else none else none else none
  else some []
def o4:Code:=aQ Tryz.f162
abbrev vD:Env:=cG []
theorem ET:bC tP vD:=bG trivial
def uJ(id:Nat):Option b9:=none
theorem EG:cB o4=[]:=by kernel_rfl
theorem E9:∀ x,aXC tP vD Tryz.f162 (aG Tryz.f162) uJ o4 [.nil0,.int .i64] 4 110 .str x=cY x:=by
 rintro⟨v0,v1,⟨⟩⟩
 kernel_rfl
theorem GV:aVC tP 162 [.nil0,.int .i64] 110 .str cY:=by exact aSG aK ET Tryz.func162 (c:=o4) (by kernel_rfl) (aV:=aG Tryz.f162) (lt:=uJ) (t:=4) (by kernel_rfl) (aD EG trivial) E9
abbrev vE:Shr:=(162,a5F [.nil0,.int .i64] 110 .str cY)
theorem FH:xB tP vE:=aSP GV
abbrev cV:List (Nat×Kd):=[(0,.list (.list .str)),(3,.int .i64),(9,.list (.list .str)),(10,.int .i64),(11,.int .i64)]
abbrev eA:List (Ex×List (Nat×Kd)):=[(.exit 0,[(0,.list (.list .str)),(3,.int .i64)])]
def cL(x:Shape.den cV):Option (Shape.den cV⊕aW eA):=match x with
 | (v0,v3,v9,v10,v11,()) =>
  bif ltI v11 v10 then
   bif aI v11 v9.length then bif ltI (aB .i64 (v3+((v9.getD v11.toNat []).length:Int))) 0 then none else some (.inl (v0,(aB .i64 (v3+((v9.getD v11.toNat []).length:Int))),v9,v10,(aB .i64 (v11+1)),())) else none
  else some (.inr ((v0,v3,())))
def fS(x:Shape.den cV):Option (aW eA):=cE cL (2^64) x
abbrev cX:List (Nat×Kd):=[(6,.own 110 .str),(25,.list (.list .str)),(26,.int .i64),(27,.int .i64)]
abbrev eF:List (Ex×List (Nat×Kd)):=[(.exit 2,[(6,.own 110 .str)])]
def cM(x:Shape.den cX):Option (Shape.den cX⊕aW eF):=match x with
 | (v6,v25,v26,v27,()) =>
  bif ltI v27 v26 then
   bif aI v27 v25.length then bif Nat.ble (v25.getD v27.toNat []).length 1048576 then bif Nat.ble v6.length 1048576 then some (.inl ((v6++(v25.getD v27.toNat [])),v25,v26,(aB .i64 (v27+1)),())) else none else none else none
  else some (.inr ((v6,())))
def fV(x:Shape.den cX):Option (aW eF):=cE cM (2^64) x
def cN(x:aH [.list (.list .str)]):Option (List ByteArray):=match x with
 | (v0,()) =>
  aC (fS (v0,0,v0,(v0.length:Int),0,())) λz1 =>
  aC (cY ((),z1.2.1,())) λy2 =>
  aC (fV (y2,z1.1,(z1.1.length:Int),0,())) λz3 =>
  some z3.1
def fB:Code:=aQ Tryz.f118
abbrev iG:Env:=NN [] [vE]
theorem lT:bC tP iG:=o9 trivial ⟨FH,trivial⟩
def mH:Code:=eR fB 0
def mG:Code:=eR fB 1
def gV(id:Nat):Option b9:=bif Nat.beq id 3 then some ⟨cV,eA,fS⟩ else bif Nat.beq id 11 then some ⟨cX,eF,fV⟩ else none
theorem BJ:∀ x,eM tP iG 36 (aG Tryz.f118) gV mH cV eA x=cL x:=by
 rintro⟨v0,v3,v9,v10,v11,⟨⟩⟩
 kernel_rfl
theorem CA:cT tP 36 mH ⟨cV,eA,fS⟩:=by exact cQ lT.callee aK.mixed _ (aD (l:=[]) (by kernel_rfl) trivial) BJ
theorem BQ:∀ x,eM tP iG 36 (aG Tryz.f118) gV mG cX eF x=cM x:=by
 rintro⟨v6,v25,v26,v27,⟨⟩⟩
 kernel_rfl
theorem CG:cT tP 36 mG ⟨cX,eF,fV⟩:=by exact cQ lT.callee aK.mixed _ (aD (l:=[]) (by kernel_rfl) trivial) BQ
theorem C3:cB fB=[mH,mG]:=by kernel_rfl
theorem DU:∀ x,aXC tP iG Tryz.f118 (aG Tryz.f118) gV fB [.list (.list .str)] 2 110 .str x=cN x:=by
 rintro⟨v0,⟨⟩⟩
 kernel_rfl
theorem E8:aVC tP 118 [.list (.list .str)] 110 .str cN:=by exact aSG aK lT Tryz.func118 (c:=fB) (by kernel_rfl) (aV:=aG Tryz.f118) (lt:=gV) (t:=2) (by kernel_rfl) (aD C3 ⟨cO (i:=3) (by kernel_rfl) rfl CA,cO (i:=11) (by kernel_rfl) rfl CG,trivial⟩) DU
abbrev tW:Shr:=(118,a5F [.list (.list .str)] 110 .str cN)
theorem DY:xB tP tW:=aSP E8
abbrev oX:List (Nat×Kd):=[(3,.ptr TyH),(4,.bag 98 TyE 53 TyD none),(7,.int .i64),(8,.own 148 (.hnd 1)),(23,.list TyD),(24,.int .i64),(25,.int .i64),(100000,.ar 110 .str)]
abbrev rT:List (Ex×List (Nat×Kd)):=[(.exit 0,[(3,.ptr TyH),(4,.bag 98 TyE 53 TyD none),(7,.int .i64),(8,.own 148 (.hnd 1)),(100000,.ar 110 .str)])]
def pZ(x:Shape.den oX):Option (Shape.den oX⊕aW rT):=match x with
 | (v3,v4,v7,v8,v23,v24,v25,v100000,()) =>
  bif ltI v25 v24 then
   bif aI v25 v23.length then aC (nK ((v23.getD v25.toNat []),())) λy5 =>
   aC (nK ((v23.getD v25.toNat []),())) λy6 =>
   aC (cN ([y5.1,y6.1],())) λy7 =>
   bif Nat.ble [(v100000.length,0,y7.length)].length 1048576 then bif Nat.ble v8.length 1048576 then some (.inl (v3,(v4.1,(v4.2.1,())),v7,(v8++[(v100000.length,0,y7.length)]),v23,v24,(aB .i64 (v25+1)),(v100000++[y7]),())) else none else none else none
  else some (.inr ((v3,(v4.1,(v4.2.1,())),v7,v8,v100000,())))
def tZ(x:Shape.den oX):Option (aW rT):=cE pZ (2^64) x
abbrev oW:List (Nat×Kd):=[(4,.bag 98 TyE 53 TyD none),(7,.int .i64),(8,.own 148 (.hnd 1)),(40,.list TyD),(41,.int .i64),(42,.int .i64),(100000,.ar 110 .str)]
abbrev rV:List (Ex×List (Nat×Kd)):=[(.exit 2,[(4,.bag 98 TyE 53 TyD none),(7,.int .i64),(8,.own 148 (.hnd 1)),(100000,.ar 110 .str)])]
def pN(x:Shape.den oW):Option (Shape.den oW⊕aW rV):=match x with
 | (v4,v7,v8,v40,v41,v42,v100000,()) =>
  bif ltI v42 v41 then
   bif aI v42 v40.length then aC (nK ((v40.getD v42.toNat []),())) λy12 =>
   aC (oR () (v7,()) v100000) λy13 =>
   aC (cN ([y12.1,y13.1],())) λy14 =>
   bif Nat.ble [(y13.2.length,0,y14.length)].length 1048576 then bif Nat.ble v8.length 1048576 then some (.inl ((v4.1,(v4.2.1,())),v7,(v8++[(y13.2.length,0,y14.length)]),v40,v41,(aB .i64 (v42+1)),(y13.2++[y14]),())) else none else none else none
  else some (.inr (((v4.1,(v4.2.1,())),v7,v8,v100000,())))
def tS(x:Shape.den oW):Option (aW rV):=cE pN (2^64) x
def mX(x:aH [.agg TyH,.agg TyH]):Option (aH [.agg TyH,.int .i64]):=match x with
 | (v0,v1,()) =>
  aC (lA (v0,v1,())) λy1 =>
  bif !(eqI y1.1 0) then
   some ((0,[]),y1.1,())
  else aC (tZ (v1,(0,([],())),v0.1,[],v0.2,(v0.2.length:Int),0,[],())) λz8 =>
  aC (tS ((z8.2.1.1,(z8.2.1.2.1,())),z8.2.2.1,z8.2.2.2.1,z8.1.2,(z8.1.2.length:Int),0,z8.2.2.2.2.1,())) λz15 =>
  aC (dG z15.2.2.1 ((aB .i64 (2*z15.2.1)),()) z15.2.2.2.1) λy16 =>
  aC (eP () (y16.1,z15.2.1,z15.2.1,()) y16.2) λy17 =>
  aC (dH y17.1 (z15.2.1,()) y17.2) λy18 =>
  some (y18.1.1,y18.1.2.1,())
def vS:Code:=aQ Tryz.f68
abbrev B6:Env:=NN [B7,L2] [yP,mO,mK,KF,tW]
theorem DV:bC tP B6:=o9 ⟨D1,O2,trivial⟩ ⟨EE,nF,mV,M7,DY,trivial⟩
def E0:Code:=inLoop (aXV vS 0)
def ER:Code:=inLoop (aXV vS 1)
def zQ(id:Nat):Option b9:=bif Nat.beq id 7 then some ⟨oX,rT,tZ⟩ else bif Nat.beq id 12 then some ⟨oW,rV,tS⟩ else none
def zW(id:Nat):Option b9:=none
theorem VG:∀ x,aTG tP B6 67 (aEG Tryz.f68) zQ zW false [] E0 oX rT x=pZ x:=by
 rintro⟨v3,v4,v7,v8,v23,v24,v25,v100000,⟨⟩⟩
 kernel_rfl
theorem W7:XB tP 67 false [] (.loop E0) ⟨oX,rT,tZ⟩:=by exact aMQ DV.callee aK.mixed _ (XQ (l:=[]) (by kernel_rfl) trivial) VG
theorem VO:∀ x,aTG tP B6 67 (aEG Tryz.f68) zQ zW false [] ER oW rV x=pN x:=by
 rintro⟨v4,v7,v8,v40,v41,v42,v100000,⟨⟩⟩
 kernel_rfl
theorem VQ:XB tP 67 false [] (.loop ER) ⟨oW,rV,tS⟩:=by exact aMQ DV.callee aK.mixed _ (XQ (l:=[]) (by kernel_rfl) trivial) VO
theorem YI:jN vS=[.loop E0,.loop ER]:=by kernel_rfl
theorem Z5:∀ x,aZQ tP B6 Tryz.f68 (aEG Tryz.f68) zQ zW vS 110 .str _ _ x=mX x:=by
 rintro⟨v0,v1,⟨⟩⟩
 kernel_rfl
theorem aDL:eX tP 68 _ _ mX:=by exact a9Y aK DV Tryz.func68 (c:=vS) (by kernel_rfl) (aV:=aEG Tryz.f68) (lt:=zQ) (rt:=zW) (XQ YI ⟨aOP (i:=7) (by kernel_rfl) rfl W7,aOP (i:=12) (by kernel_rfl) rfl VQ,trivial⟩) Z5
abbrev SW:Ent:=⟨68,_,_,mX⟩
theorem aAB:Ent.OK tP SW:=aDL
end Go.PM
namespace Go.PM
open Go Go.RowKit Go.Proofs
set_option maxHeartbeats 4000000
def BF(x:aH [.agg TyG,.agg TyG]):Option (aH [.agg TyG,.int .i64]):=match x with
 | (v0,v1,()) =>
  aC (gA (v0,())) λy1 =>
  aC (gA (v1,())) λy2 =>
  aC (FQ (y1.1,y2.1,())) λy3 =>
  bif !(eqI y3.2.1 0) then
   some (([],([],[])),y3.2.1,())
  else aC (dW (v0.1,y3.1.2,())) λy4 =>
  some (y4.1,y4.2.1,())
theorem aDU:bC tP (cG [aG6,CJ,tY]):=bG ⟨aLA,DP,wG,trivial⟩
theorem aHT:eX tP 67 _ _ BF:=by exact bX aK aDU Tryz.func67 (c:=aQ Tryz.f67) (by kernel_rfl) (aV:=aG Tryz.f67) (lt:=λ_=>none) (aD (lt:=λ_=>none) (l:=[]) (by kernel_rfl) trivial) (by rintro⟨v0,v1,⟨⟩⟩; kernel_rfl)
abbrev W4:Ent:=⟨67,_,_,BF⟩
theorem aDF:Ent.OK tP W4:=aHT
def sG(x:aH [.agg TyG,.agg TyG]):Option (aH [.agg TyG,.int .i64]):=match x with
 | (v0,v1,()) =>
  aC (hO ([v0,v1],())) λy1 =>
  bif !(eqI y1.1 0) then
   some (([],([],[])),y1.1,())
  else aC (BF (v0,v1,())) λy2 =>
  some (y2.1,y2.2.1,())
theorem aDE:bC tP (cG [ED,W4]):=bG ⟨EV,aDF,trivial⟩
theorem aGM:eX tP 16 _ _ sG:=by exact bX aK aDE Tryz.func16 (c:=aQ Tryz.f16) (by kernel_rfl) (aV:=aG Tryz.f16) (lt:=λ_=>none) (aD (lt:=λ_=>none) (l:=[]) (by kernel_rfl) trivial) (by rintro⟨v0,v1,⟨⟩⟩; kernel_rfl)
abbrev MA:Ent:=⟨16,_,_,sG⟩
theorem PH:Ent.OK tP MA:=aGM
def sH(x:aH [.agg TyG,.agg TyG]):Option (aH [.agg TyG,.int .i64]):=match x with
 | (v0,v1,()) =>
  aC (hO ([v0,v1],())) λy1 =>
  bif !(eqI y1.1 0) then
   some (([],([],[])),y1.1,())
  else aC (gA (v0,())) λy2 =>
  aC (gA (v1,())) λy3 =>
  aC (mX (y2.1,y3.1,())) λy4 =>
  bif !(eqI y4.2.1 0) then
   some (([],([],[])),y4.2.1,())
  else aC (dW (v0.1,y4.1.2,())) λy5 =>
  some (y5.1,y5.2.1,())
theorem aDQ:bC tP (cG [SW,ED,CJ,tY]):=bG ⟨aAB,EV,DP,wG,trivial⟩
theorem aHR:eX tP 17 _ _ sH:=by exact bX aK aDQ Tryz.func17 (c:=aQ Tryz.f17) (by kernel_rfl) (aV:=aG Tryz.f17) (lt:=λ_=>none) (aD (lt:=λ_=>none) (l:=[]) (by kernel_rfl) trivial) (by rintro⟨v0,v1,⟨⟩⟩; kernel_rfl)
abbrev LP:Ent:=⟨17,_,_,sH⟩
theorem O9:Ent.OK tP LP:=aHR
end Go.PM
namespace Go.PM
open Go Go.RowKit Go.Proofs
set_option maxHeartbeats 4000000
def PA(hrefinement_Join:aH [.agg TyG,.agg TyG]->Option (aH [.agg TyG,.int .i64])) (hrefinement_Meet:aH [.agg TyG,.agg TyG]->Option (aH [.agg TyG,.int .i64])) (hrefinement_Refines:aH [.agg TyG,.agg TyG]->Option (aH [.bool,.int .i64])) (hrefinement_Steps:aH [.agg TyG,.agg TyG]->Option (aH [.int .i64,.int .i64])) (hslices_Equal_api_Row_int:aH [.list TyE,.list TyE]->Option (aH [.bool])) (htemperament_FromCommas:aH [.list TyE,.list TyD]->Option (aH [.agg TyG,.int .i64])) (x:aH []):Option (aH [.bool]):=match x with
 | (()) =>
  aC (htemperament_FromCommas ([2,3,5],[[(-4),4,(-1)]],())) λy1 =>
  aC (htemperament_FromCommas ([2,3,5],[[7,0,(-3)]],())) λy2 =>
  aC (hrefinement_Join (y1.1,y2.1,())) λy3 =>
  aC (hrefinement_Meet (y1.1,y2.1,())) λy4 =>
  aC (hrefinement_Steps (y1.1,y3.1,())) λy5 =>
  aC (hrefinement_Refines (y1.1,y2.1,())) λy6 =>
  bif eqI y1.2.1 0 then
   bif eqI y2.2.1 0 then
    bif eqI y3.2.1 0 then
     bif eqI y4.2.1 0 then
      bif eqI y5.2.1 0 then
       bif eqI y6.2.1 0 then
        bif eqI (y3.1.2.2.length:Int) 1 then
         bif aI 0 y3.1.2.2.length then aC (hslices_Equal_api_Row_int ((y3.1.2.2.getD 0 []),[12,19,28],())) λy7 =>
         bif y7.1 then
          bif eqI (y4.1.2.1.length:Int) 0 then
           bif eqI (y4.1.2.2.length:Int) 3 then
            bif eqI y5.1 1 then
             bif y6.1 then
              some (false,())
             else some (true,())
            else some (false,())
           else some (false,())
          else some (false,())
         else some (false,()) else none
        else some (false,())
       else some (false,())
      else some (false,())
     else some (false,())
    else some (false,())
   else some (false,())
  else some (false,())
def zS(x:aH []):Option (aH [.bool]):=PA sG sH dP D8 dF dW x
def zX:Code:=aQ Tryz.f11
abbrev O5:Env:=cG [MA,LP,zY,T5,rI,tY]
theorem XK:bC tP O5:=bG ⟨PH,O9,B8,aCA,uG,wG,trivial⟩
def FK(id:Nat):Option b9:=none
theorem WG:cB zX=[]:=by kernel_rfl
theorem XE(hrefinement_Join:aH [.agg TyG,.agg TyG]->Option (aH [.agg TyG,.int .i64]))(hrefinement_Meet:aH [.agg TyG,.agg TyG]->Option (aH [.agg TyG,.int .i64]))(hrefinement_Refines:aH [.agg TyG,.agg TyG]->Option (aH [.bool,.int .i64]))(hrefinement_Steps:aH [.agg TyG,.agg TyG]->Option (aH [.int .i64,.int .i64]))(hslices_Equal_api_Row_int:aH [.list TyE,.list TyE]->Option (aH [.bool]))(htemperament_FromCommas:aH [.list TyE,.list TyD]->Option (aH [.agg TyG,.int .i64])):∀ x,a1E tP (cG [⟨16,[.agg TyG,.agg TyG],[.agg TyG,.int .i64],hrefinement_Join⟩,⟨17,[.agg TyG,.agg TyG],[.agg TyG,.int .i64],hrefinement_Meet⟩,⟨18,[.agg TyG,.agg TyG],[.bool,.int .i64],hrefinement_Refines⟩,⟨27,[.agg TyG,.agg TyG],[.int .i64,.int .i64],hrefinement_Steps⟩,⟨62,[.list TyE,.list TyE],[.bool],hslices_Equal_api_Row_int⟩,⟨39,[.list TyE,.list TyD],[.agg TyG,.int .i64],htemperament_FromCommas⟩]) Tryz.f11 (aG Tryz.f11) FK zX [] [.bool] x=PA hrefinement_Join hrefinement_Meet hrefinement_Refines hrefinement_Steps hslices_Equal_api_Row_int htemperament_FromCommas x:=by
 rintro⟨⟩
 kernel_rfl
theorem X5:∀ x,a1E tP O5 Tryz.f11 (aG Tryz.f11) FK zX _ _ x=zS x:=XE sG sH dP D8 dF dW
theorem aBU:eX tP 11 _ _ zS:=by exact bX aK XK Tryz.func11 (c:=zX) (by kernel_rfl) (aV:=aG Tryz.f11) (lt:=FK) (aD WG trivial) X5
def gI(x:aH []):Option (aH [.bool]):=some (true,())
theorem YZ:∀ x,zS x=gI x:=by
 rintro⟨⟩
 kernel_rfl
theorem aBV:eX tP 11 _ _ gI:=by
 have h:zS=gI:=funext YZ;rw[<- h];exact aBU
abbrev O6:Ent:=⟨11,_,_,gI⟩
theorem Y8:Ent.OK tP O6:=aBV
end Go.PM
namespace Go.PM
open Go Go.RowKit Go.Proofs Go.Lz
theorem R6 {α:Type}(z:α):∀ {a b:List α},a.length=b.length->a≠b->∃ x,x<a.length/\(∀ y,y<x->a.getD y z=b.getD y z)/\a.getD x z≠b.getD x z
 | [],[],_,h=>absurd rfl h
 | [],_::_,h,_=>by simp at h
 | _::_,[],h,_=>by simp at h
 | s::a,t::b,hl,h=>by
  by_cases e:s=t
  ·subst e;obtain⟨x,h1,h2,h3⟩:=R6 z (a:=a) (b:=b) (by simpa using hl) (λe=>h (by rw[e]));refine⟨x+1,by simpa using h1,λy hy=>?_,by simpa using h3⟩;cases y with
   | zero=>rfl
   | succ y=>simpa using h2 y (by omega)
  ·exact⟨0,by simp,λy hy=>by omega,by simpa using e⟩
theorem aR7(a b:List Int)(ha:a.length<1048576):dF (a,b,())=some (decide (a=b),()):=by
 by_cases hl:a.length=b.length
 ·have e0:eqI (a.length:Int) (b.length:Int)=true:=by rw[jZ]; exact oT (by omega)
  have step:∀ t,t<a.length->∀ c,decide (a.getD t 0=b.getD t 0)=c->eN (a,b,(a.length:Int),(t:Int),())=(bif c then some (.inl (a,b,(a.length:Int),((t+1:Nat):Int),())) else some (.inr (.inl (false,())))):=λt ht c hc=>by
   have e1:ltI (t:Int) (a.length:Int)=true:=by rw[aF]; exact oT (by omega)
   have e2:aI (t:Int) a.length=true:=by rw[aP]; exact oT (by omega)
   have e3:aI (t:Int) b.length=true:=by rw[aP]; exact oT (by omega)
   have e4:((t:Nat):Int).toNat=t:=oN _;have e5:=cS t (by omega);simp only[eN,e1,e2,e3,e4,e5,oC,jZ,hc];cases c <;> rfl
  by_cases he:a=b
  ·subst he;have key:=bF (step:=eN) (N:=2^64) (λt=>(a,a,(a.length:Int),(t:Int),())) a.length (.inr ()) (by omega) (λt ht=>step t ht true (by simp)) (by
    have e1:ltI (a.length:Int) (a.length:Int)=false:=by rw[aF]; exact oF (by omega)
    simp only[eN,e1,oD])
   have key:jC (a,a,(a.length:Int),0,())=_:=key;simp only[dF,e0,Bool.not_true,oD,key,aE,nQ,decide_true]
  ·obtain⟨x,h1,h2,h3⟩:=R6 0 hl he;have key:=bF (step:=eN) (N:=2^64) (λt=>(a,b,(a.length:Int),(t:Int),())) x (.inl (false,())) (by omega) (λt ht=>step t (by omega) true (oT (h2 t ht))) (step x h1 false (oF h3));have key:jC (a,b,(a.length:Int),0,())=_:=key;simp only[dF,e0,Bool.not_true,oD,key,aE,FY,oF he]
 ·have e0:eqI (a.length:Int) (b.length:Int)=false:=by rw[jZ]; exact oF (by omega)
  have he:¬ a=b:=λe=>hl (by rw[e])
  simp only[dF,e0,Bool.not_false,oC,oF he]
theorem aUL(a b:List Int)(ha:a.length<1048576):dR (a,b,())=some (decide (a=b),()):=by
 by_cases hl:a.length=b.length
 ·have e0:eqI (a.length:Int) (b.length:Int)=true:=by rw[jZ]; exact oT (by omega)
  have step:∀ t,t<a.length->∀ c,decide (a.getD t 0=b.getD t 0)=c->dK (a,b,(a.length:Int),(t:Int),())=(bif c then some (.inl (a,b,(a.length:Int),((t+1:Nat):Int),())) else some (.inr (.inl (false,())))):=λt ht c hc=>by
   have e1:ltI (t:Int) (a.length:Int)=true:=by rw[aF]; exact oT (by omega)
   have e2:aI (t:Int) a.length=true:=by rw[aP]; exact oT (by omega)
   have e3:aI (t:Int) b.length=true:=by rw[aP]; exact oT (by omega)
   have e4:((t:Nat):Int).toNat=t:=oN _;have e5:=cS t (by omega);simp only[dK,e1,e2,e3,e4,e5,oC,jZ,hc];cases c <;> rfl
  by_cases he:a=b
  ·subst he;have key:=bF (step:=dK) (N:=2^64) (λt=>(a,a,(a.length:Int),(t:Int),())) a.length (.inr ()) (by omega) (λt ht=>step t ht true (by simp)) (by
    have e1:ltI (a.length:Int) (a.length:Int)=false:=by rw[aF]; exact oF (by omega)
    simp only[dK,e1,oD])
   have key:gM (a,a,(a.length:Int),0,())=_:=key;simp only[dR,e0,Bool.not_true,oD,key,aE,nQ,decide_true]
  ·obtain⟨x,h1,h2,h3⟩:=R6 0 hl he;have key:=bF (step:=dK) (N:=2^64) (λt=>(a,b,(a.length:Int),(t:Int),())) x (.inl (false,())) (by omega) (λt ht=>step t (by omega) true (oT (h2 t ht))) (step x h1 false (oF h3));have key:gM (a,b,(a.length:Int),0,())=_:=key;simp only[dR,e0,Bool.not_true,oD,key,aE,FY,oF he]
 ·have e0:eqI (a.length:Int) (b.length:Int)=false:=by rw[jZ]; exact oF (by omega)
  have he:¬ a=b:=λe=>hl (by rw[e])
  simp only[dR,e0,Bool.not_false,oC,oF he]
theorem aVE(a b:List (List Int))(ha:a.length<1048576)(hr:∀ r∈a,r.length<1048576):aZ (a,b,(),())=some (decide (a=b),()):=by
 by_cases hl:a.length=b.length
 ·have e0:eqI (a.length:Int) (b.length:Int)=true:=by rw[jZ]; exact oT (by omega)
  have step:∀ t,t<a.length->∀ c,decide (a.getD t []=b.getD t [])=c->aS (b,(),a,(a.length:Int),(t:Int),())=(bif c then some (.inl (b,(),a,(a.length:Int),((t+1:Nat):Int),())) else some (.inr (.inl (false,())))):=λt ht c hc=>by
   have e1:ltI (t:Int) (a.length:Int)=true:=by rw[aF]; exact oT (by omega)
   have e2:aI (t:Int) a.length=true:=by rw[aP]; exact oT (by omega)
   have e3:aI (t:Int) b.length=true:=by rw[aP]; exact oT (by omega)
   have e4:((t:Nat):Int).toNat=t:=oN _;have e5:=cS t (by omega);have e6:(a.getD t []).length<1048576:=by
    have:a.getD t []=a[t]:=by simp[List.getD,ht]
    rw[this]; exact hr _ (List.getElem_mem ht)
   have e7:=aR7 (a.getD t []) (b.getD t []) e6;simp only[aS,e1,e2,e3,e4,e5,oC,XV,e7,aE,hc]
  by_cases he:a=b
  ·subst he;have key:=bF (step:=aS) (N:=2^64) (λt=>(a,(),a,(a.length:Int),(t:Int),())) a.length (.inr ()) (by omega) (λt ht=>step t ht true (by simp)) (by
    have e1:ltI (a.length:Int) (a.length:Int)=false:=by rw[aF]; exact oF (by omega)
    simp only[aS,e1,oD])
   have key:bL (a,(),a,(a.length:Int),0,())=_:=key;simp only[aZ,e0,Bool.not_true,oD,key,aE,nQ,decide_true]
  ·obtain⟨x,h1,h2,h3⟩:=R6 [] hl he;have key:=bF (step:=aS) (N:=2^64) (λt=>(b,(),a,(a.length:Int),(t:Int),())) x (.inl (false,())) (by omega) (λt ht=>step t (by omega) true (oT (h2 t ht))) (step x h1 false (oF h3));have key:bL (b,(),a,(a.length:Int),0,())=_:=key;simp only[aZ,e0,Bool.not_true,oD,key,aE,FY,oF he]
 ·have e0:eqI (a.length:Int) (b.length:Int)=false:=by rw[jZ]; exact oF (by omega)
  have he:¬ a=b:=λe=>hl (by rw[e])
  simp only[aZ,e0,Bool.not_false,oC,oF he]
theorem aVZ(a b:List (List Int))(ha:a.length<1048576)(hr:∀ r∈a,r.length<1048576):aY (a,b,(),())=some (decide (a=b),()):=by
 by_cases hl:a.length=b.length
 ·have e0:eqI (a.length:Int) (b.length:Int)=true:=by rw[jZ]; exact oT (by omega)
  have step:∀ t,t<a.length->∀ c,decide (a.getD t []=b.getD t [])=c->aR (b,(),a,(a.length:Int),(t:Int),())=(bif c then some (.inl (b,(),a,(a.length:Int),((t+1:Nat):Int),())) else some (.inr (.inl (false,())))):=λt ht c hc=>by
   have e1:ltI (t:Int) (a.length:Int)=true:=by rw[aF]; exact oT (by omega)
   have e2:aI (t:Int) a.length=true:=by rw[aP]; exact oT (by omega)
   have e3:aI (t:Int) b.length=true:=by rw[aP]; exact oT (by omega)
   have e4:((t:Nat):Int).toNat=t:=oN _;have e5:=cS t (by omega);have e6:(a.getD t []).length<1048576:=by
    have:a.getD t []=a[t]:=by simp[List.getD,ht]
    rw[this]; exact hr _ (List.getElem_mem ht)
   have e7:=aR7 (a.getD t []) (b.getD t []) e6;simp only[aR,e1,e2,e3,e4,e5,oC,zU,e7,aE,hc]
  by_cases he:a=b
  ·subst he;have key:=bF (step:=aR) (N:=2^64) (λt=>(a,(),a,(a.length:Int),(t:Int),())) a.length (.inr ()) (by omega) (λt ht=>step t ht true (by simp)) (by
    have e1:ltI (a.length:Int) (a.length:Int)=false:=by rw[aF]; exact oF (by omega)
    simp only[aR,e1,oD])
   have key:bP (a,(),a,(a.length:Int),0,())=_:=key;simp only[aY,e0,Bool.not_true,oD,key,aE,nQ,decide_true]
  ·obtain⟨x,h1,h2,h3⟩:=R6 [] hl he;have key:=bF (step:=aR) (N:=2^64) (λt=>(b,(),a,(a.length:Int),(t:Int),())) x (.inl (false,())) (by omega) (λt ht=>step t (by omega) true (oT (h2 t ht))) (step x h1 false (oF h3));have key:bP (b,(),a,(a.length:Int),0,())=_:=key;simp only[aY,e0,Bool.not_true,oD,key,aE,FY,oF he]
 ·have e0:eqI (a.length:Int) (b.length:Int)=false:=by rw[jZ]; exact oF (by omega)
  have he:¬ a=b:=λe=>hl (by rw[e])
  simp only[aY,e0,Bool.not_false,oC,oF he]
theorem aQG(n n':Int)(a b:List (List Int))(ha:a.length<1048576)(hr:∀ r∈a,r.length<1048576):AZ ((n,a),(n',b),())=some (decide (n=n')&&decide (a=b),()):=by
 by_cases h:n=n'
 ·subst h;have e0:eqI n n=true:=by rw[jZ]; exact oT rfl
  simp only[AZ,e0,oC,aVE a b ha hr,aE,decide_true,Bool.true_and]
 ·have e0:eqI n n'=false:=by rw[jZ]; exact oF h
  simp only[AZ,e0,oD,h,decide_false,Bool.false_and]
theorem a74(a b:List (List Int))(ha:a.length<1048576)(hr:∀ r∈a,r.length<1048576):yG (a,b,())=some (decide (a=b),()):=by simp only[yG,aVZ a b ha hr,aE]
end Go.PM
namespace Go.Lz
theorem l8.back {n m k k2:Nat}{A K K2:Nat->V}(hA:∀ i,i<m->∀ c,n<=c->A i c=0)(h1:l8 n m A k K)(h2:l8 n k K k2 K2):l8 n k2 K2 k K:=by
 intro y;rw[h1];constructor
 ·intro g;refine⟨g.1,λx hx=>?_⟩;have:=((h2 _).1 (Sp.mem hx));rw[pL];exact this.span ((h1 y).2 g)
 ·rintro⟨g1,g2⟩;refine⟨g1,λx hx=>?_⟩;have:Sp k2 K2 (A x):=(h2 _).2 ⟨hA x hx,λz hz=>by rw[pL]; exact((h1 _).1 (Sp.mem hz)).2 x hx⟩;exact Ker.span ⟨g1,g2⟩ this
theorem l8.of_same {n m m' k:Nat}{A A' K:Nat->V}(h:Same m A m' A')(h1:l8 n m A k K):l8 n m' A' k K:=λy=>(h1 y).trans (Ker.same h)
end Go.Lz
namespace Go.PM
open Go Go.RowKit Go.Proofs Go.Lz
structure RT (ps:List Int) (n d r:Nat) (C K:Nat->V):Prop where
 pr:o8 (ps,())=some (0,())
 len:ps.length=n
 n4:n<=4
 hc:∃ q,Hn d C q
 hk:∃ p,Hn r K p
 wc:Wd d n C
 wk:Wd r n K
 bc:Big d n C 1000000000
 bk:Big r n K 1000000000
 ker:l8 n d C r K
 ker2:l8 n r K d C
theorem a5C {d n:Nat}{M:Nat->V}(hn:n<=4):∀ r∈Mr d n M,r.length<1048576:=λr hr=>by
 obtain⟨i,_,rfl⟩:=aE5 hr;rw[xP]; omega
theorem RT.check {ps:List Int}{n d r:Nat}{C K:Nat->V}(h:RT ps n d r C K):gC ((ps,(Mr d n C,Mr r n K)),())=some (0,()):=by
 obtain⟨q,hc⟩:=h.hc;obtain⟨p,hk⟩:=h.hk;have n4:=h.n4;have d4:=(Hn.jY hc h.wc).1;have r4:=(Hn.jY hk h.wk).1;have e0:eqI 0 0=true:=by decide
 have e1:((ps.length:Nat):Int)=(n:Int):=by rw[h.len]
 have s1:=aCF hc n4 h.wc h.bc h.ker hc h.ker2 h.bc;have s2:=RU hc n4 h.wc h.bc hk h.ker h.bk;have s3:=RJ hc h.wc (by omega) (by omega) h.bc;have s4:=aQG (n:Int) (n:Int) (Mr d n C) (Mr d n C) (by rw[fN]; omega) (a5C n4);have s5:=a74 (Mr r n K) (Mr r n K) (by rw[fN]; omega) (a5C n4);simp only[decide_true,Bool.and_self]at s4 s5;simp only[gC,h.pr,aE,e0,Bool.not_true,oD,e1,s3,s1,s4,oC,s2,s5]
def L12:List (List Int):=[[2,3,5],[2,3,5,7],[2,3],[2,3,7],[2,5,7],[3,5,7],[2,3,5,11],[2],[2,3,7,13],[3,5,7,13]]
theorem bAQ:∀ i,i<10->o8 (L12.getD i [],())=some (0,())/\(L12.getD i []).length<=4:=by
 intro i hi;rcases(show i=0\/i=1\/i=2\/i=3\/i=4\/i=5\/i=6\/i=7\/i=8\/i=9 by omega)with rfl|rfl|rfl|rfl|rfl|rfl|rfl|rfl|rfl|rfl
 all_goals exact⟨by kernel_rfl,by decide⟩
theorem a3J(v:Int)(h0:0<=v)(h1:v<256):yK (v,())=some (L12.getD (v%10).toNat [],()):=by
 have e1:IntKind.wrap .i64 v=v:=XX (by omega) (by omega);have e2:v.tmod 10=v%10:=Int.tmod_eq_emod_of_nonneg h0;have e3:aI (v%10) 10=true:=by rw[aP]; exact oT (by omega)
 have e4:eqI 10 0=false:=by decide
 have hl:(L12.length:Int)=10:=by decide
 have hl2:L12.length=10:=by decide
 show (bif eqI (L12.length:Int) 0 then none else bif aI ((IntKind.wrap .i64 v).tmod (L12.length:Int)) L12.length then some ((L12.getD (((IntKind.wrap .i64 v).tmod (L12.length:Int)).toNat) []),()) else none)=_;rw[e1,hl,e2,hl2,e4,e3];rfl
def OY(t:Int×Int×Int×Int):Nat->Int
 | 0=>t.1
 | 1=>t.2.1
 | 2=>t.2.2.1
 | _=>t.2.2.2
def I8(t:Int×Int×Int×Int):Prop:=∀ i,i<4->-128<=OY t i/\OY t i<128
theorem aV0(ps:List Int)(hl:ps.length<=4)(t:Int×Int×Int×Int)(ht:I8 t):qO (ps,t,())=some ((List.range ps.length).map (λi=>(OY t i).tmod 10),()):=by
 have w0:IntKind.wrap .i64 t.1=t.1:=XX (by have:=ht 0 (by omega); simp only[OY]at this; omega) (by have:=ht 0 (by omega); simp only[OY]at this; omega);have w1:IntKind.wrap .i64 t.2.1=t.2.1:=XX (by have:=ht 1 (by omega); simp only[OY]at this; omega) (by have:=ht 1 (by omega); simp only[OY]at this; omega);have w2:IntKind.wrap .i64 t.2.2.1=t.2.2.1:=XX (by have:=ht 2 (by omega); simp only[OY]at this; omega) (by have:=ht 2 (by omega); simp only[OY]at this; omega)
 have w3:IntKind.wrap .i64 t.2.2.2=t.2.2.2:=XX (by have:=ht 3 (by omega); simp only[OY]at this; omega) (by have:=ht 3 (by omega); simp only[OY]at this; omega);have key:=bF (step:=l5) (N:=2^64) (λs=>(ps,(t.1,(t.2.1,(t.2.2.1,t.2.2.2))),(List.range s).map (λi=>(OY t i).tmod 10),(s:Int),())) ps.length ((List.range ps.length).map (λi=>(OY t i).tmod 10),()) (by omega) (λs hs=>?_) ?_
 ·have key:qF (ps,(t.1,(t.2.1,(t.2.2.1,t.2.2.2))),[],0,())=_:=key;simp only[qO,key,aE]
 ·have e1:ltI (s:Int) (ps.length:Int)=true:=by rw[aF]; exact oT (by omega)
  have e2:ltI (s:Int) 4=true:=by rw[aF]; exact oT (by omega)
  have e3:=cS s (by omega);have e4:∀ x:Int,Nat.ble [x].length 1048576=true:=λ_=>rfl
  have e5:Nat.ble ((List.range s).map (λi=>(OY t i).tmod 10)).length 1048576=true:=by rw[eI,List.length_map,List.length_range]; exact oT (by omega)
  have e6:(List.range (s+1)).map (λi=>(OY t i).tmod 10)=(List.range s).map (λi=>(OY t i).tmod 10)++[(OY t s).tmod 10]:=by rw[List.range_succ,List.map_append]; rfl
  simp only[l5,e1,e2,oC,e4,e5,w0,w1,w2,w3,e3,e6];rcases(show s=0\/s=1\/s=2\/s=3 by omega)with rfl|rfl|rfl|rfl <;> rfl
 ·have e1:ltI (ps.length:Int) (ps.length:Int)=false:=by rw[aF]; exact oF (by omega)
  simp only[l5,e1,oD]
theorem a4O {n:Nat} {u v:V} {q:Int} (hn:n<1048576) (ok:aNW n u v q):SQ (t:=.str) kE (Zr n u) (Zn q,Zr n v,())=some (Zr n λx=>u x-q*v x):=by
 have hl:=fM n u;have main:kE () ((0,0,n),Zn q,Zr n v,()) [Zr n u]=some ((),[Zr n λx=>u x-q*v x]):=by
  unfold kE;simp only[HV]
  by_cases hq:q=0
  ·subst hq;simp only[decide_true,oC];have:Zr n (λx=>u x-0*v x)=Zr n u:=MR λi _=>by simp
   rw[this]
  ·have key:=bF (step:=kS) (N:=2^64)
    (λt=>((0,0,n),Zn q,Zr n v,(n:Int),(t:Int),[Zr n λx=>if x<t then u x-q*v x else u x],())) n ([Zr n λx=>u x-q*v x],()) (by omega) (λt ht=>?_) ?_
   ·have h0:Zr n (λx=>if x<0 then u x-q*v x else u x)=Zr n u:=MR λi _=>by simp
    simp only[h0]at key;have key:cE kS (2^64) ((0,0,n),Zn q,Zr n v,(n:Int),0,[Zr n u],())=_:=key;simp only[hq,decide_false,oD,rK,fM,key,aE]
   ·have e1:ltI (t:Int) (n:Int)=true:=by rw[aF]; exact oT (by omega)
    have e2:aI (t:Int) n=true:=by rw[aP]; exact oT (by omega)
    have e3:(0+t)*1=t:=by omega
    have e3':((t:Nat):Int).toNat=t:=oN _;have e4:dJ [Zr n λx=>if x<t then u x-q*v x else u x] 0=n:=by
     show (Zr n _).length=n;exact fM _ _
    have e6:Nat.blt t n=true:=by rw[cP]; simpa using ht
    have e7:eD [Zr n λx=>if x<t then u x-q*v x else u x] 0 t ByteArray.empty=Zn (u t):=by
     show (Zr n _).getD t _=_;rw[RQ _ ht]; simp
    have e9:vK [Zr n λx=>if x<t then u x-q*v x else u x] 0 t (Zn (u t-q*v t))=[Zr n λx=>if x<t+1 then u x-q*v x else u x]:=by
     show [(Zr n _).set t _]=_;rw[aZT u (λx=>u x-q*v x) t ht]
    have m1:=aN7 q (v t) (ok.mul t ht);have m2:=aOI (u t) (q*v t) (ok.sub t ht) (by rw[Int.natAbs_mul]; exact Nat.le_trans (aKY _ _) (ok.mul t ht));have e10:=cS t (by omega);simp only[kS,e1,oC,e2,e3',e3,e6,e4,e7,fM,RQ v ht,m1,aE,m2,e9,e10]
   ·have e1:ltI (n:Int) (n:Int)=false:=by rw[aF]; exact oF (by omega)
    have:Zr n (λx=>if x<n then u x-q*v x else u x)=Zr n λx=>u x-q*v x:=MR λi hi=>by simp[hi]
    simp only[kS,e1,oD,this]
 have e1:Nat.beq (Zr n λx=>u x-q*v x).length (Zr n u).length=true:=by
  have hbb:∀ a:Nat,Nat.beq a a=true:=λa=>by
   induction a with
   | zero=>rfl
   | succ a ih=>exact ih
  rw[fM,fM];exact hbb n
 unfold SQ;rw[hl,main];simp only[hl,fM]at e1 ⊢;rw[e1]; rfl
def red(M:Nat->V) (p:Nat->Nat):Nat->V->V
 | 0,u=>u
 | t+1,u=>λx=>red M p t u x-(red M p t u (p t)).fdiv (M t (p t))*M t x
def quo(M:Nat->V)(p:Nat->Nat)(t:Nat)(u:V):Int:=(red M p t u (p t)).fdiv (M t (p t))
section
variable {d n:Nat} {M:Nat->V} {p:Nat->Nat}
theorem aXJ(h:Hn d M p)(u:V):∀ t,t<=d->Sp d M (λx=>u x-red M p t u x)
 | 0,_=>by
  refine cast (congrArg _ ?_) Sp.zero
  funext x; simp[red]
 | t+1,ht=>by
  have:=Sp.comb (quo M p t u) (aXJ h u t (by omega)) (Sp.mem (M:=M) (show t<d by omega));refine cast (congrArg _ ?_) this
  funext x
  simp only[red,quo];grind
theorem a4S(h:Hn d M p)(u:V):∀ t,t<=d->∀ i,i<t->0<=red M p t u (p i)/\red M p t u (p i)<M i (p i)
 | 0,_,i,hi=>by omega
 | t+1,ht,i,hi=>by
  by_cases e:i=t
  ·subst e;simp only[red];rw[aHF];have hp:=h.pos i (by omega);exact⟨Int.fmod_nonneg_of_pos _ hp,Int.fmod_lt_of_pos _ hp⟩
  ·have hlow:=h.low t (by omega) (p i) (h.inc i t (by omega) (by omega));simp only[red,hlow,Int.mul_zero,Int.sub_zero];exact a4S h u t (by omega) i (by omega)
theorem aU6(hw:∀ i,i<d->∀ x,n<=x->M i x=0){u:V}(hu:∀ x,n<=x->u x=0):∀ t,t<=d->∀ x,n<=x->red M p t u x=0
 | 0,_,x,hx=>hu x hx
 | t+1,ht,x,hx=>by simp only[red,aU6 hw hu t (by omega) x hx,hw t (by omega) x hx,Int.mul_zero,Int.sub_zero]
structure Rds (d n:Nat) (M:Nat->V) (B:Nat) (U:Nat->Nat):Prop where
 row:∀ i,i<d->∀ x,x<n->(M i x).natAbs<=B
 up:∀ t,t<d->U t+(U t+1)*B<=U (t+1)
 fit:∀ t,t<d->Lib.nDigits (U t+1)+Lib.nDigits B<=uD
theorem a0Q {B:Nat}{U:Nat->Nat}(h:Hn d M p)(hw:∀ i,i<d->∀ x,n<=x->M i x=0)(hb:Rds d n M B U){u:V}(hu:∀ x,x<n->(u x).natAbs<=U 0):∀ t,t<=d->∀ x,x<n->(red M p t u x).natAbs<=U t
 | 0,_,x,hx=>hu x hx
 | t+1,ht,x,hx=>by
  have h1:=a0Q h hw hb hu t (by omega);have hpos:=h.pos t (by omega);have hp:=Hn.aJV h hw (show t<d by omega);have h2:=aGL (h1 (p t) hp) (show M t (p t)≠0 by omega);have h3:(red M p t u (p t)).fdiv (M t (p t))*M t x=(red M p t u (p t)).fdiv (M t (p t))*M t x:=rfl;have h4:((red M p t u (p t)).fdiv (M t (p t))*M t x).natAbs=((red M p t u (p t)).fdiv (M t (p t))).natAbs*(M t x).natAbs:=Int.natAbs_mul _ _
  have h5:((red M p t u (p t)).fdiv (M t (p t))).natAbs*(M t x).natAbs<=(U t+1)*B:=Nat.mul_le_mul h2 (hb.row t (by omega) x hx);have h6:=hb.up t (by omega);have h7:=h1 x hx;simp only[red];omega
end
theorem aFM(r:List Int)(hl:r.length<=1048576)(hr:∀ a∈r,-9223372036854775808<=a/\a<9223372036854775808):nK (r,())=some (r.map Zn,()):=by
 have e1:ltI (r.length:Int) 0=false:=by rw[aF]; exact oF (by omega)
 have e2:ltI 1048576 (r.length:Int)=false:=by rw[aF]; exact oF (by omega)
 have key:wQ ([],r,(r.length:Int),0,())=some (r.map Zn,()):=aKK r hl hr;unfold nK;simp only[e1,e2,Bool.not_false,oC,List.replicate_zero,key,aE]
theorem aDC(n:Nat)(v:V):(Vr n v).map Zn=Zr n v:=by simp[Vr,Zr]
section
variable {d n:Nat} {M:Nat->V} {p:Nat->Nat}
theorem aRW(h:Hn d M p)(hw:∀ i,i<d->∀ x,n<=x->M i x=0)(hn:n<1048576)(hM:∀ i,i<d->∀ x,x<n->(M i x).natAbs<=1000000000):∀ l:List Nat,(∀ i∈l,i<d) ->
  aMP (l.map λi=>Vr n (M i))=some (l.map λi=>((p i:Int),Zr n (M i),()))
 | [],_=>rfl
 | i::l,hl=>by
  have hi:=hl i (by simp);have e1:=aFM (Vr n (M i)) (by rw[xP]; omega) (λa ha=>by have:=aA0 (hM i hi) a ha; omega);rw[aDC]at e1;have e2:=a02 hn (Hn.aJV h hw hi) (h.low i hi) (by have:=h.pos i hi; omega);have e3:=aRW h hw hn hM l (λj hj=>hl j (by simp[hj]));simp only[List.map_cons,aMP,e1,aE,e2,e3]
theorem aYR(h:Hn d M p)(hw:∀ i,i<d->∀ x,n<=x->M i x=0)(hn:n<1048576)(hd:d<1048576)(hM:∀ i,i<d->∀ x,x<n->(M i x).natAbs<=1000000000) :
  aIS (((n:Int),Mr d n M),())=some ((List.range d).map λi=>((p i:Int),Zr n (M i),())):=by
 have e1:Nat.ble (Mr d n M).length 1048576=true:=by rw[eI,fN]; exact oT (by omega)
 simp only[aIS,e1,oC];exact aRW h hw hn hM (List.range d) λi hi=>List.mem_range.1 hi
theorem aJ9 {B:Nat} {U:Nat->Nat} (h:Hn d M p) (hw:∀ i,i<d->∀ x,n<=x->M i x=0) (hn:n<1048576) (hd:d<1048576) (hb:Rds d n M B U) {u:V} (hu:∀ x,x<n->(u x).natAbs<=U 0) (c:SO [(.prod (.int .i64) (.list (.list (.int .i64))))]):∀ (j t:Nat),t+j=d->∀ (q:List ByteArray),q.length=t ->
  ∃ q',aF7 lC (a98 dA gB) ((List.range' t j).map λi=>((p i:Int),Zr n (M i),())) (Zr n (red M p t u),q,c,())=some (Zr n (red M p d u),q',())
 | 0,t,ht,q,_=>by
  have:t=d:=by omega
  subst this;exact⟨q,rfl⟩
 | j+1,t,ht,q,hq=>by
  have htd:t<d:=by omega
  have hpos:=h.pos t htd;have hp:=Hn.aJV h hw htd;have hR:=a0Q h hw hb hu t (by omega);have f:=hb.fit t htd;have hdm:uD=400000:=rfl;have g1:Lib.nDigits (red M p t u (p t)).natAbs<=399999:=by
   have h1:=pG (show (red M p t u (p t)).natAbs<=U t+1 from Nat.le_succ_of_le (hR (p t) hp));have h2:=nDigits_pos B;omega
  have g2:Lib.nDigits (M t (p t)).natAbs<=399999:=by
   have h1:=pG (hb.row t htd (p t) hp);have h2:=nDigits_pos (U t+1);omega
  have e0:((p t:Nat):Int).toNat=p t:=oN _;have e1:aI (p t:Int) n=true:=by rw[aP]; exact oT (by omega)
  have e2:Nat.blt (p t) n=true:=by rw[cP]; simpa using hp
  have e3:=UQ (red M p t u (p t)) (M t (p t)) (by omega) (by omega) (show M t (p t)≠0 by omega);have hq1:=aGL (hR (p t) hp) (show M t (p t)≠0 by omega);have e4:=a4O (n:=n) (u:=red M p t u) (v:=M t) (q:=(red M p t u (p t)).fdiv (M t (p t))) hn ⟨λi hi=>by
    have h1:=pG hq1;have h2:=pG (hb.row t htd i hi);omega,λi hi=>by
    have h1:=pG (show (red M p t u i).natAbs<=U t+1 from Nat.le_succ_of_le (hR i hi));omega⟩
  have e5:Nat.ble [Zn ((red M p t u (p t)).fdiv (M t (p t)))].length 1048576=true:=rfl;have e6:Nat.ble q.length 1048576=true:=by rw[eI,hq]; exact oT (by omega)
  obtain⟨c1,⟨⟩⟩:=c;obtain⟨q',hq'⟩:=aJ9 h hw hn hd hb hu ((c1.1,c1.2),()) j (t+1) (by omega) (q++[Zn ((red M p t u (p t)).fdiv (M t (p t)))]) (by simp[hq]);refine⟨q',?_⟩;rw[List.range'_succ,List.map_cons,aF7];have hs:lC (Zr n (red M p t u),q,(c1,()),()) ((p t:Int),Zr n (M t),())=some (.inl (Zr n (red M p (t+1) u),q++[Zn ((red M p t u (p t)).fdiv (M t (p t)))],((c1.1,c1.2),()),())):=by
   have e7:(Zr n λx=>red M p t u x-(red M p t u (p t)).fdiv (M t (p t))*M t x)=Zr n (red M p (t+1) u):=rfl;rw[e7]at e4;simp only[lC,fM,e0,e1,e2,RQ _ hp,e3,aE,e4,e5,e6,oC]
  rw[hs];exact hq'
theorem a3C {B:Nat}{U:Nat->Nat}(h:Hn d M p)(hw:∀ i,i<d->∀ x,n<=x->M i x=0)(hn:n<=12)(hd:d<=12)(hM:∀ i,i<d->∀ x,x<n->(M i x).natAbs<=1000000000)(hb:Rds d n M B U)(r:List Int)(hl:r.length=n)(hr:∀ a∈r,a.natAbs<=U 0)(hU:U 0<=1000000000) :
  ∃ q,mL (((n:Int),Mr d n M),r,())=some (Zr n (red M p d (HN r)),q,()):=by
 have hu:∀ x,x<n->(HN r x).natAbs<=U 0:=λx hx=>by
  unfold HN;have:r.getD x 0=r[x]'(by omega):=by simp[List.getD,show x<r.length by omega]
  rw[this];exact hr _ (List.getElem_mem _)
 have e1:=aC9 r (by omega) (λa ha=>by have:=hr a ha; omega);have e2:r.map Zn=Zr n (HN r):=by rw[<- hl,a09]
 rw[e2]at e1;obtain⟨q,hq⟩:=aJ9 h hw (by omega) (by omega) hb hu (((n:Int),Mr d n M),()) d 0 (by omega) [] rfl;rw[<- List.range_eq_range']at hq;refine⟨q,?_⟩;have e3:=aYR h hw (by omega) (by omega) hM;have e4:lM (Zr n (HN r),[],(((n:Int),Mr d n M),()),())=some (Zr n (red M p d (HN r)),q,()):=by
  unfold lM a6N;simp only[uS,e3];exact hq
 simp only[mL,e1,aE,tL,e4]
end
theorem a2Q {n:Nat}{v:V}(hn:n<1048576)(hz:∀ x,x<n->v x=0):k9 (Zr n v,())=some (-1,()):=by
 have hl:=fM n v;have key:=bF (step:=aT) (N:=2^64) (λt=>(Zr n v,(),(n:Int),(t:Int),())) n (.inr ()) (by omega) (λt ht=>?_) ?_
 ·have key:cE aT (2^64) (Zr n v,(),(n:Int),0,())=some (.inr ()):=key;simp only[k9,eO,dI,hl,key,aE,nQ]
 ·have e1:ltI (t:Int) (n:Int)=true:=by rw[aF]; exact oT (by omega)
  have e2:aI (t:Int) n=true:=by rw[aP]; exact oT (by omega)
  have e3:((t:Nat):Int).toNat=t:=oN _;have e4:eqS ((Zr n v).getD t ByteArray.empty) (ByteArray.mk #[48])=true:=by rw[RQ v (by omega),HV]; exact oT (hz t ht)
  have e9:=cS t (by omega);simp only[aT,hl,e1,e2,e3,kH,e4,e9,aE,Bool.not_true,oC,oD]
 ·have e1:ltI (n:Int) (n:Int)=false:=by rw[aF]; exact oF (by omega)
  simp only[aT,hl,e1,oD]
theorem bAC {d n:Nat}{M:Nat->V}(hd:d<=12)(hM:Big d n M 1000000000):Rds d n M 1000000000 (λt=>10^(9+10*t)):=by
 refine⟨hM,λt ht=>?_,λt ht=>?_⟩
 ·show 10^(9+10*t)+(10^(9+10*t)+1)*1000000000<=10^(9+10*(t+1));rw[show 9+10*(t+1)=(9+10*t)+10 by omega,Nat.pow_add 10 (9+10*t) 10];have h1:(10^10:Nat)=10000000000:=by decide
  have h2:(1:Nat)<=10^(9+10*t):=Nat.pow_pos (by decide);rw[h1];generalize (10^(9+10*t):Nat)=a at h2 ⊢;omega
 ·have h1:(10^(9+10*t)+1:Nat)<10^(9+10*t+1):=by
   rw[Nat.pow_succ];have:0<10^(9+10*t):=Nat.pow_pos (by decide);omega
  have h2:=CS h1;have h3:=CS (u:=1000000000) (k:=9) (by decide);have h4:uD=400000:=rfl;omega
section
variable {d n:Nat} {M:Nat->V} {p:Nat->Nat}
theorem has_eq(h:Hn d M p)(hn:n<=12)(hw:Wd d n M)(hM:Big d n M 1000000000)(r:List Int)(hl:r.length=n)(hr:∀ a∈r,a.natAbs<=1000000000) :
  ∃ b,pT (((n:Int),Mr d n M),r,())=some (b,())/\(b=true↔Sp d M (HN r)):=by
 have hd:=(Hn.jY h hw).1;have hb:=bAC (d:=d) (by omega) hM;obtain⟨q,e1⟩:=a3C h hw hn (by omega) hM hb r hl hr (by decide);have hsp:=aXJ h (HN r) d (Nat.le_refl _);have hat:=a4S h (HN r) d (Nat.le_refl _);have hwr:∀ x,n<=x->HN r x=0:=λx hx=>by
  unfold HN;simp[List.getD,List.getElem?_eq_none (show r.length<=x by omega)]
 have hwd:=aU6 (p:=p) hw hwr d (Nat.le_refl _)
 by_cases hz:∀ x,x<n->red M p d (HN r) x=0
 ·refine⟨true,?_,⟨λ_=>?_,λ_=>rfl⟩⟩
  ·have e2:ltI (-1) 0=true:=by decide
   simp only[pT,e1,aE,a2Q (by omega) hz,e2]
  ·refine cast (congrArg _ ?_) hsp
   funext x
   rcases Nat.lt_or_ge x n with hx|hx
   ·rw[hz x hx,Int.sub_zero]
   ·rw[hwd x hx,Int.sub_zero]
 ·obtain⟨x,hx1,hx2,hx3⟩:∃ x,x<n/\red M p d (HN r) x≠0/\∀ y,y<x->red M p d (HN r) y=0:=by
   obtain⟨x0,h1⟩:=Classical.not_forall.1 hz;obtain⟨h1,h2⟩:=Classical.not_imp.1 h1;have:∀ N x0,x0<N->x0<n->red M p d (HN r) x0≠0->∃ x,x<n/\red M p d (HN r) x≠0/\∀ y,y<x->red M p d (HN r) y=0:=by
    intro N
    induction N with
    | zero=>intro x0 h; omega
    | succ N ih =>
     intro x0 h0 h1 h2
     by_cases hy:∀ y,y<x0->red M p d (HN r) y=0
     ·exact⟨x0,h1,h2,hy⟩
     ·obtain⟨y,g1⟩:=Classical.not_forall.1 hy;obtain⟨g1,g2⟩:=Classical.not_imp.1 g1;exact ih y (by omega) (by omega) g2
   exact this (x0+1) x0 (by omega) h1 h2
  refine⟨false,?_,⟨λh=>(by cases h),λhs=>?_⟩⟩
  ·have e2:ltI (x:Int) 0=false:=by rw[aF]; exact oF (by omega)
   simp only[pT,e1,aE,a02 (by omega) hx1 hx3 hx2,e2]
  ·exfalso;have h1:=Sp.sub hs hsp;have h2:Sp d M (red M p d (HN r)):=by
    refine cast (congrArg _ ?_) h1
    funext y
    omega
   have h3:=h.small h2 λi hi=>by
    have:=hat i hi;have:=h.pos i hi;constructor <;> omega
   exact hx2 (congrFun h3 x)
end
section
variable {d n d':Nat} {A B:Nat->V} {p q:Nat->Nat}
theorem a2C(hA:Hn d A p) (hB:Hn d' B q) (hn:n<=12) (wA:Wd d n A) (wB:Wd d' n B) (bA:Big d n A 1000000000) (bB:Big d' n B 1000000000) :
  ∃ b,xV (((n:Int),Mr d n A),((n:Int),Mr d' n B),())=some (b,0,())/\(b=true↔∀ i,i<d->Sp d' B (A i)):=by
 have hd:=(Hn.jY hA wA).1;have hd':=(Hn.jY hB wB).1;have c1:=RJ hA wA (by omega) hn bA;have c2:=RJ hB wB (by omega) hn bB;have e0:eqI 0 0=true:=by decide
 have en:eqI (n:Int) (n:Int)=true:=by rw[jZ]; exact oT rfl
 have cb:lA (((n:Int),Mr d n A),((n:Int),Mr d' n B),())=some (0,()):=by
  have key:=bF (step:=dY) (N:=2^64) (λt=>(((n:Int),Mr d n A),((n:Int),Mr d' n B),[((n:Int),Mr d n A),((n:Int),Mr d' n B)],2,(t:Int),())) 2 (.inr (((n:Int),Mr d n A),((n:Int),Mr d' n B),())) (by omega) (λt ht=>?_) ?_
  ·have key:p7 (((n:Int),Mr d n A),((n:Int),Mr d' n B),[((n:Int),Mr d n A),((n:Int),Mr d' n B)],([((n:Int),Mr d n A),((n:Int),Mr d' n B)].length:Int),0,())=_:=key;simp only[lA,key,aE,nQ,en,Bool.not_true,oD]
  ·have e1:ltI (t:Int) 2=true:=by rw[aF]; exact oT (by omega)
   have e3:=cS t (by omega);rcases(show t=0\/t=1 by omega)with rfl|rfl
   ·have e2:aI ((0:Nat):Int) 2=true:=by decide
    simp only[dY,e1,oC,e3];show (bif aI ((0:Nat):Int) 2 then aC (jE (((n:Int),Mr d n A),())) _ else none)=_;simp only[e2,oC,c1,aE,e0,Bool.not_true,oD]
   ·have e2:aI ((1:Nat):Int) 2=true:=by decide
    simp only[dY,e1,oC,e3];show (bif aI ((1:Nat):Int) 2 then aC (jE (((n:Int),Mr d' n B),())) _ else none)=_;simp only[e2,oC,c2,aE,e0,Bool.not_true,oD]
  ·have e1:ltI ((2:Nat):Int) 2=false:=by decide
   simp only[dY,e1,oD]
 have hrow:∀ t,t<d->∃ b,sC ((Mr d n A).getD t [],((n:Int),Mr d' n B),())=some (!b,())/\(b=true↔Sp d' B (A t)):=λt ht=>by
  rw[aFD A ht];obtain⟨b,h1,h2⟩:=has_eq hB hn wB bB (Vr n (A t)) (xP _ _) (aA0 λx hx=>bA t ht x hx);rw[a1B λx hx=>wA t ht x hx]at h2;refine⟨b,?_,h2⟩;simp only[sC,h1,aE];cases b <;> rfl
 have step:∀ t,t<d->∀ b,sC ((Mr d n A).getD t [],((n:Int),Mr d' n B),())=some (!b,())->cA (Mr d n A,(((n:Int),Mr d' n B),()),(d:Int),(t:Int),())=(bif b then some (.inl (Mr d n A,(((n:Int),Mr d' n B),()),(d:Int),((t+1:Nat):Int),())) else some (.inr (.inl ((t:Int),())))):=λt ht b hb=>by
  have e1:ltI (t:Int) (d:Int)=true:=by rw[aF]; exact oT (by omega)
  have e2:aI (t:Int) d=true:=by rw[aP]; exact oT (by omega)
  have e3:((t:Nat):Int).toNat=t:=oN _;have e4:=cS t (by omega);simp only[cA,e1,fN,e2,e3,hb,aE,e4,oC];cases b <;> rfl
 have hlen:((Mr d n A).length:Int)=(d:Int):=by rw[fN]
 by_cases hall:∀ i,i<d->Sp d' B (A i)
 ·refine⟨true,?_,⟨λ_=>hall,λ_=>rfl⟩⟩;have key:=bF (step:=cA) (N:=2^64) (λt=>(Mr d n A,(((n:Int),Mr d' n B),()),(d:Int),(t:Int),())) d (.inr ()) (by omega) (λt ht=>by
   obtain⟨b,h1,h2⟩:=hrow t ht;rw[h2.2 (hall t ht)]at h1;exact step t ht true h1) (by
   have e1:ltI (d:Int) (d:Int)=false:=by rw[aF]; exact oF (by omega)
   simp only[cA,e1,oD])
  have key:dO (Mr d n A,(((n:Int),Mr d' n B),()),(d:Int),0,())=_:=key;have e2:ltI (-1) 0=true:=by decide
  simp only[xV,cb,aE,e0,Bool.not_true,oD,eG,fC,hlen,key,nQ,e2]
 ·refine⟨false,?_,⟨λh=>(by cases h),λh=>absurd h hall⟩⟩;obtain⟨x,hx1,hx2,hx3⟩:∃ x,x<d/\¬ Sp d' B (A x)/\∀ y,y<x->Sp d' B (A y):=by
   obtain⟨x0,h1⟩:=Classical.not_forall.1 hall;obtain⟨h1,h2⟩:=Classical.not_imp.1 h1;have:∀ N x0,x0<N->x0<d->¬ Sp d' B (A x0)->∃ x,x<d/\¬ Sp d' B (A x)/\∀ y,y<x->Sp d' B (A y):=by
    intro N
    induction N with
    | zero=>intro x0 h; omega
    | succ N ih =>
     intro x0 h0 h1 h2
     by_cases hy:∀ y,y<x0->Sp d' B (A y)
     ·exact⟨x0,h1,h2,hy⟩
     ·obtain⟨y,g1⟩:=Classical.not_forall.1 hy;obtain⟨g1,g2⟩:=Classical.not_imp.1 g1;exact ih y (by omega) (by omega) g2
   exact this (x0+1) x0 (by omega) h1 h2
  have key:=bF (step:=cA) (N:=2^64) (λt=>(Mr d n A,(((n:Int),Mr d' n B),()),(d:Int),(t:Int),())) x (.inl ((x:Int),())) (by omega) (λt ht=>by
   obtain⟨b,h1,h2⟩:=hrow t (by omega);rw[h2.2 (hx3 t ht)]at h1;exact step t (by omega) true h1) (by
   obtain⟨b,h1,h2⟩:=hrow x hx1;cases b with
   | true=>exact absurd (h2.1 rfl) hx2
   | false=>exact step x hx1 false h1)
  have key:dO (Mr d n A,(((n:Int),Mr d' n B),()),(d:Int),0,())=_:=key;have e2:ltI (x:Int) 0=false:=by rw[aF]; exact oF (by omega)
  simp only[xV,cb,aE,e0,Bool.not_true,oD,eG,fC,hlen,key,FY,e2,Bool.not_false,oC]
end
end Go.PM
