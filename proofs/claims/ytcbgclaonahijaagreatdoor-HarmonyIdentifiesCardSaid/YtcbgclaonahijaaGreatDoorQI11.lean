/- Texts of one proof, joined (11). -/
import Derived.Shelf.SlSortCmp.Whole1
import Derived.Ground.SlsfProg
import Derived.Test.YtcbgclaonahijaaGreatDoorProg
import Derived.Shelf.Sort.Plain
import Derived.WalkKit
import Derived.Lib.Walk
import Derived.Lib.SliceRun
import Derived.Shelf.Slices.CompactI
import Derived.Test.YtcbgclaonahijaaGreatDoorQI10
set_option linter.unusedSimpArgs false
set_option linter.unusedVariables false
set_option maxRecDepth 100000
noncomputable section
namespace Go.PM
open Go Go.RowKit Go.Proofs Tryz
set_option maxHeartbeats 4000000
def bCZ:List Int->List Int->Option (List (aM [.int .i64,.int .i64]))
 | [],_=>some []
 | x::a,y::b=>aB (bCZ a b) λr=>some ((x,y,())::r)
 | _::_,[]=>none
def a8E(x:TZ [TyD,TyD]):Option (List (aM [.int .i64,.int .i64])):=match x with
 | (a,b,())=>bif Nat.ble a.length 1048576 then bCZ a b else none
theorem a7J(yv:Value)(a b:List Int)(hl:a.length<=1048576):∀ (ra rb pa pb:List Int) (all:List (aM [.int .i64,.int .i64])) (N:Nat),bCZ ra rb=some all->pa++ra=a->pb++rb=b->pa.length=pb.length->ra.length<N ->
  YL EL N (yv,b,a,(a.length:Int),(pa.length:Int),())=some (all.map λe=>(yv,e),())
 | [],rb,pa,pb,all,N+1,h,hp,hq,hpq,_=>by
  obtain rfl:=oB h;rw[List.append_nil]at hp;subst hp;have h1:ltI (pa.length:Int) (pa.length:Int)=false:=by simp[aF]
  simp only[YL,EL,h1,oD];rfl
 | r::ra,[],pa,pb,all,N+1,h,_,_,_,_=>by simp only[bCZ]at h; cases h
 | r::ra,s::rb,pa,pb,all,N+1,h,hp,hq,hpq,hN=>by
  obtain⟨all',ha,h⟩:=wA h;obtain rfl:=oB h;have hlen:a.length=pa.length+(ra.length+1):=by rw[<- hp]; simp
  have hlenb:b.length=pb.length+(rb.length+1):=by rw[<- hq]; simp
  have h1:ltI (pa.length:Int) (a.length:Int)=true:=by simp[aF]; omega
  have h2:aE (pa.length:Int) a.length=true:=by simp[aL]; omega
  have h2':aE (pa.length:Int) b.length=true:=by simp[aL]; omega
  have h3:a.getD ((pa.length:Int)).toNat 0=r:=by rw[<- hp]; simp
  have h3':b.getD ((pa.length:Int)).toNat 0=s:=by rw[<- hq,hpq]; simp
  have h4:=a7J yv a b hl ra rb (pa++[r]) (pb++[s]) all' N ha (by rw[<- hp]; simp) (by rw[<- hq]; simp) (by simp[hpq]) (by simp at hN; omega);have h5:aA .i64 ((pa.length:Int)+1)=((pa++[r]).length:Int):=by rw[wrap64 (by omega) (by omega)]; simp
  simp only[YL,EL,h1,oC,h2,h2',h3,h3',outs,h5];rw[h4];rfl
theorem bV1:aOQ tP 118 [TyD,TyD] [.int .i64,.int .i64] a8E:=by
 refine a13 ?_;rintro yv ⟨a,b,⟨⟩⟩ all h;unfold a8E at h;dsimp only at h;obtain⟨hb,h⟩:=aJ h;have hb:=oL hb;have:=a7J yv a b hb a b [] [] all (2^64) h rfl rfl rfl (by omega);unfold aLZ;dsimp only;unfold M5;have h0:((([]:List Int).length:Nat):Int)=0:=rfl;rw[h0]at this;rw[this];simp[a3D,outs,bI3]
def aW6(x:aM [.list TyE,.list TyE]):oK [.clo 118 [TyD,TyD]]:=match x with
 | (v0,v1,()) =>
  some ((v0,v1,()),())
abbrev a7Q:Ent:=⟨74,_,_,aW6⟩
theorem bBN:Ent.OK tP a7Q:=oI (aS oW) func74 (by kernel_rfl) (by rintro⟨v0,v1,⟨⟩⟩; kernel_rfl)
abbrev EC:List (Nat×Kd):=[(4,.own 3 TyE),(5,.int .i64),(7,.bown 29 3 TyE),(21,.clo 118 [TyD,TyD])]
abbrev RK:List (Ex×List (Nat×Kd)):=[(.normal,[(7,.bown 29 3 TyE)])]
def T3(x:Shape.den EC)(e:aM [.int .i64,.int .i64]):oS EC RK:=match x,e with
 | (v4,v5,v7,v21,()),(e0,e1,()) =>
  bif Nat.ble [(aA .i64 (e0+e1))].length 1048576 then bif Nat.ble v7.length 1048576 then some (.inl (v4,v5,(v7++[(aA .i64 (e0+e1))]),(v21.1,v21.2.1,()),())) else none else none
def aPQ(x:Shape.den EC):TZ [TyD,TyD]:=match x with
 | (v4,v5,v7,v21,())=>(v21.1,v21.2.1,())
def OJ(x:Shape.den EC):oX RK:=a2H EC RK (λx=>a8E (aPQ x)) T3 x
def aBB(x:aM [.list TyE,.list TyE]):oK [.list TyE,.int .i64]:=match x with
 | (v0,v1,()) =>
  aB (aTI (v0,v1,())) λy1 =>
  bif !(eqI y1.1 0) then
   some ([],y1.1,())
  else bif !(ltI (v0.length:Int) 0) then bif !(ltI 1048576 (v0.length:Int)) then aB (aW6 (v0,v1,())) λy2 =>
  aB (OJ ([],0,(List.replicate 0 (0:Ty.den TyE)),(y2.1.1,y2.1.2.1,()),())) λz3 =>
  aB (aAZ (z3.1,())) λy4 =>
  some (y4.1,y4.2.1,()) else none else none
def aX8:Code:=bY f23
abbrev a8Y:Env:=B1 [bCR,a7Q,a4C]
theorem a4A:dN tP a8Y:=aS ⟨bGU,bBN,aS3,trivial⟩
def CS:Code:=QF aX8 0
def bMR:Code:=inLoop CS
def a2E(id:Nat):Option cI:=none
def a1D(id:Nat):Option cI:=bif Nat.beq id 8 then some ⟨EC,RK,OJ⟩ else none
theorem a6Q:bM bMR=8:=by kernel_rfl
theorem aVG:CS=.rangeFunc (aNR CS) (a1W CS) (II CS) (inLoop CS):=by kernel_rfl
theorem bAE:∀ y e,aST tP a8Y 34 (xD f23) a2E a1D (a1W CS).toList (II CS) (inLoop CS) [.int .i64,.int .i64] EC RK y e=T3 y e:=by
 rintro⟨v4,v5,v7,v21,⟨⟩⟩ ⟨e0,e1,⟨⟩⟩
 kernel_rfl
theorem bFR:∀ x,a8H 118 [TyD,TyD] EC (aNR CS) x=some (aPQ x):=by
 rintro⟨v4,v5,v7,v21,⟨⟩⟩
 kernel_rfl
theorem bBE:H7 tP 34 false [] CS ⟨EC,RK,OJ⟩:=aNV a4A aQ aVG func118 (c:=bY f118) (by kernel_rfl) bV1 (by kernel_rfl) (nK (l:=[]) (by kernel_rfl) trivial) bFR bAE
theorem bF2:dV aX8=[CS]:=by kernel_rfl
theorem bJ3:∀ x,a0L tP a8Y f23 (xD f23) a2E a1D aX8 [.list TyE,.list TyE] [.list TyE,.int .i64] x=aBB x:=by
 rintro⟨v0,v1,⟨⟩⟩
 kernel_rfl
abbrev bW3:Ent:=⟨23,_,_,aBB⟩
theorem aR3:Ent.OK tP bW3:=aJK aQ a4A func23 (c:=aX8) (by kernel_rfl) (keep:=xD f23) (lt:=a2E) (rt:=a1D) (nK bF2 ⟨aF1 aVG a6Q rfl bBE,trivial⟩) bJ3
abbrev JA:List (Nat×Kd):=[(1,.int .i64),(2,.int .i64),(3,.box 41 TyJ),(7,.list TyD),(8,.int .i64)]
abbrev T1:List (Ex×List (Nat×Kd)):=[(.exit 0,[(7,.list TyD)])]
def xY(x:Shape.den JA):oS JA T1:=match x with
 | (v1,v2,v3,v7,v8,()) =>
  bif aE v1 v3.2.1.length then bif ltI v8 ((v3.2.1.getD v1.toNat []).length:Int) then
   bif aE v2 v3.1.2.length then bif aE v1 v3.2.1.length then bif aE v8 (v3.2.1.getD v1.toNat []).length then aB (lV (v3.1.1,((v3.2.1.getD v1.toNat []).getD v8.toNat []),())) λy5 =>
   aB (aBB ((v3.1.2.getD v2.toNat []),y5.1,())) λy6 =>
   aB (eH (v3.1.1,y6.1,())) λy7 =>
   aB (fR (v7,y7.1,())) λy8 =>
   some (.inl (v1,v2,v3,y8.1,(aA .i64 (v8+1)),())) else none else none else none
  else some (.inr ((v7,()))) else none
def FW(x:Shape.den JA):oX T1:=aV xY (2^64) x
def pN(x:aM [.agg TyJ,.int .i64,.int .i64]):oK [.list TyD]:=match x with
 | (v0,v1,v2,()) =>
  aB (FW (v1,v2,v0,[],0,())) λz9 =>
  some (z9.1,())
abbrev MQ:List (Nat×Kd):=[(3,.box 41 TyJ),(8,.list TyD),(9,.own 3 TyE),(10,.int .i64)]
abbrev X1:List (Ex×List (Nat×Kd)):=[(.ret,[(6,.list TyE),(7,.bool)]),(.exit 0,[(9,.own 3 TyE)])]
def iY(x:Shape.den MQ):oS MQ X1:=match x with
 | (v3,v8,v9,v10,()) =>
  bif ltI v10 (v8.length:Int) then
   bif aE v10 v8.length then aB (yN (v3.1,(v8.getD v10.toNat []),())) λy3 =>
   bif ltI y3.1 0 then
    some (.inr (.inl ([],false,())))
   else bif Nat.ble [y3.1].length 1048576 then bif Nat.ble v9.length 1048576 then some (.inl (v3,v8,(v9++[y3.1]),(aA .i64 (v10+1)),())) else none else none else none
  else some (.inr (.inr ((v9,()))))
def A5(x:Shape.den MQ):oX X1:=aV iY (2^64) x
def gU(x:aM [.agg TyJ,.int .i64,.int .i64]):oK [.list TyE,.bool]:=match x with
 | (v0,v1,v2,()) =>
  aB (pN (v0,v1,v2,())) λy1 =>
  aB (A5 (v0,y1.1,[],0,())) λz4 =>
  mN z4 (λa5=>some (a5.1,a5.2.1,())) λb6 =>
  some (b6.1,true,())
abbrev qL:List (Nat×Kd):=[(1,.box 41 TyJ),(3,.own 63 TyO),(4,.int .i64),(5,.int .i64)]
abbrev vL:List (Ex×List (Nat×Kd)):=[(.exit 2,[(1,.box 41 TyJ),(3,.own 63 TyO),(4,.int .i64)])]
def mF(x:Shape.den qL):oS qL vL:=match x with
 | (v1,v3,v4,v5,()) =>
  bif ltI v5 (v1.1.2.length:Int) then
   aB (gU (v1,v4,v5,())) λy2 =>
   bif y2.2.1 then
    bif Nat.ble [(v4,v5)].length 1048576 then bif Nat.ble v3.length 1048576 then some (.inl (v1,(v3++[(v4,v5)]),v4,(aA .i64 (v5+1)),())) else none else none
   else some (.inl (v1,v3,v4,(aA .i64 (v5+1)),()))
  else some (.inr ((v1,v3,v4,())))
def zD(x:Shape.den qL):oX vL:=aV mF (2^64) x
abbrev qG:List (Nat×Kd):=[(1,.box 41 TyJ),(3,.own 63 TyO),(4,.int .i64)]
abbrev vJ:List (Ex×List (Nat×Kd)):=[(.exit 0,[(3,.own 63 TyO)])]
def sJ(x:Shape.den qG):oS qG vJ:=match x with
 | (v1,v3,v4,()) =>
  bif ltI v4 (v1.2.1.length:Int) then
   aB (zD (v1,v3,v4,0,())) λz4 =>
   some (.inl (z4.1,z4.2.1,(aA .i64 (z4.2.2.1+1)),()))
  else some (.inr ((v3,())))
def zF(x:Shape.den qG):oX vJ:=aV sJ (2^64) x
def lT(x:aM [.agg TyJ]):oK [.list TyO]:=match x with
 | (v0,()) =>
  aB (zF (v0,[],0,())) λz5 =>
  some (z5.1,())
end Go.PM
namespace Go.PM
open Go Go.RowKit Go.Proofs Tryz
def SK:List ByteArray->List UInt8->List UInt8
 | [],_=>[]
 | [x],_=>x.data.toList
 | x::y::r,sep=>x.data.toList++(sep++SK (y::r) sep)
theorem a84:∀ l sep,SK l sep=Lib.join (l.map (·.data.toList)) sep
 | [],sep=>by rfl
 | [x],sep=>by simp[SK,Lib.join]
 | x::y::r,sep=>by
  rw[SK,a84 (y::r) sep];rfl
def TU(x:aM [.list .str,.str]):oK [.str]:=match x with
 | (l,sep,())=>bif Nat.ble l.length 1048576&&Nat.ble (SK l sep.data.toList).length 1048576 then some (⟨(SK l sep.data.toList).toArray⟩,()) else none
theorem bM5(l:List ByteArray)(j:Nat) x (h:l[j]?=some x):(aI .str l)[j]?=some (.lit (.string x)):=by
 induction l generalizing j with
 | nil=>grind
 | cons a l ih =>
  have e:aI .str (a::l)=.lit (.string a)::aI .str l:=rfl;grind
theorem a7B:WA Tryz.prog 162 [.list .str,.str] [.str] TU:=by
 rintro⟨l,sep,⟨⟩⟩ y h;unfold TU at h;dsimp only at h;cases hc:(Nat.ble l.length 1048576&&Nat.ble (SK l sep.data.toList).length 1048576)with
 | false=>rw[hc]at h; cases h
 | true =>
 rw[hc]at h;cases oB h;rw[oA]at hc;have hl:=oL hc.1;have hj:=oL hc.2;intro w G vs hG hv;refine⟨enters func162 (by kernel_rfl) (by kernel_rfl) _ _,?_⟩;have k1:VRs w (Gd.of G) aH [zX .str l none,.lit (.string sep)] vs.toList:=hv;rw[VRs]at k1;obtain⟨v,us,hvs,g1,g2⟩:=k1;rw[VRs]at g2;obtain⟨v2,us2,rfl,g2,g3⟩:=g2;rw[VRs]at g3;subst g3;rw[VR]at g2;subst g2;unfold zX at g1;rw[VR]at g1;obtain⟨g1,-⟩:=g1
 rw[VR]at g1;obtain⟨ao,c,rfl,hc1,-,hc2⟩:=g1;have hvs:vs=#[.slice ao l.length c,.string sep]:=Array.ext' (by simpa using hvs);subst hvs;cases l with
 | nil =>
  refine(Tryz.strings_Join_none ao c sep w).mono ?_;rintro e w' ⟨rfl,rfl⟩;exact⟨_,G,rfl,Ext.refl _ _ _ _,hG,bHE _⟩
 | cons a l =>
  rcases hc2 with h0|⟨b,off,rfl,hb,hcs⟩
  ·cases h0
  ·refine(Tryz.strings_Join b off c (a::l) sep w ?_ (hG.lt b hb) (by simp at hl ⊢; omega) hc1 (by rw[<- a84]; omega)).mono ?_
   ·intro j x hx;obtain⟨v,h1,h2⟩:=hcs.get (bM5 _ _ _ hx);rw[VR]at h2;subst h2;exact h1
   ·rintro e w' ⟨rfl,hbl⟩;have he:=a08 (G:=G) hG.lt hbl;exact⟨_,G,rfl,he,λb hb=>Nat.lt_of_lt_of_le (hG.lt b hb) he.size,by rw[<- a84]; exact bHE _⟩
abbrev bBA:Ent:=⟨162,[.list .str,.str],[.str],TU⟩
theorem a2T:Ent.OK Tryz.prog bBA:=a7B
set_option maxHeartbeats 4000000
def aXU:List Nat->Nat->Bool
 | [],_=>false
 | a::r,g=>bif Nat.beq a g then true else aXU r g
theorem bSW:a9C tP (aVR tP) (aXU [156]) (λ_ _=>none) 1000 12 121 (lF [.int .i64,.int .i64] (1,0,()))=some (aLV [.list TyE,.int .i64] ([1],0,())):=by kernel_rfl
theorem bS0:a9C tP (aVR tP) (aXU [156]) (λ_ _=>none) 1000 12 121 (lF [.int .i64,.int .i64] (2,0,()))=some (aLV [.list TyE,.int .i64] ([1,0],0,())):=by kernel_rfl
theorem bQ2:a9C tP (aVR tP) (aXU [156]) (λ_ _=>none) 1000 12 121 (lF [.int .i64,.int .i64] (3,0,()))=some (aLV [.list TyE,.int .i64] ([1,0,0],0,())):=by kernel_rfl
theorem bSG:a9C tP (aVR tP) (aXU [156]) (λ_ _=>none) 1000 12 121 (lF [.int .i64,.int .i64] (4,0,()))=some (aLV [.list TyE,.int .i64] ([1,0,0,0],0,())):=by kernel_rfl
theorem bRP:a9C tP (aVR tP) (aXU [156]) (λ_ _=>none) 1000 12 121 (lF [.int .i64,.int .i64] (5,0,()))=some (aLV [.list TyE,.int .i64] ([1,0,0,0,0],0,())):=by kernel_rfl
theorem bS5:a9C tP (aVR tP) (aXU [156]) (λ_ _=>none) 1000 12 121 (lF [.int .i64,.int .i64] (6,0,()))=some (aLV [.list TyE,.int .i64] ([1,0,0,0,0,0],0,())):=by kernel_rfl
theorem bRZ:a9C tP (aVR tP) (aXU [156]) (λ_ _=>none) 1000 12 121 (lF [.int .i64,.int .i64] (7,0,()))=some (aLV [.list TyE,.int .i64] ([1,0,0,0,0,0,0],0,())):=by kernel_rfl
theorem bQK:a9C tP (aVR tP) (aXU [156]) (λ_ _=>none) 1000 12 121 (lF [.int .i64,.int .i64] (8,0,()))=some (aLV [.list TyE,.int .i64] ([1,0,0,0,0,0,0,0],0,())):=by kernel_rfl
def aNA(x:aM [.int .i64,.int .i64]):oK [.list TyE,.int .i64]:=match x with
 | (n,i,())=>bif eqI i 0 then bif eqI n 1 then some ([1],0,()) else bif eqI n 2 then some ([1,0],0,()) else bif eqI n 3 then some ([1,0,0],0,()) else bif eqI n 4 then some ([1,0,0,0],0,()) else bif eqI n 5 then some ([1,0,0,0,0],0,()) else bif eqI n 6 then some ([1,0,0,0,0,0],0,()) else bif eqI n 7 then some ([1,0,0,0,0,0,0],0,()) else bif eqI n 8 then some ([1,0,0,0,0,0,0,0],0,()) else none else none
theorem bM0:WA tP 121 _ _ aNA:=by
 rintro⟨n,i,⟨⟩⟩ y h;simp only[aNA,bN]at h
 by_cases hi:i=0
 ·subst hi;simp only[decide_true,oC]at h
  by_cases h1:n=1
  ·subst h1;simp only[decide_true,oC,oJ]at h;subst h;exact JP aQ (λ_ _ _ h=>by cases h) bSW
  simp only[h1,decide_false,oD]at h
  by_cases h2:n=2
  ·subst h2;simp only[decide_true,oC,oJ]at h;subst h;exact JP aQ (λ_ _ _ h=>by cases h) bS0
  simp only[h2,decide_false,oD]at h
  by_cases h3:n=3
  ·subst h3;simp only[decide_true,oC,oJ]at h;subst h;exact JP aQ (λ_ _ _ h=>by cases h) bQ2
  simp only[h3,decide_false,oD]at h
  by_cases h4:n=4
  ·subst h4;simp only[decide_true,oC,oJ]at h;subst h;exact JP aQ (λ_ _ _ h=>by cases h) bSG
  simp only[h4,decide_false,oD]at h
  by_cases h5:n=5
  ·subst h5;simp only[decide_true,oC,oJ]at h;subst h;exact JP aQ (λ_ _ _ h=>by cases h) bRP
  simp only[h5,decide_false,oD]at h
  by_cases h6:n=6
  ·subst h6;simp only[decide_true,oC,oJ]at h;subst h;exact JP aQ (λ_ _ _ h=>by cases h) bS5
  simp only[h6,decide_false,oD]at h
  by_cases h7:n=7
  ·subst h7;simp only[decide_true,oC,oJ]at h;subst h;exact JP aQ (λ_ _ _ h=>by cases h) bRZ
  simp only[h7,decide_false,oD]at h
  by_cases h8:n=8
  ·subst h8;simp only[decide_true,oC,oJ]at h;subst h;exact JP aQ (λ_ _ _ h=>by cases h) bQK
  simp only[h8,decide_false,oD]at h;cases h
 ·simp[hi]at h
abbrev bSR:Ent:=⟨121,_,_,aNA⟩
theorem bGL:Ent.OK tP bSR:=bM0
def gD(x:aM [.agg TyH,.list TyE]):oK [.list TyE,.int .i64]:=match x with
 | (v0,v1,()) =>
  aB (PH (v0,v1,())) λy1 =>
  bif !(eqI y1.1 0) then
   some ([],y1.1,())
  else aB (wF (v0,v1,())) λy2 =>
  aB (KF (y2.1,())) λy3 =>
  some (y3.1,y3.2.1,())
theorem aD3:WA tP 79 _ _ gD:=oI (aS (oV aF6 (oV aR9 (oV aO0 oW)))) func79 (by kernel_rfl) (by rintro⟨v0,v1,⟨⟩⟩; kernel_rfl)
abbrev aF2:Ent:=⟨79,_,_,gD⟩
theorem GF:Ent.OK tP aF2:=aD3
def iG(x:aM [.agg TyG]):oK [.agg TyH,.int .i64]:=match x with
 | (v0,()) =>
  aB (FK (v0,())) λy1 =>
  bif !(eqI y1.1 0) then
   some ((0,[]),y1.1,())
  else aB (aNA ((v0.1.length:Int),0,())) λy2 =>
  bif !(eqI y2.2.1 0) then
   some ((0,[]),y2.2.1,())
  else aB (gW (v0,y2.1,())) λy3 =>
  bif !(eqI y3.2.1 0) then
   some ((0,[]),y3.2.1,())
  else aB (RG (y3.1,())) λy4 =>
  bif y4.1 then
   some ((0,[]),26,())
  else aB (MI ((v0.2.2.length:Int),[y3.1],())) λy5 =>
  some (y5.1,y5.2.1,())
theorem aKJ:WA tP 77 _ _ iG:=oI (aS (oV aSE (oV aR1 (oV bGL (oV YY (oV DU oW)))))) func77 (by kernel_rfl) (by rintro⟨v0,⟨⟩⟩; kernel_rfl)
abbrev Y8:Ent:=⟨77,_,_,iG⟩
theorem KB:Ent.OK tP Y8:=aKJ
def xM(x:aM [.agg TyG,.list TyE]):oK [.int .i64]:=match x with
 | (v0,v1,()) =>
  aB (kH (v1,())) λy1 =>
  bif !(eqI y1.1 0) then
   some (y1.1,())
  else bif !(eqI (v1.length:Int) (v0.2.2.length:Int)) then
   some (5,())
  else some (0,())
abbrev aY8:Ent:=⟨78,_,_,xM⟩
theorem aCG:Ent.OK tP aY8:=oI (aS (oV xF oW)) func78 (by kernel_rfl) (by rintro⟨v0,v1,⟨⟩⟩; kernel_rfl)
abbrev aOK:List (Nat×Kd):=[(1,.bool),(7,.own 9 .str),(16,.list TyE),(17,.int .i64),(18,.int .i64)]
abbrev aZ9:List (Ex×List (Nat×Kd)):=[(.exit 0,[(1,.bool),(7,.own 9 .str)])]
def XE(x:Shape.den aOK):oS aOK aZ9:=match x with
 | (v1,v7,v16,v17,v18,()) =>
  bif ltI v18 v17 then
   bif aE v18 v16.length then aB (EE ((v16.getD v18.toNat 0),())) λy3 =>
   bif Nat.ble [y3.1].length 1048576 then bif Nat.ble v7.length 1048576 then some (.inl (v1,(v7++[y3.1]),v16,v17,(aA .i64 (v18+1)),())) else none else none else none
  else some (.inr ((v1,v7,())))
def aHZ(x:Shape.den aOK):oX aZ9:=aV XE (2^64) x
def OI(x:aM [.list TyE,.bool]):oK [.str,.int .i64]:=match x with
 | (v0,v1,()) =>
  aB (kH (v0,())) λy1 =>
  bif !(eqI y1.1 0) then
   some ((ByteArray.mk #[]),y1.1,())
  else aB (aHZ (v1,[],v0,(v0.length:Int),0,())) λz4 =>
  aB (TU (z4.2.1,(ByteArray.mk #[32]),())) λy5 =>
  bif z4.1 then
   bif Nat.ble ((ByteArray.mk #[91]).size+y5.1.size) 9223372036854775807 then bif Nat.ble (((ByteArray.mk #[91])++y5.1).size+(ByteArray.mk #[62]).size) 9223372036854775807 then some ((((ByteArray.mk #[91])++y5.1)++(ByteArray.mk #[62])),0,()) else none else none
  else bif Nat.ble ((ByteArray.mk #[60]).size+y5.1.size) 9223372036854775807 then bif Nat.ble (((ByteArray.mk #[60])++y5.1).size+(ByteArray.mk #[93]).size) 9223372036854775807 then some ((((ByteArray.mk #[60])++y5.1)++(ByteArray.mk #[93])),0,()) else none else none
abbrev bD8:Ent:=⟨128,_,_,OI⟩
theorem aZZ:Ent.OK tP bD8:=oU (aS (oV xF (oV aNL (oV a2T oW)))) func128 6 (lp:=aHZ) rfl (by kernel_rfl) (by rintro⟨v1,v7,v16,v17,v18,⟨⟩⟩; kernel_rfl) (by rintro⟨v0,v1,⟨⟩⟩; kernel_rfl)
abbrev M9:List (Nat×Kd):=[(1,.box 38 TyM),(3,.box 105 TyH),(31,.list TyD),(32,.int .i64),(33,.int .i64)]
abbrev DL:List (Ex×List (Nat×Kd)):=[(.ret,[(2,.int .i64)]),(.exit 1,[])]
def uK(x:Shape.den M9):oS M9 DL:=match x with
 | (v1,v3,v31,v32,v33,()) =>
  bif ltI v33 v32 then
   bif aE v33 v31.length then aB (xM (v1.1,(v31.getD v33.toNat []),())) λy6 =>
   bif !(eqI y6.1 0) then
    some (.inr (.inl (y6.1,())))
   else aB (gD (v3,(v31.getD v33.toNat []),())) λy7 =>
   bif !(eqI y7.2.1 0) then
    some (.inr (.inl (7,())))
   else aB (kJ (y7.1,(v31.getD v33.toNat []),())) λy8 =>
   bif y8.1 then
    bif ltI 0 v33 then
     bif aE (aA .i64 (v33-1)) v1.2.length then aB (XM ((v31.getD v33.toNat []),(v1.2.getD ((aA .i64 (v33-1)).toNat) []),())) λy9 =>
     bif !(ltI 0 y9.1) then
      some (.inr (.inl (6,())))
     else some (.inl (v1,v3,v31,v32,(aA .i64 (v33+1)),())) else none
    else some (.inl (v1,v3,v31,v32,(aA .i64 (v33+1)),()))
   else some (.inr (.inl (7,()))) else none
  else some (.inr (.inr ((()))))
def JD(x:Shape.den M9):oX DL:=aV uK (2^64) x
def C7(x:aM [.agg TyM]):oK [.int .i64]:=match x with
 | (v0,()) =>
  aB (iG (v0.1,())) λy1 =>
  bif !(eqI y1.2.1 0) then
   some (y1.2.1,())
  else bif eqI (v0.2.length:Int) 0 then
   some (13,())
  else bif ltI 60 (v0.2.length:Int) then
   some (4,())
  else aB (JD (v0,y1.1,v0.2,(v0.2.length:Int),0,())) λz10 =>
  mN z10 (λa11=>some (a11.1,())) λb12 =>
  some (0,())
abbrev aUV:Ent:=⟨68,_,_,C7⟩
theorem aOA:Ent.OK tP aUV:=oU (aS (oV aCG (oV KB (oV GF (oV aP9 (oV D9 oW)))))) func68 9 (lp:=JD) rfl (by kernel_rfl) (by rintro⟨v1,v3,v31,v32,v33,⟨⟩⟩; kernel_rfl) (by rintro⟨v0,⟨⟩⟩; kernel_rfl)
abbrev XO:List (Nat×Kd):=[(1,.box 41 TyJ),(24,.list TyC),(25,.int .i64),(26,.int .i64)]
abbrev aJL:List (Ex×List (Nat×Kd)):=[(.ret,[(2,.int .i64)]),(.exit 1,[(1,.box 41 TyJ)])]
def KK(x:Shape.den XO):oS XO aJL:=match x with
 | (v1,v24,v25,v26,()) =>
  bif ltI v26 v25 then
   bif aE v26 v24.length then bif eqI ((v24.getD v26.toNat []).length:Int) 0 then
    some (.inr (.inl (13,())))
   else bif ltI 8 ((v24.getD v26.toNat []).length:Int) then
    some (.inr (.inl (4,())))
   else aB (rK (v1.1.1.1,(v24.getD v26.toNat []),())) λy3 =>
   bif !(eqI y3.1 0) then
    some (.inr (.inl (y3.1,())))
   else some (.inl (v1,v24,v25,(aA .i64 (v26+1)),())) else none
  else some (.inr (.inr ((v1,()))))
def TB(x:Shape.den XO):oX aJL:=aV KK (2^64) x
def K4(x:aM [.agg TyJ]):oK [.int .i64]:=match x with
 | (v0,()) =>
  aB (C7 (v0.1,())) λy1 =>
  bif !(eqI y1.1 0) then
   some (y1.1,())
  else bif eqI (v0.2.1.length:Int) 0 then
   some (13,())
  else bif ltI 12 (v0.2.1.length:Int) then
   some (4,())
  else aB (TB (v0,v0.2.1,(v0.2.1.length:Int),0,())) λz4 =>
  mN z4 (λa5=>some (a5.1,())) λb6 =>
  bif ltI b6.1.2.2 1 then
   some (3,())
  else bif ltI 8 b6.1.2.2 then
   some (3,())
  else some (0,())
abbrev aIH:Ent:=⟨20,_,_,K4⟩
theorem aKN:Ent.OK tP aIH:=oU (aS (oV aOA (oV UU oW))) func20 9 (lp:=TB) rfl (by kernel_rfl) (by rintro⟨v1,v24,v25,v26,⟨⟩⟩; kernel_rfl) (by rintro⟨v0,⟨⟩⟩; kernel_rfl)
abbrev JG:List (Nat×Kd):=[(0,.list TyE),(1,.int .i64),(7,.int .i64),(8,.int .i64)]
abbrev T9:List (Ex×List (Nat×Kd)):=[(.ret,[(4,.int .i64)]),(.exit 0,[])]
def yI(x:Shape.den JG):oS JG T9:=match x with
 | (v0,v1,v7,v8,()) =>
  bif ltI v8 v7 then
   bif aE v8 v0.length then bif eqI v1 (v0.getD v8.toNat 0) then
    some (.inr (.inl (v8,())))
   else some (.inl (v0,v1,v7,(aA .i64 (v8+1)),())) else none
  else some (.inr (.inr ((()))))
def yH(x:Shape.den JG):oX T9:=aV yI (2^64) x
def GG(x:aM [.list TyE,.int .i64]):oK [.int .i64]:=match x with
 | (v0,v1,()) =>
  aB (yH (v0,v1,(v0.length:Int),0,())) λz1 =>
  mN z1 (λa2=>some (a2.1,())) λb3 =>
  some ((-1),())
abbrev aQO:Ent:=⟨127,_,_,GG⟩
theorem aLG:Ent.OK tP aQO:=oU (aS oW) func127 2 (lp:=yH) rfl (by kernel_rfl) (by rintro⟨v0,v1,v7,v8,⟨⟩⟩; kernel_rfl) (by rintro⟨v0,v1,⟨⟩⟩; kernel_rfl)
def pC(x:aM [.list TyE,.int .i64]):oK [.bool]:=match x with
 | (v0,v1,()) =>
  aB (GG (v0,v1,())) λy1 =>
  some (!(ltI y1.1 0),())
abbrev aKU:Ent:=⟨85,_,_,pC⟩
theorem PI:Ent.OK tP aKU:=oI (aS (oV aLG oW)) func85 (by kernel_rfl) (by rintro⟨v0,v1,⟨⟩⟩; kernel_rfl)
abbrev U9:List (Nat×Kd):=[(3,.box 124 TyL),(5,.int .i64),(9,.list TyE),(10,.int .i64),(11,.int .i64)]
abbrev aGW:List (Ex×List (Nat×Kd)):=[(.exit 0,[(5,.int .i64)])]
def BR(x:Shape.den U9):oS U9 aGW:=match x with
 | (v3,v5,v9,v10,v11,()) =>
  bif ltI v11 v10 then
   bif aE v11 v9.length then aB (pC (v3.2,(v9.getD v11.toNat 0),())) λy2 =>
   bif y2.1 then
    some (.inl (v3,(aA .i64 (v5+1)),v9,v10,(aA .i64 (v11+1)),()))
   else some (.inl (v3,v5,v9,v10,(aA .i64 (v11+1)),())) else none
  else some (.inr ((v5,())))
def P3(x:Shape.den U9):oX aGW:=aV BR (2^64) x
def HT(x:aM [.agg TyL,.agg TyL]):oK [.int .i64]:=match x with
 | (v0,v1,()) =>
  aB (P3 (v1,0,v0.2,(v0.2.length:Int),0,())) λz3 =>
  some (z3.1,())
abbrev aQA:Ent:=⟨84,_,_,HT⟩
theorem aGZ:Ent.OK tP aQA:=oU (aS (oV PI oW)) func84 3 (lp:=P3) rfl (by kernel_rfl) (by rintro⟨v3,v5,v9,v10,v11,⟨⟩⟩; kernel_rfl) (by rintro⟨v0,v1,⟨⟩⟩; kernel_rfl)
abbrev mB:List (Nat×Kd):=[(0,.val),(1,.ptr TyN),(2,.ptr TyE),(3,.ptr TyE),(7,.int .i64),(8,.int .i64)]
abbrev sM:List (Ex×List (Nat×Kd)):=[(.exit 0,[])]
def fJ(x:Shape.den mB):Option (List (Value×aM [.int .i64])×(Shape.den mB⊕AQ sM)):=match x with
 | (v0,v1,v2,v3,v7,v8,()) =>
  bif ltI v8 v7 then
   bif !(eqI v8 v2) then
    bif aE v2 v1.length then bif aE v8 v1.length then aB (HT ((((v1.getD v2.toNat ((0,0),[])).1.1,(v1.getD v2.toNat ((0,0),[])).1.2),(v1.getD v2.toNat ((0,0),[])).2),(((v1.getD v8.toNat ((0,0),[])).1.1,(v1.getD v8.toNat ((0,0),[])).1.2),(v1.getD v8.toNat ((0,0),[])).2),())) λy2 =>
    bif !(ltI y2.1 v3) then
     outs [(v0,(v8,()))] (some ([],.inl (v0,v1,v2,v3,v7,(aA .i64 (v8+1)),())))
    else some ([],.inl (v0,v1,v2,v3,v7,(aA .i64 (v8+1)),())) else none else none
   else some ([],.inl (v0,v1,v2,v3,v7,(aA .i64 (v8+1)),()))
  else some ([],.inr ((())))
def wL(x:Shape.den mB):Option (List (Value×aM [.int .i64])×AQ sM):=YL fJ (2^64) x
def M4(v0:Value)(x:TZ [TyN,TyE,TyE]):Option (List (Value×aM [.int .i64])):=match x with
 | (v1,v2,v3,()) =>
  bI3 (a3D (wL (v0,v1,v2,v3,(v1.length:Int),0,())) λz3 =>
  some ([],()))
def DH:Code:=bY f130
abbrev NF:Env:=RP [aQA] []
theorem SO:dN tP NF:=jH ⟨aGZ,trivial⟩ trivial
def uL:Code:=inLoop (QF DH 0)
def L5(id:Nat):Option cI:=none
def K6(id:Nat):Option (aLI (Value×aM [.int .i64])):=bif Nat.beq id 1 then some ⟨mB,sM,wL⟩ else none
theorem aDD:bM uL=1:=by kernel_rfl
theorem aJB:dV uL=[]:=by kernel_rfl
theorem aDQ:∀ x,bHJ tP NF 34 (aP f130) L5 [.int .i64] K6 uL mB sM x=fJ x:=by
 rintro⟨v0,v1,v2,v3,v7,v8,⟨⟩⟩
 kernel_rfl
theorem aEH:bC5 tP 34 [.int .i64] uL ⟨mB,sM,wL⟩:=a9X SO.callee aQ.mixed _ (aML aJB trivial) aDQ
theorem aHM:dV DH=[.loop uL]:=by kernel_rfl
theorem aJA:∀ v0 x,bQB tP NF f130 (aP f130) L5 [.int .i64] K6 DH [TyN,TyE,TyE] v0 x=M4 v0 x:=by
 rintro v0 ⟨v1,v2,v3,⟨⟩⟩
 kernel_rfl
theorem aI5 {f:TZ [TyN,TyE,TyE]->Option (List (aM [.int .i64]))}(h:∀ yv x all,f x=some all->M4 yv x=some (all.map λe=>(yv,e))):aOQ tP 130 [TyN,TyE,TyE] [.int .i64] f:=bGG aQ SO func130 (c:=DH) (by kernel_rfl) (by kernel_rfl) (keep:=aP f130) (lt:=L5) (li:=K6) (aML aHM ⟨a9V aDD rfl rfl aEH,trivial⟩) (λyv x all hx=>(aJA yv x).trans (h yv x all hx))
end Go.PM
namespace Go.PM
open Go Go.RowKit Go.Proofs Go.Lz
section
variable {d n:Nat} {M:Nat->V} {p:Nat->Nat}
theorem bFW {B:Nat} {U:Nat->Nat} (h:Hn d M p) (hw:∀ i,i<d->∀ x,n<=x->M i x=0) (hn:n<=12) (hd:d<=12) (hM:∀ i,i<d->∀ x,x<n->(M i x).natAbs<=1000000000) (hb:Rds d n M B U) (r:List Int) (hl:r.length=n) (hr:∀ a∈r,a.natAbs<=U 0) (hU:U 0<=1000000000)
  (hfin:∀ x,x<n->(red M p d (eK r) x).natAbs<=1000000000) :
  gD (((n:Int),Mr d n M),r,())=some (Vr n (red M p d (eK r)),0,()):=by
 obtain⟨q,hq⟩:=bQY h hw hn hd hM hb r hl hr hU;have e0:eqI 0 0=true:=by decide
 simp only[gD,bJU h hw hd hn hM r hl (λa ha=>oR (hr a ha) hU),aC,e0,Bool.not_true,oD,hq,short_list (show n<1048576 by omega) hfin]
end
def eV(g:Int):V:=λx=>if x=0 then g else 0
def clV(g:Int) (u:V):V:=λi=>if i=0 then u 0%g else u i
def cl(r:Nat)(g:Int)(x:List Int):List Int:=Vr r (clV g (eK x))
theorem bZ6 {g}(hg:0<g):Hn 1 (λ_=>eV g) (λ_=>0) where
 inc i j h1 h2:=by omega
 low i hi x hx:=by omega
 pos i hi:=by simp[eV,hg]
 red i j h1 h2:=by omega
theorem bF1 {g r}(hr:1<=r):∀ x,r<=x->eV g x=0:=λx hx=>by simp[eV,show x≠0 by omega]
theorem b0G {r:Nat}{g}(hr:1<=r)(hr4:r<=4)(hg:0<g)(hg9:g<=1000000000):MI ((r:Int),[Vr r (eV g)],())=some (((r:Int),[Vr r (eV g)]),0,()):=by
 have hm:∀ i,i<1->aDR [Vr r (eV g)] i=eV g:=λi hi=>by
  obtain rfl:i=0:=by omega
  exact aTR (bF1 hr)
 have uq:∀ d M p,Hn d M p->Same 1 (aDR [Vr r (eV g)]) d M->d=1/\∀ i,i<d->M i=eV g:=λd M p h1 h2=>by
  have h3 :=Same.congr λj hj=>(hm j hj).symm
  obtain⟨u1,_,u3⟩:=Hn.unique (bZ6 hg) h1 (h3.trans h2);grind
 have hb:∀ x,(eV g x).natAbs<=1000000000:=λx=>by unfold eV; split <;> omega
 obtain⟨d,M,p,h1,h2,h3,h4,h5,h6⟩:=of_eq [Vr r (eV g)] (n:=r) (by simp) (by omega) (λx hx=>by
   rw[List.mem_singleton.1 hx]; simp[Vr]) (E:=λd=>10^dg 9 d) (T:=λd=>10^(5*dg 9 d+1)) (λx hx a ha=>by
   rw[List.mem_singleton.1 hx]at ha;obtain⟨i,_,rfl⟩:=List.mem_map.1 ha;exact hb i) (oM _) (bMI (.inr hr4) (by omega)) (λd M p _ k1 k2 _ i hi x _=>by
   rw[(uq d M p k1 k2).2 i hi]; exact hb x)
 grind
theorem UB {r g}(hr:1<=r)(hr4:r<=4)(hg:0<g)(hg9:g<=1000000000)(x:List Int)(hl:x.length=r)(hx:∀ a∈x,a.natAbs<=1000000000):gD (((r:Int),[Vr r (eV g)]),x,())=some (cl r g x,0,()):=by
 have hb:∀ x,(eV g x).natAbs<=1000000000:=λx=>by unfold eV; split <;> omega
 have hxv:∀ t,t<r->(eK x t).natAbs<=1000000000:=λt ht=>by
  unfold eK;have:x.getD t 0=x[t]'(by omega):=by simp[List.getD,show t<x.length by omega]
  rw[this];exact hx _ (List.getElem_mem _)
 have hred:∀ i,red (λ_=>eV g) (λ_=>0) 1 (eK x) i=clV g (eK x) i:=λi=>by
  show eK x i-(eK x 0).fdiv (eV g 0)*eV g i=_;unfold clV eV
  by_cases hi:i=0
  ·subst hi;simp only[if_true];have h1:=Int.fmod_def (eK x 0) g;have h2:=Int.fmod_eq_emod_of_nonneg (eK x 0) (b:=g) (by omega);rw[<- h2,h1,Int.mul_comm]
  ·simp[hi]
 have hfin:∀ i,i<r->(red (λ_=>eV g) (λ_=>0) 1 (eK x) i).natAbs<=1000000000:=λi hi=>by
  rw[hred];unfold clV;split
  ·have h1:=Int.emod_nonneg (eK x 0) (show g≠0 by omega);have h2:=Int.emod_lt_of_pos (eK x 0) hg;omega
  ·exact hxv i hi
 have:=bFW (d:=1) (n:=r) (M:=λ_=>eV g) (p:=λ_=>0) (B:=1000000000) (U:=λt=>if t=0 then 1000000000 else 1000000000+(1000000000+1)*1000000000) (bZ6 hg) (λi _ y hy=>bF1 hr y hy) (by omega) (by omega) (λi _ y _=>hb y)
  ⟨λi _ y _=>hb y,λt ht=>by simp[show t=0 by omega],λt ht=>by
   obtain rfl:t=0:=by omega
   have h1:=xL (u:=1000000000+1) (k:=17) (by omega);have h2:=xL (u:=1000000000) (k:=17) (by omega);simp only[if_true];unfold DP;omega⟩ x hl hx (oM _) hfin
 rw[show (Mr 1 r λ_=>eV g)=[Vr r (eV g)] from rfl]at this;rw[this]
 congr 2
 unfold cl Vr;exact List.map_congr_left λi _=>hred i
theorem bOD {r g}(hr:1<=r)(hr4:r<=4)(hg:g≠0):RG (Vr r (eV g),())=some (false,()):=by
 have hlen:(Vr r (eV g)).length=r:=by simp[Vr]
 have h0:(Vr r (eV g)).getD 0 0=g:=by simp[Vr,List.getD,eV,show 0<r by omega]
 have key:=aK (step:=eB) (N:=2^64) (λt=>(Vr r (eV g),(),(r:Int),(t:Int),())) 0 (.inl (0,())) (by omega) (λt ht=>by omega) (by
  have e1:ltI ((0:Nat):Int) (r:Int)=true:=by rw[aF]; grind
  have e2:aE ((0:Nat):Int) (Vr r (eV g)).length=true:=by rw[aL,hlen]; grind
  have e3:((0:Nat):Int).toNat=0:=rfl;have e4:eqI g 0=false:=by rw[bN]; exact oF hg
  simp only[eB,e1,e2,e3,h0,oC,aAN,e4,aC,Bool.not_false];rfl)
 have key:lC (Vr r (eV g),(),((Vr r (eV g)).length:Int),0,())=some (.inl (0,())):=by rw[hlen]; exact key
 have e2:ltI (0:Int) 0=false:=by decide
 simp only[RG,nP,rR,key,aC,rT,e2,Bool.not_false,oC]
theorem bGX v:∀ n,1<=n->dot n (eV 1) v=v 0
 | 1,_=>by simp[dot,eV]
 | n+2,_=>by
  show dot (n+1) (eV 1) v+eV 1 (n+1)*v (n+1)=_;rw[bGX v (n+1) (by simp)];simp[eV]
theorem bP0 {n:Nat}(h1:1<=n)(h4:n<=4):aNA ((n:Int),0,())=some (Vr n (eV 1),0,()):=by rcases(show n=1\/n=2\/n=3\/n=4 by omega)with rfl|rfl|rfl|rfl <;> rfl
section
variable {ps:List Int} {n d r:Nat} {C K:Nat->V}
theorem b1R {p}(hk:Hn r K p){i}(h0:0<i)(hi:i<r):K i 0=0:=hk.low i hi 0 (by have:=hk.inc 0 i h0 hi; omega)
theorem a8L {p}(hk:Hn r K p)(hr:0<r):0<=K 0 0:=by
 rcases Nat.eq_zero_or_pos (p 0)with h|h
 ·have:=hk.pos 0 hr; grind
 ·rw[hk.low 0 hr 0 h]; simp
theorem bXZ(h:RT ps n d r C K)(hn1:1<=n):tmp n r K (Vr n (eV 1))=Vr r (eV (if r=0 then 0 else K 0 0)):=by
 obtain⟨p,hk⟩:=h.hk;unfold tmp Vr;refine List.map_congr_left λi hi=>?_
 have hi :=List.mem_range.1 hi;have e1:eK (List.map (eV 1) (List.range n))=eV 1:=aTR (bF1 hn1);rw[e1,bGX _ n hn1,if_neg (by omega)];unfold eV
 by_cases h0:i=0
 ·grind
 ·rw[if_neg h0,b1R hk (by omega) hi]
theorem bYK {n}:∀ a∈Vr n (eV 1),a.natAbs<=1000000000:=λa ha=>by
 obtain⟨i,_,rfl⟩:=List.mem_map.1 ha;unfold eV; grind
theorem a4M(h:RT ps n d r C K)(hn1:1<=n):gW ((ps,(Mr d n C,Mr r n K)),Vr n (eV 1),())=some (Vr r (eV (if r=0 then 0 else K 0 0)),0,()):=by
 rw[aM9 h (Vr n (eV 1)) (by simp[Vr]) bYK (λi hi=>?_),bXZ h hn1];rw[aTR (bF1 hn1),bGX _ n hn1];exact h.bk i hi 0 (by omega)
theorem U0(h:RT ps n d r C K)(hn1:1<=n)(hr:1<=r)(hg:0<K 0 0):iG ((ps,(Mr d n C,Mr r n K)),())=some (((r:Int),[Vr r (eV (K 0 0))]),0,()):=by
 have n4:=h.n4;obtain⟨p,hk⟩:=h.hk;have r4:=(Hn.wR hk h.wk).1;have e0:eqI 0 0=true:=by rfl
 have t1:=a4M h hn1;rw[if_neg (by omega)]at t1;have e1:((Mr r n K).length)=r:=by simp[Mr]
 have hb:=h.bk 0 (by omega) 0 (by omega);simp only[iG,h.check,aC,e0,Bool.not_true,oD,h.len,bP0 hn1 n4,t1,bOD hr (by omega) (show K 0 0≠0 by omega),e1,b0G hr (by omega) hg (by omega)]
end
theorem bHX {r g}(hr:1<=r)(hr4:r<=4)(hg:0<g):pJ ([Vr r (eV g)],(r:Int),())=some ([Vr r (eV g)],()):=by
 obtain⟨m,rfl⟩:∃ m:Nat,g=((m+1:Nat):Int):=⟨(g-1).toNat,by omega⟩;have h1:pJ ([[((m+1:Nat):Int)]],1,())=some ([[((m+1:Nat):Int)]],()):=by rfl
 have h2:pJ ([[((m+1:Nat):Int),0]],2,())=some ([[((m+1:Nat):Int),0]],()):=by rfl
 have h3:pJ ([[((m+1:Nat):Int),0,0]],3,())=some ([[((m+1:Nat):Int),0,0]],()):=by rfl
 rcases(show r=1\/r=2\/r=3\/r=4 by omega)with rfl|rfl|rfl|rfl
 ·exact h1
 ·exact h2
 ·exact h3
 rfl
theorem aYM {a g:Int}(hg:0<g)(ha:a.natAbs<=1000000000):yK (a,g,())=some (a/g,()):=by
 have e1:eqI g 0=false:=by rw[bN]; exact oF (by omega)
 have h1:=Int.mul_tdiv_add_tmod a g;have h2:=Int.emod_add_mul_ediv a g;have h3:=Int.emod_nonneg a (show g≠0 by omega);have h4:=Int.emod_lt_of_pos a hg;have hb:(a/g).natAbs<=1000000000:=by
  have:=Int.natAbs_ediv_le_natAbs a g;omega
 have hb2:(a.tdiv g).natAbs<=1000000000:=by
  rw[Int.natAbs_tdiv];exact oR (Nat.div_le_self _ _) ha
 unfold yK;simp only[e1,oD];cases hn:ltI (a.tmod g) 0 with
 | true =>
  rw[aF]at hn;have hn:=of_decide_eq_true hn;have h6:(a.tmod g).natAbs<g.natAbs:=by rw[Int.natAbs_tmod]; exact Nat.mod_lt _ (by omega)
  have h5 : -g<a.tmod g:=by omega
  have hq:a/g=a.tdiv g-1:=by grind
  have w1:aA .i64 (a.tdiv g)=a.tdiv g:=wrap64 (by omega) (by omega);rw[oC,w1,wrap64 (by omega) (by omega),hq]
 | false =>
  rw[aF]at hn;have hn:=of_decide_eq_false hn;have h5:a.tmod g<g:=by
   have:=Int.tmod_lt_of_pos a hg;omega
  have hq:a/g=a.tdiv g:=by grind
  rw[oD,wrap64 (by omega) (by omega),hq]
theorem UE {row x y:List Int} {a G:Int} {q:Int} (hx:x.length<=1048576) (hf:yK (a,G,())=some (q,()))
  (sA:CX ([row],x,0,())=aB (yK (a,G,())) λq=>aB (aBW (t:=.int .i64) qR x (row,q.1,())) λy=>some (.inl ([row],y,1,())))
  (sB:aBW (t:=.int .i64) qR x (row,q,())=some y) (sC:CX ([row],y,1,())=some (.inr (y,()))):vZ ([row],x,())=some (y,()):=by
 rw[hf,aC,sB,aC]at sA;have key:=aK (N:=2^64) (λt=>([row],if t=0 then x else y,(t:Int),())) 1 (y,()) (by simp) (λt ht=>by
  grind) sC
 have key:CU ([row],x,0,())=some (y,()):=key;have e1 :=Nat.ble_eq_true_of_le hx;simp only[vZ,e1,oC,key,aC]
theorem bBM {r g}(hr:1<=r)(hr4:r<=4)(hg:0<g)(hg9:g<=1000000000)(x:List Int)(hl:x.length=r)(hx:∀ a∈x,a.natAbs<=1000000000):vZ ([Vr r (eV g)],x,())=some (cl r g x,()):=by
 have fin:∀ a:Int,a.natAbs<=1000000000->aA .i64 (a-aA .i64 (a/g*g))=a%g:=λa ha=>by
  have h2:=Int.emod_add_mul_ediv a g;have h3:=Int.emod_nonneg a (show g≠0 by omega);have h4:=Int.emod_lt_of_pos a hg;have h5:a/g*g=a-a%g:=by rw[Int.mul_comm]; omega
  have w1:aA .i64 (a-a%g)=a-a%g:=wrap64 (by omega) (by omega);rw[h5,w1,wrap64 (by omega) (by omega)];omega
 have fin0:∀ a b:Int,a.natAbs<=1000000000->aA .i64 (a-aA .i64 (b*0))=a:=λa b ha=>by
  have w1:aA .i64 0=0:=wrap64 (by omega) (by omega);rw[Int.mul_zero,w1,wrap64 (by omega) (by omega)]; omega
 obtain⟨m,hm⟩:∃ m:Nat,g=((m+1:Nat):Int):=⟨(g-1).toNat,by omega⟩;have hl1:x.length<=1048576:=by omega
 rcases(show r=1\/r=2\/r=3\/r=4 by omega)with rfl|rfl|rfl|rfl
 ·match x,hl with
  | [a],_ =>
   have ha:=hx a (by simp);have h:=UE (row:=[g]) (x:=[a]) (y:=[aA .i64 (a-aA .i64 (a/g*g))]) hl1 (aYM hg ha) (by rw[hm]; kernel_rfl) (by rw[hm]; kernel_rfl) (by rw[hm]; kernel_rfl);rw[fin a ha]at h;exact h
 ·match x,hl with
  | [a,b],_ =>
   have ha:=hx a (by simp);have h:=UE (row:=[g,0]) (x:=[a,b]) (y:=[aA .i64 (a-aA .i64 (a/g*g)),aA .i64 (b-aA .i64 (a/g*0))]) hl1 (aYM hg ha) (by rw[hm]; kernel_rfl) (by rw[hm]; kernel_rfl) (by rw[hm]; kernel_rfl);rw[fin a ha,fin0 b _ (hx b (by simp))]at h;exact h
 ·match x,hl with
  | [a,b,c],_ =>
   have ha:=hx a (by simp);have h:=UE (row:=[g,0,0]) (x:=[a,b,c]) (y:=[aA .i64 (a-aA .i64 (a/g*g)),aA .i64 (b-aA .i64 (a/g*0)),aA .i64 (c-aA .i64 (a/g*0))]) hl1 (aYM hg ha) (by rw[hm]; kernel_rfl) (by rw[hm]; kernel_rfl) (by rw[hm]; kernel_rfl);rw[fin a ha,fin0 b _ (hx b (by simp)),fin0 c _ (hx c (by simp))]at h;exact h
 ·match x,hl with
  | [a,b,c,e],_ =>
   have ha:=hx a (by simp);have h:=UE (row:=[g,0,0,0]) (x:=[a,b,c,e]) (y:=[aA .i64 (a-aA .i64 (a/g*g)),aA .i64 (b-aA .i64 (a/g*0)),aA .i64 (c-aA .i64 (a/g*0)),aA .i64 (e-aA .i64 (a/g*0))]) hl1 (aYM hg ha) (by rw[hm]; kernel_rfl) (by rw[hm]; kernel_rfl) (by rw[hm]; kernel_rfl);rw[fin a ha,fin0 b _ (hx b (by simp)),fin0 c _ (hx c (by simp)),fin0 e _ (hx e (by simp))]at h;exact h
section
variable {ps:List Int} {n d r:Nat} {C K:Nat->V}
theorem bZY {K r n t}(ht:t<r):(Mr r n K).getD t []=Vr n (K t):=by simp[Mr,ht]
theorem b1P(h:RT ps n d r C K){t}(ht:t<r):K t 0=eV (K 0 0) t:=by
 obtain⟨p,hk⟩:=h.hk;unfold eV
 by_cases h0:t=0
 ·grind
 ·rw[if_neg h0,b1R hk (by omega) ht]
theorem aXX(h:RT ps n d r C K)(hn1:1<=n)(hr:1<=r)(hg:0<K 0 0)(x:List Int)(hl:x.length=r)(hx:∀ a∈x,a.natAbs<=1000000000):eH ((ps,(Mr d n C,Mr r n K)),x,())=some (cl r (K 0 0) x,()):=by
 have n4:=h.n4;obtain⟨p,hk⟩:=h.hk;have r4:=(Hn.wR hk h.wk).1;have hb:=h.bk 0 (by omega) 0 (by omega);have key:=aK (step:=AW) (N:=2^64) (λt=>(x,(ps,(Mr d n C,Mr r n K)),Vr t (eV (K 0 0)),(t:Int),())) r (x,Vr r (eV (K 0 0)),()) (by omega) (λt ht=>?_) ?_
 ·have key:JZ (x,(ps,(Mr d n C,Mr r n K)),[],0,())=some (x,Vr r (eV (K 0 0)),()):=key;have e1:((Vr r (eV (K 0 0))).length:Int)=(r:Int):=by rw[zV]
  simp only[eH,key,aC,e1,bHX hr (by omega) hg,bBM hr (by omega) hg (by omega) x hl hx]
 ·have e1:ltI (t:Int) ((Mr r n K).length:Int)=true:=by rw[aF,eO]; exact oT (by omega)
  have e2:aE (t:Int) (Mr r n K).length=true:=by rw[aL,eO]; exact oT (by omega)
  have e3:((t:Nat):Int).toNat=t:=oN _;have e4:aE 0 (Vr n (K t)).length=true:=by rw[aL,zV]; exact oT (by omega)
  have e5:(Vr n (K t)).getD 0 0=eV (K 0 0) t:=by rw[<- b1P h ht]; simp[Vr,List.getD,show 0<n by omega]
  have e6:Nat.ble [eV (K 0 0) t].length 1048576=true:=rfl;have e7:Nat.ble (Vr t (eV (K 0 0))).length 1048576=true:=by rw[zV]; exact Nat.ble_eq_true_of_le (by omega)
  have e8:=bP t (by omega);have e9:Vr t (eV (K 0 0))++[eV (K 0 0) t]=Vr (t+1) (eV (K 0 0)):=by unfold Vr; rw[List.range_succ,List.map_append]; rfl
  simp only[AW,e1,oC,e2,e3,bZY ht,e4,e5,e6,e7,e8,e9]
 ·have e1:ltI (r:Int) ((Mr r n K).length:Int)=false:=by rw[aF,eO]; exact oF (by omega)
  simp only[AW,e1,oD]
def S6(r:Nat) (K:Nat->V):Bool:=decide (r=0)||decide (K 0 0=0)
theorem bPH(h:RT ps n d r C K)(hn1:1<=n):AA ((ps,(Mr d n C,Mr r n K)),())=some (S6 r K,()):=by
 have n4:=h.n4;obtain⟨p,hk⟩:=h.hk;have r4:=(Hn.wR hk h.wk).1;have at_:∀ t,t<r->kX ((ps,(Mr d n C,Mr r n K)),(t:Int),())=bif !(eqI (eV (K 0 0) t) 0) then some (.inr (.inl (false,()))) else some (.inl ((ps,(Mr d n C,Mr r n K)),((t+1:Nat):Int),())):=λt ht=>by
  have e1:ltI (t:Int) ((Mr r n K).length:Int)=true:=by rw[aF,eO]; exact oT (by omega)
  have e2:aE (t:Int) (Mr r n K).length=true:=by rw[aL,eO]; exact oT (by omega)
  have e3:((t:Nat):Int).toNat=t:=oN _;have e4:aE 0 (Vr n (K t)).length=true:=by rw[aL,zV]; exact oT (by omega)
  have e5:(Vr n (K t)).getD 0 0=eV (K 0 0) t:=by rw[<- b1P h ht]; simp[Vr,List.getD,show 0<n by omega]
  have e8:=bP t (by omega);simp only[kX,e1,oC,e2,e3,bZY ht,e4,e5,e8]
 have end_:kX ((ps,(Mr d n C,Mr r n K)),(r:Int),())=some (.inr (.inr ())):=by
  have e1:ltI (r:Int) ((Mr r n K).length:Int)=false:=by rw[aF,eO]; exact oF (by omega)
  simp only[kX,e1,oD]
 by_cases hl:r=0\/K 0 0=0
 ·have hI:S6 r K=true:=by unfold S6; simpa using hl
  have key:=aK (step:=kX) (N:=2^64) (λt=>((ps,(Mr d n C,Mr r n K)),(t:Int),())) r (.inr ()) (by omega) (λt ht=>by
   rw[at_ t ht];have e:eqI (eV (K 0 0) t) 0=true:=by
    rw[bN];refine oT ?_;rcases hl with hl|hl
    ·omega
    ·unfold eV; rw[hl]; split <;> rfl
   rw[e]; rfl) end_
  have key:B2 ((ps,(Mr d n C,Mr r n K)),0,())=some (.inr ()):=key;simp only[AA,key,aC,bV,hI]
 ·have hI:S6 r K=false:=by unfold S6; simpa using hl
  have key:=aK (step:=kX) (N:=2^64) (λt=>((ps,(Mr d n C,Mr r n K)),(t:Int),())) 0 (.inl (false,())) (by omega) (λt ht=>by omega) (by
   rw[at_ 0 (by omega)];have e:eqI (eV (K 0 0) 0) 0=false:=by
    rw[bN];exact oF (λe=>hl (.inr e))
   rw[e]; rfl)
  have key:B2 ((ps,(Mr d n C,Mr r n K)),0,())=some (.inl (false,())):=key;simp only[AA,key,aC,rT,hI]
end
end Go.PM
namespace Go.PM
def cmpL:List Int->List Int->Int
 | [],[]=>0
 | [],_::_=>-1
 | _::_,[]=>1
 | a::l,b::m=>if a<b then -1 else if b<a then 1 else cmpL l m
theorem aFO:∀ l,cmpL l l=0
 | []=>rfl
 | a::l=>by simp[cmpL,aFO l]
theorem aFY:∀ {l m},¬ cmpL l m<0->¬ cmpL m l<0->l=m
 | [],[],_,_=>rfl
 | [],_::_,h,_=>by simp[cmpL]at h
 | _::_,[],_,h=>by simp[cmpL]at h
 | a::l,b::m,h,k=>by
  simp only[cmpL]at h k
  by_cases h1:a<b
  ·grind
  ·by_cases h2:b<a
   ·omega
   ·rw[if_neg h1,if_neg h2]at h;rw[if_neg h2,if_neg h1]at k;have:a=b:=by omega
    rw[this,aFY h k]
theorem aF3:∀ {l m n},cmpL l m<0->cmpL m n<0->cmpL l n<0
 | [],[],_,h,_=>by simp[cmpL]at h
 | [],_::_,[],_,k=>by simp[cmpL]at k
 | [],_::_,_::_,_,_=>by simp[cmpL]
 | _::_,[],_,h,_=>by simp[cmpL]at h
 | _::_,_::_,[],_,k=>by simp[cmpL]at k
 | a::l,b::m,c::n,h,k=>by
  simp only[cmpL]at h k ⊢
  by_cases h1:a<b
  ·grind
  ·by_cases h2:b<a
   ·rw[if_neg h1,if_pos h2]at h; omega
   ·rw[if_neg h1,if_neg h2]at h
    by_cases h3:b<c
    ·rw[if_pos (show a<c by omega)]; omega
    ·by_cases h4:c<b
     ·rw[if_neg h3,if_pos h4]at k; omega
     ·rw[if_neg h3,if_neg h4]at k;rw[if_neg (show ¬ a<c by omega),if_neg (show ¬ c<a by omega)];exact aF3 h k
theorem a06:∀ {l m},cmpL l m<0->¬ cmpL m l<0:=λh k=>by
 have:=aF3 h k;rw[aFO]at this; omega
theorem aZB {α β:Type} f (g:α->β):∀ l:List Nat,(l.findSome? λi=>(f i).map g)=(l.findSome? f).map g
 | []=>rfl
 | i::l=>by
  rw[List.findSome?_cons,List.findSome?_cons];cases h:f i with
  | some y=>rfl
  | none=>exact aZB f g l
def a0R(l m:List Int) (i:Nat):Option Int :=
 if ¬ i<m.length then some 1 else if l.getD i 0<m.getD i 0 then some (-1) else if m.getD i 0<l.getD i 0 then some 1 else none
theorem bRT:∀ l m j,((List.range' j (l.length-j)).findSome? (a0R l m)).getD (if l.length<m.length then -1 else 0)=cmpL (l.drop j) (m.drop j)\/l.length<j
 | l,m,j=>by
  rcases Nat.lt_or_ge l.length j with h|h
  ·exact .inr h
  ·left;generalize hn:l.length-j=n
   induction n generalizing j with
   | zero =>
    have h1:l.drop j=[]:=List.drop_eq_nil_of_le (by omega);rw[h1];simp only[List.range'_zero,List.findSome?_nil,Option.getD_none]
    by_cases h2:l.length<m.length
    ·rw[if_pos h2,List.drop_eq_getElem_cons (show j<m.length by omega)]; rfl
    ·rw[if_neg h2,List.drop_eq_nil_of_le (show m.length<=j by omega)]; rfl
   | succ n ih =>
    have hj:j<l.length:=by omega
    rw[List.range'_succ,List.findSome?_cons,List.drop_eq_getElem_cons hj];unfold a0R
    by_cases h2:j<m.length
    ·rw[if_neg (λh=>h h2),List.drop_eq_getElem_cons h2];have g1:l.getD j 0=l[j]:=by rw[List.getD_eq_getElem?_getD,List.getElem?_eq_getElem hj]; rfl
     have g2:m.getD j 0=m[j]:=by rw[List.getD_eq_getElem?_getD,List.getElem?_eq_getElem h2]; rfl
     rw[g1,g2];simp only[cmpL]
     by_cases h3:l[j]<m[j]
     ·rw[if_pos h3,if_pos h3]; rfl
     ·rw[if_neg h3,if_neg h3]
      by_cases h4:m[j]<l[j]
      ·rw[if_pos h4,if_pos h4]; rfl
      ·rw[if_neg h4,if_neg h4];exact ih (j+1) (by omega) (by omega)
    ·rw[if_pos h2,List.drop_eq_nil_of_le (show m.length<=j by omega)]; rfl
theorem bH1:∀ {l m},cmpL l m=0->l=m
 | [],[],_=>rfl
 | [],_::_,h=>by simp[cmpL]at h
 | _::_,[],h=>by simp[cmpL]at h
 | a::l,b::m,h=>by
  simp only[cmpL]at h
  by_cases h1:a<b
  ·omega
  ·rw[if_neg h1]at h
   by_cases h2:b<a
   ·omega
   ·rw[if_neg h2]at h;rw[bH1 h,show a=b by omega]
end Go.PM
namespace Go.PM
open Go Go.RowKit Go.Proofs
theorem aJ7(a:Int):QW (a,())=some (false,()):=by unfold QW; simp[bN]
theorem aU4(a b:Int):R1 (a,b,())=some (if a<b then -1 else if b<a then 1 else 0,()):=by
 unfold R1; dsimp only;rw[aJ7,aC,aJ7,aC];simp only[aF];grind
theorem ZM(l m:List Int)(hl:l.length<=9223372036854775806)(hm:m.length<=9223372036854775806):wU (l,m,())=some (cmpL l m,()):=by
 have hloop:xW (l,m,l,(l.length:Int),0,())=some (((List.range l.length).findSome? λi=>(a0R l m i).map λy=>.inl (y,())).getD (.inr (l,m,()))):=by
  refine aPW (N:=2^64) (step:=pR) (λi=>(l,m,l,(l.length:Int),(i:Int),())) (λi=>(a0R l m i).map λy=>.inl (y,())) l.length (.inr (l,m,())) (by omega) ?_ ?_
  ·intro i hi;simp only[pR,aF,bN,aL,aYS,yJ,oN];rw[if_pos (by omega),if_pos (by omega),aU4,aC,bP i (by omega)]
   by_cases h2:i<m.length
   ·rw[if_neg (by omega),if_pos (by omega)]
    by_cases h3:l.getD i 0<m.getD i 0
    ·have hc:a0R l m i=some (-1):=by unfold a0R; rw[if_neg (λh=>h h2),if_pos h3]
     rw[hc,if_pos h3,if_pos (by decide)]; rfl
    ·by_cases h4:m.getD i 0<l.getD i 0
     ·have hc:a0R l m i=some 1:=by unfold a0R; rw[if_neg (λh=>h h2),if_neg h3,if_pos h4]
      rw[hc,if_neg h3,if_pos h4,if_pos (by decide)]; rfl
     ·have hc:a0R l m i=none:=by unfold a0R; rw[if_neg (λh=>h h2),if_neg h3,if_neg h4]
      rw[hc,if_neg h3,if_neg h4,if_neg (by decide)]; rfl
   ·have hc:a0R l m i=some 1:=by unfold a0R; rw[if_pos h2]
    rw[hc,if_pos (by omega)]; rfl
  ·simp only[pR,aF,yJ];rw[if_neg (by omega)]
 have hfind:=(bRT l m 0).resolve_right (by omega);rw[Nat.sub_zero,<- List.range_eq_range']at hfind;simp only[List.drop_zero]at hfind;unfold wU; dsimp only;rw[hloop,aC,aZB,<- hfind];cases (List.range l.length).findSome? (a0R l m)with
 | some y=>rfl
 | none =>
  simp only[Option.map_none,Option.getD_none,bV,aF,yJ]
  by_cases h:l.length<m.length
  ·rw[if_pos h,if_pos (by omega)]
  ·rw[if_neg h,if_neg (by omega)]
theorem aDB(l m:List Int)(hl:l.length<=9223372036854775806)(hm:m.length<=9223372036854775806):XM (l,m,())=some (cmpL l m,()):=by
 unfold XM; dsimp only;rw[ZM l m hl hm,aC]
def a0U:List (List Int)->List Int->List (List Int)
 | [],r=>[r]
 | a::l,r=>if cmpL a r<0 then a::a0U l r else if a=r then a::l else r::a::l
def aZJ:List (List Int)->List Int->Nat
 | [],_=>0
 | a::l,r=>if cmpL a r<0 then aZJ l r+1 else 0
theorem bO2:∀ l r,aZJ l r<=l.length
 | [],_=>oM _
 | a::l,r=>by
  unfold aZJ;have:=bO2 l r;grind
theorem bO5:∀ l r t,t<aZJ l r->cmpL (l.getD t []) r<0
 | [],_,t,h=>absurd h (Nat.not_lt_zero _)
 | a::l,r,t,h=>by
  unfold aZJ at h;split at h
  ·rename_i hc;cases t with
   | zero=>grind
   | succ t=>exact bO5 l r t (by omega)
  omega
theorem bPA:∀ l r,aZJ l r<l.length->¬ cmpL (l.getD (aZJ l r) []) r<0
 | [],_,h=>absurd h (Nat.not_lt_zero _)
 | a::l,r,h=>by
  unfold aZJ at h ⊢;split
  ·rename_i hc;rw[if_pos hc]at h;exact bPA l r (by grind)
  grind
theorem bEH:∀ l r,a0U l r=if aZJ l r<l.length/\l.getD (aZJ l r) []=r then l else l.take (aZJ l r)++r::l.drop (aZJ l r)
 | [],r=>by rfl
 | a::l,r=>by
  unfold a0U aZJ
  by_cases hc:cmpL a r<0
  ·rw[if_pos hc,if_pos hc,bEH l r];grind
  grind
theorem insert_eq(l:List (List Int))(r:List Int)(hl:l.length<=1000000)(hr:r.length<=1000000)(hw:∀ a∈l,a.length<=1000000):fR (l,r,())=some (a0U l r,()):=by
 have iN:∀ t,(l.getD t []).length<=1000000:=λt=>by
  by_cases h:t<l.length
  ·have:l.getD t []=l[t]:=by simp[List.getD,h]
   rw[this]; exact hw _ (List.getElem_mem h)
  ·simp[List.getD,List.getElem?_eq_none (show l.length<=t by omega)]
 have hk:=bO2 l r;generalize hkk:aZJ l r=k at hk;have key:=aK (step:=sS) (N:=2^64) (λt=>(l,r,(t:Int),())) k (l,r,(k:Int),()) (by omega) (λt ht=>?_) ?_
 ·have key:GV (l,r,0,())=some (l,r,(k:Int),()):=key;have e1:ltI (k:Int) 0=false:=by rw[aF]; exact oF (by omega)
  have b1:Nat.ble 0 k=true:=Nat.ble_eq_true_of_le (Nat.zero_le _);have b2:Nat.ble k k=true:=Nat.ble_eq_true_of_le (oM _);have b3:Nat.ble k l.length=true:=Nat.ble_eq_true_of_le hk;have b4:Nat.ble l.length l.length=true:=Nat.ble_eq_true_of_le (oM _);have b5:Nat.ble ((l.drop k).take (l.length-k)).length 1048576=true:=Nat.ble_eq_true_of_le (by simp; omega);have b6:Nat.ble [r].length 1048576=true:=rfl;have b7:Nat.ble ([r]++((l.drop k).take (l.length-k))).length 1048576=true:=Nat.ble_eq_true_of_le (by simp; omega)
  have b8:Nat.ble ((l.drop 0).take (k-0)).length 1048576=true:=Nat.ble_eq_true_of_le (by simp; omega);have b9:(Nat.beq (k-0) 0||Nat.blt (k-0) (((l.drop 0).take (k-0)).length+([r]++((l.drop k).take (l.length-k))).length))=true:=by
   rw[Bool.or_eq_true];right;rw[cF];exact oT (by simp; omega)
  have e3:((k:Nat):Int).toNat=k:=oN _;have hins:((l.drop 0).take (k-0))++([r]++((l.drop k).take (l.length-k)))=l.take k++r::l.drop k:=by rw[List.drop_zero,Nat.sub_zero,List.take_of_length_le (l:=l.drop k) (by simp)]; rfl
  rw[bEH,hkk]
  by_cases hlt:k<l.length
  ·have e2:ltI (k:Int) (l.length:Int)=true:=by rw[aF]; exact oT (by omega)
   have e4:aE (k:Int) l.length=true:=by rw[aL]; exact oT (by omega)
   have e5:kJ (l.getD k [],r,())=some (decide (l.getD k []=r),()):=by
    have:=aTL (l.getD k []) r (by have:=iN k; omega);simp only[kJ,this,aC]
   by_cases he:l.getD k []=r
   ·rw[if_pos ⟨hlt,he⟩];rw[oT he]at e5;simp only[fR,key,aC,e2,oC,e4,e3,e5]
   ·rw[if_neg (λh=>he h.2)];rw[oF he]at e5;simp only[fR,key,aC,e2,oC,e4,e3,e5,oD,e1,Bool.not_false,b1,b2,b3,b4,b5,b6,b7,b8,b9,hins]
  ·have e2:ltI (k:Int) (l.length:Int)=false:=by rw[aF]; exact oF (by omega)
   rw[if_neg (λh=>hlt h.1)];simp only[fR,key,aC,e2,oD,oC,e3,e1,Bool.not_false,b1,b2,b3,b4,b5,b6,b7,b8,b9,hins]
 ·have e1:ltI (t:Int) (l.length:Int)=true:=by rw[aF]; exact oT (by omega)
  have e2:aE (t:Int) l.length=true:=by rw[aL]; exact oT (by omega)
  have e3:((t:Nat):Int).toNat=t:=oN _;have e4:=aDB (l.getD t []) r (by have:=iN t; omega) (by omega);have e5:ltI (cmpL (l.getD t []) r) 0=true:=by rw[aF]; exact oT (bO5 l r t (by omega))
  have e6:=bP t (by omega);simp only[sS,e1,oC,e2,e3,e4,aC,e5,e6]
 ·by_cases hlt:k<l.length
  ·have e1:ltI (k:Int) (l.length:Int)=true:=by rw[aF]; exact oT (by omega)
   have e2:aE (k:Int) l.length=true:=by rw[aL]; exact oT (by omega)
   have e3:((k:Nat):Int).toNat=k:=oN _;have e4:=aDB (l.getD k []) r (by have:=iN k; omega) (by omega);have e5:ltI (cmpL (l.getD k []) r) 0=false:=by
    rw[aF];refine oF ?_;have:=bPA l r (by omega);rw[hkk]at this;exact this
   simp only[sS,e1,oC,e2,e3,e4,aC,e5,oD]
  ·have e1:ltI (k:Int) (l.length:Int)=false:=by rw[aF]; exact oF (by omega)
   simp only[sS,e1,oD]
end Go.PM
namespace Go.PM
open Go Go.RowKit
def ins(x:Int):List Int->List Int
 | []=>[x]
 | y::l=>bif ltI y x then y::ins x l else x::y::l
def srt:List Int->List Int
 | []=>[]
 | x::l=>ins x (srt l)
theorem a7Z x:∀ l,List.Perm (ins x l) (x::l)
 | []=>.refl _
 | y::l=>by
  unfold ins;cases ltI y x with
  | true=>exact((a7Z x l).cons y).trans (.swap x y l)
  | false=>rfl
theorem aY2:∀ l,List.Perm (srt l) l
 | []=>.refl _
 | x::l=>(a7Z x (srt l)).trans ((aY2 l).cons x)
theorem a8T x:∀ l ,l.Pairwise (·<=·)->(ins x l).Pairwise (·<=·)
 | [],_=>by simp[ins]
 | y::l,h=>by
  have⟨h1,h2⟩:=List.pairwise_cons.1 h;unfold ins;rw[aF]
  by_cases hy:y<x
  ·rw[oT hy];refine List.pairwise_cons.2 ⟨λz hz=>?_,a8T x l h2⟩;rcases List.mem_cons.1 ((a7Z x l).mem_iff.1 hz)with rfl|hz
   ·omega
   grind
  ·rw[oF hy];refine List.pairwise_cons.2 ⟨λz hz=>?_,h⟩;grind
theorem aVZ:∀ l,(srt l).Pairwise (·<=·)
 | []=>.nil
 | x::l=>a8T x _ (aVZ l)
theorem bNO {l l'}(hp:List.Perm l l')(hs:l.Pairwise (·<=·)):srt l'=l :=
 List.Perm.eq_of_pairwise (λ_ _ _ _ h k=>Int.le_antisymm h k) (aVZ l') hs ((aY2 l').trans hp.symm)
theorem bQ9 l:(l.mergeSort λx y=>decide (x<=y))=srt l:=by
 refine(bNO (List.mergeSort_perm l _) ?_).symm;refine(List.pairwise_mergeSort ?_ ?_ l).imp (λh=>by grind)
 ·grind
 grind
theorem a6X l:(srt l).length=l.length:=(aY2 l).length_eq
def bIV(l:List Int):Option (List Int):=bif Nat.blt l.length 4611686018427387904 then some (srt l) else none
def bWD(args:List PV) (H:Heap):Option aV3:=match args with
 | [.own r sz]=>match iN H r with
  | some k=>match k.tag with
   | some g=>match KZ g.t (.int .i64) g.l with
    | some l=>bif Nat.beq sz 1&&!k.frozen then some ⟨List Int,bIV l,λl'=>(.tuple [],H.set r (some ⟨aI (.int .i64) l',k.ty,k.grown,false,some ⟨.int .i64,l'⟩⟩))⟩ else none
    | none=>none
   | none=>none
  | none=>none
 | _=>none
section
variable {P:Program} {n0:Nat->Prop} {w:World} {G:Gd} {μ:Mp} {H:Heap}
theorem aOY:∀ (l:List Int),aI (.int .i64) l=l.map λn=>PV.lit (.int .i64 n)
 | []=>rfl
 | x::l=>by rw[yT,aOY l]; rfl
theorem bDI(hW:aX n0 G μ H w) os:Ext n0 w G μ (Sort.grow w os) G μ/\aX n0 G μ H (Sort.grow w os):=by
 have hg:∀ b,b<w.heap.size->(Sort.grow w os).heap[b]?=w.heap[b]?:=λb hb=>by
  show (w.heap++os)[b]?=_;grind
 have e:Ext n0 w G μ (Sort.grow w os) G μ:={
  good:=λb hb=>⟨hb,hg b (hW.lt b hb)⟩
  map:=λ_ _ h=>h
  len:=λ_ _ h=>h
  room:=λb n hb=>by
   obtain⟨c,t,fr,h1,h2⟩:=hb;exact⟨c,t,fr,by grind,h2⟩
  row:=λ_ _ h=>h
  os:=rfl
  tape:=rfl
  output:=rfl
  size:=by simp
  old:=λb hb _=>hg b hb
  new:=λb hb=>.inl hb }
 refine⟨e,hW.keep e ⟨λ_=>rfl,λj b hj=>⟨hg b (hW.rows.sep j b hj).1,id⟩⟩ (λr k b hr hb=>⟨hg b (hW.vB hr hb),id⟩) λb hb=>Nat.lt_of_lt_of_le (hW.lt b hb) e.size⟩
theorem bXN {g} (henter:∀ xs w,(callFunc g xs).run P w=.ok (.enter g xs) w)
  (hS:∀ blk off cap (zs:List Int) w,Sort.Holds (Value.int .i64) w blk off zs.toArray->blk<w.heap.size->zs.length<4611686018427387904 ->
   Calls P g #[.slice (some ⟨blk,off,none⟩) zs.length cap] w λe w'=>e=.returned (.tuple #[])/\∃ n os,w'=Sort.grow (Sort.putRow (Value.int .i64) (Sort.ahead w n) blk off (zs.mergeSort λx y=>decide (x<=y)).toArray) os)
  (hN:∀ p cap w,Calls P g #[.slice p 0 cap] w λe w'=>e=.returned (.tuple #[])/\w'=w)
  {args r} (h:bWD args H=some r):∀ y,r.val=some y->∀ {n0 G μ w vs},aX n0 G μ H w->VRs w G μ args vs->DI P n0 w G μ g vs.toArray (r.out y).1 (r.out y).2:=by
 unfold bWD at h;split at h
 ·rename_i s sz;split at h
  ·rename_i k hk;split at h
   ·rename_i t ht;split at h
    ·rename_i l hl;obtain⟨hb,h⟩:=VI h;simp only[oA,Bool.not_eq_true']at hb;have hfz:=hb.2;replace hb:=oE hb.1;simp only[oJ]at h;subst h;subst hb;intro y hy n0 G μ w vs hW hv;unfold bIV at hy;obtain⟨hlen,hy⟩:=aJ hy;simp only[oJ]at hy;subst hy;have hlen:=gE hlen;obtain⟨tt,tl⟩:=t;obtain⟨e0,he⟩:=mL hl;dsimp only at e0 he;subst e0;dsimp only at he;subst he;obtain⟨hcells,hmlen⟩:=hW.tags s k _ (aG hk) ht
     dsimp only at hcells hmlen hlen ⊢;rw[VRs]at hv;obtain⟨v,us,rfl,h1,h2⟩:=hv;rw[VRs]at h2;subst h2;rw[VR]at h1;obtain⟨n,h3,h4⟩:=h1;rw[hmlen]at h3;cases h3;refine⟨henter _ _,?_⟩;rcases h4 with ⟨h5,ao,rfl⟩|⟨b,c,h5,rfl,h7,h8,h9s⟩
     ·have hnil:tl=[]:=List.eq_nil_of_length_eq_zero h5;subst hnil;refine(hN ao 0 w).mono ?_;rintro e w' ⟨rfl,rfl⟩;have hk':(⟨aI (.int .i64) (srt []),k.ty,k.grown,false,some ⟨.int .i64,srt []⟩⟩:Blk)=k:=by
       obtain⟨k1,k2,k3,k4,k5⟩:=k;dsimp only at hcells hfz ht;have hs0:srt []=[]:=by simp[srt]
       rw[hcells,hfz,ht,hs0]
      have hset:H.set s (some ⟨aI (.int .i64) (srt []),k.ty,k.grown,false,some ⟨.int .i64,srt []⟩⟩)=H:=by
       rw[hk'];apply List.ext_getElem?;intro i
       by_cases hi:s=i
       ·subst hi;rw[List.getElem?_set_self (oO.1 (aG hk)).1,aG hk]
       ·rw[List.getElem?_set_ne hi]
      refine⟨_,G,μ,rfl,Ext.refl _ _ _ _,?_,?_⟩
      ·rw[hset]; exact hW
      ·rw[VR]; exact⟨#[],rfl,by simp[VRs]⟩
     ·obtain⟨cc,a1,a2,a3,_,a5⟩:=hW.blk s k b (aG hk) h5;rw[hcells,aOY,h9s]at a2;rw[h9s];have hcell:∀ i (hi:i<tl.length),w.cell? ⟨b,i,none⟩=some (.int .i64 tl[i]):=λi hi=>by
       obtain⟨v,b1,b2⟩:=a2.get (i:=i) (p:=.lit (.int .i64 tl[i])) (by simp[hi]);rw[VR]at b2;rw[Nat.zero_add]at b1;rw[b1,b2]
      have hcc:∀ i (hi:i<tl.length),cc[i]?=some (.int .i64 tl[i]):=λi hi=>by
       have:=hcell i hi;simp only[World.cell?,a1]at this;simpa using this
      have hholds:Sort.Holds (Value.int .i64) w b 0 tl.toArray:=by
       intro j hj;have hj':j<tl.length:=by simpa using hj
       refine⟨?_,?_⟩
       ·rw[Nat.zero_add,hcell j hj']
        congr 2
        rw[getElem!_pos _ j hj];simp
       ·simp[World.frozen?,a1]
      have hS':=hS b 0 c tl w hholds (gN a1) hlen;rw[bQ9]at hS';refine hS'.mono ?_;rintro e w' ⟨rfl,m,os,rfl⟩;have e1:=aNJ (n0:=n0) (w:=w) (G:=G) (μ:=μ) (Nat.le_add_right w.drawn m);have w1:=ZI hW (w.drawn+m);have hsl:(srt tl).length=tl.length:=a6X tl;have hcs:tl.length<=cc.size:=by
       rcases oG cc.size tl.length with hlt|hge
       ·have:=hcc cc.size hlt;simp at this
       ·exact hge
      have hT:Z4 { w with drawn:=w.drawn+m } (Sort.putRow (Value.int .i64) (Sort.ahead w m) b 0 (srt tl).toArray) b (Sort.putCells (Value.int .i64) 0 (srt tl).toArray cc) k.ty:={
       at_:=by
        show (w.heap.modify b _)[b]?=_;rw[Array.getElem?_modify,if_pos rfl,a1]; rfl
       other:=λx hx=>by
        show (w.heap.modify b _)[x]?=_;rw[Array.getElem?_modify,if_neg (Ne.symm hx)]
       os:=rfl
       tape:=rfl
       output:=rfl
       size:=by show (w.heap.modify b _).size=_; simp
       drawn:=rfl }
      have hps:(Sort.putCells (Value.int .i64) 0 (srt tl).toArray cc).size=cc.size:=by simp[Sort.putCells]
      have hnew:∀ i (hi:i<(srt tl).length),(Sort.putCells (Value.int .i64) 0 (srt tl).toArray cc)[i]?=some (.int .i64 (srt tl)[i]):=λi hi=>by
       have h9:i<cc.size:=by omega
       simp only[Sort.putCells,Array.getElem?_mapIdx,Array.getElem?_eq_getElem h9,Option.map_some,Nat.zero_le,true_and,Nat.zero_add,List.size_toArray,hi,if_true,Nat.sub_zero];rw[getElem!_pos _ i (by simpa using hi)];simp
      have hkk:aT (Sort.putRow (Value.int .i64) (Sort.ahead w m) b 0 (srt tl).toArray) G μ b 0 (aI (.int .i64) (srt tl)):=by
       rw[aOY];refine aT.mk λi p hp=>?_
       rw[List.getElem?_map]at hp;cases hi:(srt tl)[i]? with
       | none=>rw[hi]at hp; cases hp
       | some x =>
        rw[hi]at hp;simp only[Option.map_some,oJ]at hp;subst hp;obtain⟨hlt,hx⟩:=oO.1 hi;refine⟨.int .i64 x,?_,by rw[VR]⟩;simp only[World.cell?,hT.at_,Nat.zero_add];rw[<- hx];simpa using hnew i hlt
      have e2:=FD w1 (aG hk) hfz h5 (c:=cc) (by exact a1) hT hps;have w2:=IB w1 (aG hk) hfz h5 (c:=cc) (k':=⟨aI (.int .i64) (srt tl),k.ty,k.grown,false,some ⟨.int .i64,srt tl⟩⟩) (by exact a1) hT hps rfl (by rw[h9s]; exact hkk)
       (λhg=>by
        rw[hps,a3 hg,hcells,bG,bG,hsl])
       (λg hg=>by cases hg; exact⟨rfl,by rw[hmlen,hsl]⟩)
      obtain⟨e3,w3⟩:=bDI w2 os;refine⟨_,G,μ,rfl,(e1.trans e2).trans e3,w3,?_⟩;rw[VR]; exact⟨#[],rfl,by simp[VRs]⟩
    ·cases h
   ·cases h
  ·cases h
 ·cases h
end
def bN8 {α:Type} (lt:α->α->Bool) (x:α):List α->List α
 | []=>[x]
 | y::l=>bif lt y x then y::bN8 lt x l else x::y::l
def aVW {α}(lt:α->α->Bool):List α->List α
 | []=>[]
 | x::l=>bN8 lt x (aVW lt l)
section
variable {P:Program} {n0:Nat->Prop} {w w':World} {G G':Gd} {μ μ':Mp} {H:Heap}
structure El (t:Ty) where
 l:List t.den
 ao:Option Addr
 cap:Nat
def El.v {t}(e:El t):Value:=.slice e.ao e.l.length e.cap
def aOV {t:Ty}(D:List t.den->Bool)(lt:List t.den->List t.den->Bool)(l:List (List t.den)):Option (List (List t.den)):=bif Nat.blt 0 l.length&&Nat.blt l.length 4611686018427387904&&l.all D then some (aVW lt l) else none
end
open Go Go.RowKit Go.Proofs Tryz
set_option maxHeartbeats 4000000
end Go.PM
namespace Go.PM
open Go Go.RowKit
open Go Go.RowKit Go.Proofs Tryz
set_option maxHeartbeats 4000000
end Go.PM
namespace Go.PM
open Go Go.RowKit Go.Proofs
theorem bDD {l:List (List Int)}{i}(h:i<l.length):l.getD i []∈l:=by grind
def SI(l:List (List Int)):Prop:=l.Pairwise λa b=>cmpL a b<0
end Go.PM
namespace Go.PM
open Go Go.RowKit
section
variable {P:Program} {n0:Nat->Prop} {w:World} {G:Gd} {μ:Mp} {H:Heap}
theorem bNI(hW:aX n0 G μ H w) {s:Nat} {k:Blk} {l l':List Int} (hk:H[s]?=some (some k)) (hfz:k.frozen=false) (htag:k.tag=some ⟨.int .i64,l⟩) {b:Nat} (hb:μ.loc s=some b) (hs0:μ.sh s=0) (hl:l'.length=l.length) (m:Nat) :
  Ext n0 w G μ (Sort.putRow (Value.int .i64) (Sort.ahead w m) b 0 l'.toArray) G μ/\aX n0 G μ (H.set s (some ⟨aI (.int .i64) l',k.ty,k.grown,false,some ⟨.int .i64,l'⟩⟩)) (Sort.putRow (Value.int .i64) (Sort.ahead w m) b 0 l'.toArray):=by
 obtain⟨hcells,hmlen⟩:=hW.tags s k _ hk htag;dsimp only at hcells hmlen;obtain⟨cc,a1,a2,a3,_,a5⟩:=hW.blk s k b hk hb;rw[hcells,aOY,hs0]at a2;have hcs:l.length<=cc.size:=by
  rcases oG cc.size l.length with hlt|hge
  ·obtain⟨v,b1,b2⟩:=a2.get (i:=cc.size) (p:=.lit (.int .i64 l[cc.size])) (by simp[hlt]);simp[World.cell?,a1]at b1
  ·exact hge
 have e1:=aNJ (n0:=n0) (w:=w) (G:=G) (μ:=μ) (Nat.le_add_right w.drawn m);have w1:=ZI hW (w.drawn+m);have hT:Z4 { w with drawn:=w.drawn+m } (Sort.putRow (Value.int .i64) (Sort.ahead w m) b 0 l'.toArray) b (Sort.putCells (Value.int .i64) 0 l'.toArray cc) k.ty:={
  at_:=by
   show (w.heap.modify b _)[b]?=_;rw[Array.getElem?_modify,if_pos rfl,a1]; rfl
  other:=λx hx=>by
   show (w.heap.modify b _)[x]?=_;rw[Array.getElem?_modify,if_neg (Ne.symm hx)]
  os:=rfl
  tape:=rfl
  output:=rfl
  size:=by show (w.heap.modify b _).size=_; simp
  drawn:=rfl }
 have hps:(Sort.putCells (Value.int .i64) 0 l'.toArray cc).size=cc.size:=by simp[Sort.putCells]
 have hnew:∀ i (hi:i<l'.length),(Sort.putCells (Value.int .i64) 0 l'.toArray cc)[i]?=some (.int .i64 l'[i]):=λi hi=>by
  have h9:i<cc.size:=by omega
  simp only[Sort.putCells,Array.getElem?_mapIdx,Array.getElem?_eq_getElem h9,Option.map_some,Nat.zero_le,true_and,Nat.zero_add,List.size_toArray,hi,if_true,Nat.sub_zero];rw[getElem!_pos _ i (by simpa using hi)];simp
 have hkk:aT (Sort.putRow (Value.int .i64) (Sort.ahead w m) b 0 l'.toArray) G μ b 0 (aI (.int .i64) l'):=by
  rw[aOY];refine aT.mk λi p hp=>?_
  rw[List.getElem?_map]at hp;cases hi:l'[i]? with
  | none=>rw[hi]at hp; cases hp
  | some x =>
   rw[hi]at hp;simp only[Option.map_some,oJ]at hp;subst hp;obtain⟨hlt,hx⟩:=oO.1 hi;refine⟨.int .i64 x,?_,by rw[VR]⟩;simp only[World.cell?,hT.at_,Nat.zero_add];rw[<- hx];simpa using hnew i hlt
 have e2:=FD w1 hk hfz hb (c:=cc) (by exact a1) hT hps;have w2:=IB w1 hk hfz hb (c:=cc) (k':=⟨aI (.int .i64) l',k.ty,k.grown,false,some ⟨.int .i64,l'⟩⟩) (by exact a1) hT hps rfl (by rw[hs0]; exact hkk)
  (λhg=>by
   rw[hps,a3 hg,hcells,bG,bG,hl])
  (λg hg=>by cases hg; exact⟨rfl,by rw[hmlen,hl]⟩)
 exact⟨e1.trans e2,w2⟩
def aS5(l:List Int):Option (List Int):=bif Nat.ble l.length 9223372036854775807 then some (Lib.compact l) else none
def bAF(args:List PV)(H:Heap):Option aV3:=match args with
 | [.own r sz]=>match iN H r with
  | some k=>match k.tag with
   | some g=>match KZ g.t (.int .i64) g.l with
    | some l=>bif Nat.beq sz 1&&!k.frozen then some ⟨List Int,aS5 l,λl'=>(.own H.length 1,H.set r none++[some ⟨aI (.int .i64) l',k.ty,true,false,some ⟨.int .i64,l'⟩⟩])⟩ else none
    | none=>none
   | none=>none
  | none=>none
 | _=>none
theorem bKX(hW:aX n0 G μ H w) {s:Nat} {e:TypeId} {gr:Bool} {l l' zs:List Int} (hk:H[s]?=some (some ⟨aI (.int .i64) l,e,gr,false,some ⟨.int .i64,l⟩⟩)) (hl:l=l'++zs) {b:Nat} (hb:μ.loc s=some b) (hs0:μ.sh s=0) :
  Ext n0 w G μ w G (upd μ H.length (some b) (some l'.length))/\aX n0 G (upd μ H.length (some b) (some l'.length)) (H.set s none++[some ⟨aI (.int .i64) l',e,true,false,some ⟨.int .i64,l'⟩⟩]) w:=by
 have hk0:=wB hW s;have hlen:(H.set s none).length=H.length:=by simp
 have e1:=SE hW (some b) (some l'.length);have e2:Ext n0 w G μ w G (upd μ (H.set s none).length (some b) (some l'.length)):=by rw[hlen]; exact e1
 refine⟨e1,?_⟩;have:=SG hk0 e2 ⟨aI (.int .i64) l',e,true,false,some ⟨.int .i64,l'⟩⟩ (λ_ _ _ _ _=>rfl) ?_ (λg hg=>by cases hg; exact⟨rfl,rfl⟩) ?_ (VG hk0 e2 (λt l h1 h2=>by cases h1) (λ_ _ _=>rfl) (λj b1 hj _ hh=>by cases hh; exact(hW.rows.sep j b hj).2.2.2 s _ hk rfl hb))
 ·rwa[hlen]at this
 ·rintro b' hb';cases hb';obtain⟨c,h2,h3,_,_,h6⟩:=hW.blk s _ b hk hb;refine⟨c,h2,?_,λh=>(by cases h),λh=>(by cases h),λ_=>h6 rfl⟩;rw[hs0]at h3;have h7:=h3.take (aI (.int .i64) l').length;rw[hl,uA,List.take_left' rfl]at h7;exact aT.mono e2.toMono rfl _ _ h7
 ·intro r k' b' hs hf hb' hh;cases hh;obtain⟨hs1,hs2⟩:=zI hs;exact hs2 (hW.inj r s k' _ b hs1 hk hf rfl hb' hb)
theorem bJE {g} (henter:∀ xs w,(callFunc g xs).run P w=.ok (.enter g xs) w) (hlen:∀ l:List Int,(Lib.compact l).length<=l.length)
  (hS:∀ blk off cap zs w,Sort.Holds (Value.int .i64) w blk off zs.toArray->zs.length<=9223372036854775807->zs.length<=cap ->
   Calls P g #[.slice (some ⟨blk,off,none⟩) zs.length cap] w λe w'=>e=.returned (.slice (some ⟨blk,off,none⟩) (Lib.compact zs).length cap)/\∃ q,w'=Sort.putRow (Value.int .i64) (Sort.ahead w q) blk off (Lib.compact zs++List.replicate (zs.length-(Lib.compact zs).length) 0).toArray)
  (hN:∀ p cap w,Calls P g #[.slice p 0 cap] w λe w'=>e=.returned (.slice p 0 cap)/\w'=w)
  {args r} (h:bAF args H=some r):∀ y,r.val=some y->∀ {n0 G μ w vs},aX n0 G μ H w->VRs w G μ args vs->DI P n0 w G μ g vs.toArray (r.out y).1 (r.out y).2:=by
 unfold bAF at h;split at h
 ·rename_i s sz;split at h
  ·rename_i k hk;split at h
   ·rename_i t ht;split at h
    ·rename_i l hl;obtain⟨hb,h⟩:=VI h;simp only[oA,Bool.not_eq_true']at hb;have hfz:=hb.2;replace hb:=oE hb.1;simp only[oJ]at h;subst h;subst hb;intro y hy n0 G μ w vs hW hv;unfold aS5 at hy;obtain⟨hle,hy⟩:=aJ hy;simp only[oJ]at hy;subst hy;have hle:=oL hle;obtain⟨tt,tl⟩:=t;obtain⟨e0,he⟩:=mL hl;dsimp only at e0 he;subst e0;dsimp only at he;subst he;obtain⟨hcells,hmlen⟩:=hW.tags s k _ (aG hk) ht;dsimp only at hcells hmlen hle ⊢
     rw[VRs]at hv;obtain⟨v,us,rfl,h1,h2⟩:=hv;rw[VRs]at h2;subst h2;rw[VR]at h1;obtain⟨n,h3,h4⟩:=h1;rw[hmlen]at h3;cases h3;refine⟨henter _ _,?_⟩;rcases h4 with ⟨h5,ao,rfl⟩|⟨b,c,h5,rfl,h7,h8,h9s⟩
     ·have hnil:tl=[]:=List.eq_nil_of_length_eq_zero h5;subst hnil;have hc0:Lib.compact ([]:List Int)=[]:=List.eq_nil_of_length_eq_zero (Nat.le_zero.1 (hlen []));refine(hN ao 0 w).mono ?_;rintro e w' ⟨rfl,rfl⟩;have hk0:=wB hW s;obtain⟨e1,w1⟩:=vY hk0 ⟨aI (.int .i64) [],k.ty,true,false,some ⟨.int .i64,[]⟩⟩ (on:=some 0) (λg hg=>by cases hg; exact⟨rfl,rfl⟩);rw[List.length_set]at e1 w1;rw[hc0];refine⟨_,G,_,rfl,e1,w1,?_⟩
      rw[VR];exact⟨0,rZ ..,.inl ⟨rfl,ao,rfl⟩⟩
     ·obtain⟨cc,a1,a2,a3,_,a5⟩:=hW.blk s k b (aG hk) h5;rw[hcells,aOY,h9s]at a2;rw[h9s]at h8 ⊢;have hcell:∀ i (hi:i<tl.length),w.cell? ⟨b,i,none⟩=some (.int .i64 tl[i]):=λi hi=>by
       obtain⟨v,b1,b2⟩:=a2.get (i:=i) (p:=.lit (.int .i64 tl[i])) (by simp[hi]);rw[VR]at b2;rw[Nat.zero_add]at b1;rw[b1,b2]
      have hholds:Sort.Holds (Value.int .i64) w b 0 tl.toArray:=by
       intro j hj;have hj':j<tl.length:=by simpa using hj
       refine⟨?_,?_⟩
       ·rw[Nat.zero_add,hcell j hj']
        congr 2
        rw[getElem!_pos _ j hj];simp
       ·simp[World.frozen?,a1]
      refine(hS b 0 c tl w hholds hle h7).mono ?_;rintro e w' ⟨rfl,m,rfl⟩;have hcl:=hlen tl;have hsl:(Lib.compact tl++List.replicate (tl.length-(Lib.compact tl).length) 0).length=tl.length:=by simp only[oH,List.length_replicate]; omega
      obtain⟨e1,w1⟩:=bNI hW (aG hk) hfz ht h5 h9s hsl m;have hsl2:s<H.length:=(oO.1 (aG hk)).1;obtain⟨e2,w2⟩:=bKX w1 (s:=s) (List.getElem?_set_self hsl2) rfl h5 h9s;rw[List.set_set,List.length_set]at w2;rw[List.length_set]at e2;refine⟨_,G,_,rfl,e1.trans e2,w2,?_⟩;rw[VR,GO];exact⟨_,rZ ..,.inr ⟨b,c,mH ..,rfl,by omega,(e1.trans e2).room b _ h8,rfl⟩⟩
    ·cases h
   ·cases h
  ·cases h
 ·cases h
end
open Go Go.RowKit Go.Proofs Go.Lz
theorem bIA {l l':List Int} (h:l.Pairwise (·<·)) (h':l'.Pairwise (·<·)) (hm:∀ x,x∈l↔x∈l'):l=l':=by
 have nd:∀ {l:List Int},l.Pairwise (·<·)->l.Nodup:=λh=>h.imp λh=>by omega
 exact List.Perm.eq_of_pairwise (λa b _ _ h1 h2=>by omega) h h' ((List.perm_ext_iff_of_nodup (nd h) (nd h')).2 hm)
theorem aFR {l:List Int}{i:Nat} h:l.toArray[i]! =l[i]:=by grind
theorem bKH l (x:Int):x∈Lib.compact l↔x∈l:=by
 constructor
 ·intro h;obtain⟨i,hi,rfl⟩:=List.mem_map.1 h;grind
 ·intro h;obtain⟨i,hi,rfl⟩:=List.getElem_of_mem h;have key:∀ i (hi:i<l.length),l[i]∈Lib.compact l:=by
   intro i
   induction i with
   | zero =>
    intro hi;refine List.mem_map.2 ⟨0,List.mem_filter.2 ⟨List.mem_range.2 hi,by simp[Lib.keeps]⟩,aFR hi⟩
   | succ i ih =>
    intro hi
    by_cases he:l[i+1]=l[i]'(by omega)
    ·grind
    ·refine List.mem_map.2 ⟨i+1,List.mem_filter.2 ⟨List.mem_range.2 hi,?_⟩,aFR hi⟩;refine Lib.keeps_pos ?_;grind
  grind
theorem bHM {l:List Int}(h:l.Pairwise (·<=·)):(Lib.compact l).Pairwise (·<·):=by
 refine List.pairwise_map.2 ?_;have hle:∀ i j (hi:i<=j) (hj:j<l.length),l[i]'(by omega)<=l[j]:=by
  intro i j hi hj;rcases oG i j with h1|h1
  ·exact List.pairwise_iff_getElem.1 h i j _ _ h1
  ·grind
 have hp:((List.range l.length).filter (Lib.keeps l.toArray)).Pairwise λi j=>i<j:=List.Pairwise.filter _ List.pairwise_lt_range
 refine List.Pairwise.imp_of_mem ?_ hp;intro i j hi hj hij;obtain⟨hi1,hi2⟩:=List.mem_filter.1 hi;obtain⟨hj1,hj2⟩:=List.mem_filter.1 hj;have hi1:=List.mem_range.1 hi1;have hj1:=List.mem_range.1 hj1;simp only[Lib.keeps]at hj2;have h2:l.toArray[j]!≠l.toArray[j-1]!:=by grind
 rw[aFR hj1,aFR (i:=j-1) (by omega)]at h2;rw[aFR hi1,aFR hj1];have a1:=hle i (j-1) (by omega) (by omega);have a2:=hle (j-1) j (by omega) hj1;omega
def spc(l:List Int):List Int:=Lib.compact (srt l)
theorem bZN l x:x∈spc l↔x∈l:=by unfold spc; rw[bKH]; exact(aY2 l).mem_iff
theorem bTY l:(spc l).Pairwise (·<·):=bHM (aVZ l)
theorem bA4 x:∀ l r,x∈a0U l r↔x=r\/x∈l
 | [],r=>by simp[a0U]
 | a::l,r=>by
  unfold a0U
  by_cases h1:cmpL a r<0
  ·rw[if_pos h1,List.mem_cons,bA4 x l r,List.mem_cons];grind
  grind
theorem bQE:∀ {l} r,SI l->SI (a0U l r)
 | [],r,_=>by simp[a0U,SI]
 | a::l,r,h=>by
  obtain⟨ha,hl⟩:=List.pairwise_cons.1 h;unfold a0U
  by_cases h1:cmpL a r<0
  ·rw[if_pos h1];refine List.pairwise_cons.2 ⟨λz hz=>?_,bQE r hl⟩;rcases(bA4 z l r).1 hz with rfl|hz
   ·grind
   grind
  ·rw[if_neg h1]
   by_cases h2:a=r
   ·grind
   ·rw[if_neg h2];have h3:cmpL r a<0:=by
     by_cases h4:cmpL r a<0
     ·grind
     ·exact(h2 (aFY h1 h4)).elim
    refine List.pairwise_cons.2 ⟨λz hz=>?_,h⟩;rcases List.mem_cons.1 hz with rfl|hz
    ·exact h3
    ·exact aF3 h3 (ha z hz)
theorem bKK l r:(a0U l r).length<=l.length+1:=by
 rw[bEH];grind
def MB(ys:List (List Int)):List (List Int):=ys.foldl a0U []
theorem aY5 ys y:MB (ys++[y])=a0U (MB ys) y:=by simp[MB]
theorem xK ys:SI (MB ys)/\(∀ x,x∈MB ys↔x∈ys)/\(MB ys).length<=ys.length:=by
 suffices H:∀ n,n<=ys.length->SI (MB (ys.take n))/\(∀ x,x∈MB (ys.take n)↔x∈ys.take n)/\(MB (ys.take n)).length<=n by
  have:=H ys.length (oM _);grind
 intro n
 induction n with
 | zero=>simp[MB,SI]
 | succ n ih =>
  intro hn;obtain⟨h1,h2,h3⟩:=ih (by omega);rw[List.take_succ_eq_append_getElem (by omega),aY5];refine⟨bQE _ h1,λx=>?_,?_⟩
  ·rw[bA4,h2 x,List.mem_append,List.mem_singleton];grind
  ·have:=bKK (MB (ys.take n)) (ys[n]'(by omega));omega
def ixL:List (List Int)->List Int->Nat
 | [],_=>0
 | a::l,x=>if a=x then 0 else ixL l x+1
theorem aXM:∀ {l x},x∈l->ixL l x<l.length/\l.getD (ixL l x) []=x
 | a::l,x,h=>by
  unfold ixL
  by_cases e:a=x
  ·grind
  ·have:=aXM ((List.mem_cons.1 h).resolve_left (λh=>e h.symm));grind
theorem b29 {l}(h:SI l){i j}(hi:i<l.length)(hj:j<l.length)(hij:cmpL (l.getD i []) (l.getD j [])<0):i<j:=by
 have g:∀ k hk,l.getD k []=l[k]:=λk hk=>by grind
 rw[g i hi,g j hj]at hij;rcases Nat.lt_trichotomy i j with c|c|c
 ·grind
 ·subst c; rw[aFO]at hij; omega
 ·have:=List.pairwise_iff_getElem.1 h j i hj hi c;exact absurd hij (a06 this)
theorem bU2 {l}(h:SI l){x y}(hx:x∈l)(hy:y∈l)(hxy:cmpL x y<0):ixL l x<ixL l y:=by
 have a:=aXM hx;have b:=aXM hy;exact b29 h a.1 b.1 (by grind)
def ntL(l ys:List (List Int)):List Int:=(MB ys).map λy=>(ixL l y:Int)
theorem bKQ {l ys}(h:SI l)(hy:∀ y∈ys,y∈l):(ntL l ys).Pairwise (·<·):=by
 obtain⟨h1,h2,_⟩:=xK ys;refine List.pairwise_map.2 (List.Pairwise.imp_of_mem (λ{a b} ha hb hab=>?_) h1);have:=bU2 h (hy a ((h2 a).1 ha)) (hy b ((h2 b).1 hb)) hab;omega
theorem b0W {l ys}(h:SI l)(hy:∀ y∈ys,y∈l):spc (ys.map λy=>(ixL l y))=ntL l ys:=by
 obtain⟨h1,h2,_⟩:=xK ys;refine bIA (bTY _) (bKQ h hy) λx=>?_
 rw[bZN];unfold ntL;grind
def shN(a b:List Int):Nat:=a.countP λx=>decide (x∈b)
end Go.PM
namespace Go.PM
structure Gr (N:Nat) (nb:Nat->List Nat):Prop where
 lt:∀ i,i<N->∀ k∈nb i,k<N
 sym:∀ i k,i<N->k∈nb i->i∈nb k
structure Far (N:Nat) (nb:Nat->List Nat) (o:Nat) (f:List Int):Prop where
 len:f.length=N
 zero:∀ i,i<N->(f.getD i 0=0↔i=o)
 low:∀ i,i<N->-1<=f.getD i 0
 pre:∀ i,i<N->∀ d:Nat,f.getD i 0=(d:Int)+1->∃ k∈nb i,f.getD k 0=(d:Int)
 nxt:∀ i,i<N->0<=f.getD i 0->∀ k∈nb i,0<=f.getD k 0/\f.getD k 0<=f.getD i 0+1
section
variable {N:Nat} {nb:Nat->List Nat} {o p:Nat} {f f':List Int}
theorem Far.le (g:Gr N nb)(h:Far N nb o f)(h':Far N nb o f')(ho:o<N):∀ (d:Nat) i,i<N->f.getD i 0=d->0<=f'.getD i 0/\f'.getD i 0<=d
 | 0,i,hi,hd=>by
  obtain rfl:=(h.zero i hi).1 hd;have:=(h'.zero i hi).2 rfl;omega
 | d+1,i,hi,hd=>by
  obtain⟨k,hk,hkd⟩:=h.pre i hi d (by omega);have hkN:=g.lt i hi k hk;have h1:=Far.le g h h' ho d k hkN hkd;have h2:=h'.nxt k hkN h1.1 i (g.sym i k hi hk);omega
structure Bfs (N:Nat) (nb:Nat->List Nat) (o:Nat) (f:List Int) (q:List Nat):Prop where
 len:f.length=N
 zero:∀ i,i<N->(f.getD i 0=0↔i=o)
 low:∀ i,i<N->-1<=f.getD i 0
 pre:∀ i,i<N->∀ d:Nat,f.getD i 0=(d:Int)+1->∃ k∈nb i,f.getD k 0=(d:Int)
 inq:∀ k∈q,k<N/\0<=f.getD k 0
 ord:q.Pairwise λa b=>f.getD a 0<=f.getD b 0
 top:∀ a,q.head?=some a->∀ i,i<N->f.getD i 0<=f.getD a 0+1
 nxt:∀ i,i<N->0<=f.getD i 0->i ∉ q->∀ k∈nb i,0<=f.getD k 0/\f.getD k 0<=f.getD i 0+1
theorem Bfs.start (ho:o<N):Bfs N nb o ((List.replicate N (-1)).set o 0) [o]:=by
 refine⟨by simp,λi hi=>?_,λi hi=>?_,λi hi d hd=>?_,λk hk=>?_,by simp,λa ha i hi=>?_,λi hi h0 hn=>?_⟩
 ·grind
 ·grind
 ·grind
 ·grind
 ·grind
 grind
structure Bfi (N:Nat) (nb:Nat->List Nat) (o a:Nat) (f0:List Int) (D:List Nat) (f:List Int) (q:List Nat):Prop where
 len:f.length=N
 zero:∀ i,i<N->(f.getD i 0=0↔i=o)
 low:∀ i,i<N->-1<=f.getD i 0
 pre:∀ i,i<N->∀ d:Nat,f.getD i 0=(d:Int)+1->∃ k∈nb i,f.getD k 0=(d:Int)
 aN:a<N
 a0:0<=f.getD a 0
 same:f.getD a 0=f0.getD a 0
 inq:∀ k∈q,k<N/\f.getD a 0<=f.getD k 0
 ord:q.Pairwise λa b=>f.getD a 0<=f.getD b 0
 top:∀ i,i<N->f.getD i 0<=f.getD a 0+1
 nxt:∀ i,i<N->0<=f.getD i 0->i ∉ q->i≠a->∀ k∈nb i,0<=f.getD k 0/\f.getD k 0<=f.getD i 0+1
 dn:∀ k∈D,0<=f.getD k 0
theorem Bfi.old {a n q D f0}(h:Bfi N nb o a f0 D f q)(hn:0<=f.getD n 0):Bfi N nb o a f0 (D++[n]) f q :=
 ⟨h.len,h.zero,h.low,h.pre,h.aN,h.a0,h.same,h.inq,h.ord,h.top,h.nxt,λk hk=>by
  rcases List.mem_append.1 hk with hk|hk
  ·exact h.dn k hk
  grind⟩
structure Rnd (N:Nat) (nb:Nat->List Nat) (o:Nat) (d:Nat) (f:List Int):Prop where
 len:f.length=N
 zero:∀ i,i<N->(f.getD i 0=0↔i=o)
 low:∀ i,i<N->-1<=f.getD i 0
 pre:∀ i,i<N->∀ d:Nat,f.getD i 0=(d:Int)+1->∃ k∈nb i,f.getD k 0=(d:Int)
 top:∀ i,i<N->f.getD i 0<=d
 nxt:∀ i,i<N->0<=f.getD i 0->f.getD i 0<d->∀ k∈nb i,0<=f.getD k 0/\f.getD k 0<=f.getD i 0+1
theorem Rnd.start (ho:o<N):Rnd N nb o 0 ((List.replicate N (-1)).set o 0):=by
 have h:=Bfs.start (nb:=nb) ho;refine⟨h.len,h.zero,h.low,h.pre,λi hi=>?_,λi hi h0 h1=>?_⟩
 ·grind
 omega
theorem bD0 {p q}(h:∀ x,p x=true->q x=true):∀ {l:List Int} {x},x∈l->q x=true->p x=false->l.countP p<l.countP q
 | y::l,x,hx,h1,h2=>by
  have hle:l.countP p<=l.countP q:=List.countP_mono_left λz _=>h z
  rcases List.mem_cons.1 hx with rfl|hx
  ·grind
  ·have:=bD0 h hx h1 h2;grind
theorem many(g:Gr N nb)(hl:f.length=N)(pre:∀ i,i<N->∀ d:Nat,f.getD i 0=d+1->∃ k∈nb i,f.getD k 0=d):∀ (e i:Nat),i<N->f.getD i 0=e->e+1<=f.countP λx=>decide (0<=x)&&decide (x<=(e:Int))
 | 0,i,hi,he=>by grind
 | e+1,i,hi,he=>by
  have hm:f.getD i 0∈f:=by grind
  obtain⟨k,hk,hke⟩:=pre i hi e (by omega);have:=many g hl pre e k (g.lt i hi k hk) hke;have hlt:=bD0 (p:=λx=>decide (0<=x)&&decide (x<=(e:Int))) (q:=λx=>decide (0<=x)&&decide (x<=((e+1:Nat):Int))) (λx hx=>by simp at hx ⊢; omega) hm (by rw[he]; simp; omega) (by rw[he]; simp; omega);omega
theorem bPR(g:Gr N nb)(hl:f.length=N)(pre:∀ i,i<N->∀ d:Nat,f.getD i 0=d+1->∃ k∈nb i,f.getD k 0=d){i}(hi:i<N):f.getD i 0<N:=by
 rcases Int.lt_or_le (f.getD i 0) N with c|c
 ·exact c
 ·have:=many g hl pre (f.getD i 0).toNat i hi (by omega);have h2:=List.countP_le_length (p:=λx=>decide (0<=x)&&decide (x<=(((f.getD i 0).toNat:Nat):Int))) (l:=f);omega
theorem Far.lt (g:Gr N nb)(h:Far N nb o f){i}(hi:i<N):f.getD i 0<N:=bPR g h.len h.pre hi
end
end Go.PM
