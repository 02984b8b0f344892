/- Texts of one proof, joined (11). -/
import Derived.Shelf.SlSortCmp.Whole1
import Derived.Ground.SlsfProg
import Derived.Test.YtcbgclaonahijaaGreatDoorProg
import Derived.Shelf.Sort.Plain
import Derived.WalkKit
import Derived.Lib.Walk
import Derived.Lib.SliceRun
import Derived.Shelf.Slices.CompactI
import Derived.Test.YtcbgclaonahijaaGreatDoorQF10
set_option linter.unusedSimpArgs false
set_option linter.unusedVariables false
set_option linter.defProp false
set_option maxRecDepth 100000
noncomputable section
namespace Go.PM
open Go Go.RowKit Go.Proofs Tryz
set_option maxHeartbeats 4000000
def bCZ:List Int->List Int->Option (List (aM [zd,zd]))| [],_=>some []| x::a,y::b=>aB (bCZ a b) λr=>some ((x,y,())::r)| _::_,[]=>none
def a8E(x:TZ [TyD,TyD]):Option (List (aM [zd,zd])):=match x with|(a,b,())=>bif Nat.ble a.length 1048576 then bCZ a b else none
def a7J(yv:Value)(a b:List Int)(o:a.length<=1048576):∀ (ra f c d:List Int) (all:List (aM [zd,zd])) (N:Nat),bCZ ra f=some all->c++ra=a->d++f=b->c.length=d.length->ra.length<N ->
  YL EL N (yv,b,a,(a.length:Int),(c.length:Int),())=some (all.map λe=>(yv,e),())
 | [],f,c,d,all,N+1,h,hp,hq,hpq,_=>by
  obtain rfl:=oB h;rw[List.append_nil]at hp;subst hp;have j:ltI (c.length:Int) (c.length:Int)=false:=by simp[aF]
  simp only[YL,EL,j,oD];rfl
 | r::ra,[],c,d,all,N+1,h,_,_,_,_=>by simp only[bCZ]at h; cases h
 | r::ra,s::f,c,d,all,N+1,h,hp,hq,hpq,hN=>by
  have⟨g,q,h⟩:=wA h;obtain rfl:=oB h;have hlen:a.length=c.length+(ra.length+1):=by rw[<- hp]; simp
  have l:b.length=d.length+(f.length+1):=by rw[<- hq]; simp
  have j:ltI (c.length:Int) (a.length:Int)=true:=by simp[aF]; omega
  have n:aE (c.length:Int) a.length=true:=by simp[aL]; omega
  have i:aE (c.length:Int) b.length=true:=by simp[aL]; omega
  have p:a.getD ((c.length:Int)).toNat 0=r:=by rw[<- hp]; simp
  have k:b.getD ((c.length:Int)).toNat 0=s:=by rw[<- hq,hpq]; simp
  have t:=a7J yv a b o ra f (c++[r]) (d++[s]) g N q (by rw[<- hp]; simp) (by rw[<- hq]; simp) (by simp[hpq]) (by simp at hN; omega);have m:aA .i64 ((c.length:Int)+1)=((c++[r]).length:Int):=by rw[wrap64 Z Z]; simp
  simp only[YL,EL,j,oC,n,i,p,k,outs,m];rw[t];rfl
def bV1:aOQ tP 118 [TyD,TyD] [.int .i64,.int .i64] a8E:=by
 refine a13 ?_;rintro yv ⟨a,b,⟨⟩⟩ all h;unfold a8E at h;dsimp only at h;have⟨c,h⟩:=aJ h;have c:=oL c;have:=a7J yv a b c a b [] [] all (2^64) h rfl rfl rfl Z;unfold aLZ;dsimp only;unfold M5;have d:((([]:List Int).length:Nat):Int)=0:=rfl;rw[d]at this;rw[this];simp[a3D,outs,bI3]
def aW6:zo [.list TyE,.list TyE] [.clo 118 [TyD,TyD]]:=λ(a,b,())=>some ((a,b,()),())
abbrev a7Q:Ent:=⟨74,_,_,aW6⟩
def bBN:Ent.OK tP a7Q:=oI (aS oW) func74
abbrev EC:zb:=[(4,.own 3 TyE),(5,zd),(7,.bown 29 3 TyE),(21,.clo 118 [TyD,TyD])]
abbrev RK:zc:=[(.normal,[(7,.bown 29 3 TyE)])]
def T3(x:Shape.den EC)(e:aM [zd,zd]):oS EC RK:=match x,e with|(g,f,b,a,()),(c,d,())=>za (Nat.ble [(aA .i64 (c+d))].length 1048576)<|za (Nat.ble b.length 1048576)<|some (.inl (g,f,(b++[(aA .i64 (c+d))]),(a.1,a.2.1,()),()))
def aPQ(x:Shape.den EC):TZ [TyD,TyD]:=match x with|(d,c,b,a,())=>(a.1,a.2.1,())
def OJ(x:Shape.den EC):oX RK:=a2H EC RK (λx=>a8E (aPQ x)) T3 x
def aBB:zo [.list TyE,.list TyE] [.list TyE,zd]:=λ(a,e,())=>aB (aTI (a,e,())) λb=>bif !(eqI b.1 0) then some ([],b.1,())else za (!(ltI (a.length:Int) 0))<|za (!(ltI 1048576 (a.length:Int)))<|aB (aW6 (a,e,())) λc=>aB (OJ ([],0,(List.replicate 0 (0:Ty.den TyE)),(c.1.1,c.1.2.1,()),())) λf=>aB (aAZ (f.1,())) λd=>some (d.1,d.2.1,())
def aX8:Code:=bY f23
abbrev a8Y:Env:=B1 [bCR,a7Q,a4C]
def a4A:dN tP a8Y:=aS ⟨bGU,bBN,aS3,trivial⟩
def CS:Code:=QF aX8 0
def bMR:Code:=inLoop CS
def a2E(id:Nat):Option cI:=none
def a1D(id:Nat):Option cI:=bif Nat.beq id 8 then some ⟨EC,RK,OJ⟩ else none
def a6Q:bM bMR=8:=Y
def aVG:CS=.rangeFunc (aNR CS) (a1W CS) (II CS) (inLoop CS):=Y
def bAE:∀ y e,aST tP a8Y 34 (xD f23) a2E a1D (a1W CS).toList (II CS) (inLoop CS) [.int .i64,.int .i64] EC RK y e=T3 y e:=λ_ _=>Y
def bFR:∀ x,a8H 118 [TyD,TyD] EC (aNR CS) x=some (aPQ x):=λ_=>Y
def bBE:H7 tP 34 false [] CS ⟨EC,RK,OJ⟩:=aNV a4A aQ aVG func118 (c:=bY f118) Y bV1 Y (nK (l:=[]) Y trivial) bFR bAE
def bF2:dV aX8=[CS]:=Y
def bJ3:∀ x,a0L tP a8Y f23 (xD f23) a2E a1D aX8 [.list TyE,.list TyE] [.list TyE,.int .i64] x=aBB x:=λ_=>Y
abbrev bW3:Ent:=⟨23,_,_,aBB⟩
def aR3:Ent.OK tP bW3:=aJK aQ a4A func23 (c:=aX8) Y (keep:=xD f23) (lt:=a2E) (rt:=a1D) (nK bF2 ⟨aF1 aVG a6Q rfl bBE,trivial⟩) bJ3
abbrev JA:zb:=[(1,zd),(2,zd),(3,.box 41 TyJ),(7,.list TyD),(8,zd)]
abbrev T1:zc:=[(.exit 0,[(7,.list TyD)])]
def xY:zp JA T1:=λ(b,d,a,e,c,())=>za (aE b a.2.1.length)<|bif ltI c ((a.2.1.getD b.toNat []).length:Int) then za (aE d a.1.2.length)<|za (aE b a.2.1.length)<|za (aE c (a.2.1.getD b.toNat []).length)<|aB (lV (a.1.1,((a.2.1.getD b.toNat []).getD c.toNat []),())) λf=>aB (aBB ((a.1.2.getD d.toNat []),f.1,())) λg=>aB (eH (a.1.1,g.1,())) λh=>aB (fR (e,h.1,())) λi=>some (.inl (b,d,a,i.1,(aA .i64 (c+1)),()))else some (.inr ((e,())))
def FW:zq JA T1:=aV xY (2^64)
def pN:zo [.agg TyJ,zd,zd] [.list TyD]:=λ(a,b,c,())=>aB (FW (b,c,a,[],0,())) λd=>some (d.1,())
abbrev MQ:zb:=[(3,.box 41 TyJ),(8,.list TyD),(9,.own 3 TyE),(10,zd)]
abbrev X1:zc:=[(.ret,[(6,.list TyE),(7,.bool)]),(.exit 0,[(9,.own 3 TyE)])]
def iY:zp MQ X1:=λ(e,b,c,a,())=>bif ltI a (b.length:Int) then za (aE a b.length)<|aB (yN (e.1,(b.getD a.toNat []),())) λd=>bif ltI d.1 0 then some (.inr (.inl ([],false,())))else za (Nat.ble [d.1].length 1048576)<|za (Nat.ble c.length 1048576)<|some (.inl (e,b,(c++[d.1]),(aA .i64 (a+1)),()))else some (.inr (.inr ((c,()))))
def A5:zq MQ X1:=aV iY (2^64)
def gU:zo [.agg TyJ,zd,zd] [.list TyE,.bool]:=λ(a,f,g,())=>aB (pN (a,f,g,())) λc=>aB (A5 (a,c.1,[],0,())) λe=>mN e (λb=>some (b.1,b.2.1,())) λd=>some (d.1,true,())
abbrev qL:zb:=[(1,.box 41 TyJ),(3,.own 63 TyO),(4,zd),(5,zd)]
abbrev vL:zc:=[(.exit 2,[(1,.box 41 TyJ),(3,.own 63 TyO),(4,zd)])]
def mF:zp qL vL:=λ(c,d,b,a,())=>bif ltI a (c.1.2.length:Int) then aB (gU (c,b,a,())) λe=>bif e.2.1 then za (Nat.ble [(b,a)].length 1048576)<|za (Nat.ble d.length 1048576)<|some (.inl (c,(d++[(b,a)]),b,(aA .i64 (a+1)),()))else some (.inl (c,d,b,(aA .i64 (a+1)),()))else some (.inr ((c,d,b,())))
def zD:zq qL vL:=aV mF (2^64)
abbrev qG:zb:=[(1,.box 41 TyJ),(3,.own 63 TyO),(4,zd)]
abbrev vJ:zc:=[(.exit 0,[(3,.own 63 TyO)])]
def sJ:zp qG vJ:=λ(c,b,d,())=>bif ltI d (c.2.1.length:Int) then aB (zD (c,b,d,0,())) λa=>some (.inl (a.1,a.2.1,(aA .i64 (a.2.2.1+1)),()))else some (.inr ((b,())))
def zF:zq qG vJ:=aV sJ (2^64)
def lT:zo [.agg TyJ] [.list TyO]:=λ(a,())=>aB (zF (a,[],0,())) λb=>some (b.1,())
def SK:List ByteArray->List UInt8->List UInt8| [],_=>[]| [x],_=>x.data.toList| x::y::r,sep=>x.data.toList++(sep++SK (y::r) sep)
def a84:∀ l sep,SK l sep=Lib.join (l.map (·.data.toList)) sep
 | [],sep=>by rfl
 | [x],sep=>by simp[SK,Lib.join]
 | x::y::r,sep=>by
  rw[SK,a84 (y::r) sep];rfl
def TU:zo [.list .str,.str] [.str]:=λ(l,sep,())=>bif Nat.ble l.length 1048576&&Nat.ble (SK l sep.data.toList).length 1048576 then some (⟨(SK l sep.data.toList).toArray⟩,()) else none
def bM5(l:List ByteArray)(j:Nat) x (h:l[j]?=some x):(aI .str l)[j]?=some (.lit (.string x)):=by
 induction l generalizing j with
 | nil=>grind
 | cons a l b =>
  have e:aI .str (a::l)=.lit (.string a)::aI .str l:=rfl;grind
def a7B:WA Tryz.prog 162 [.list .str,.str] [.str] TU:=by
 rintro⟨l,sep,⟨⟩⟩ y h;unfold TU at h;dsimp only at h;cases hc:(Nat.ble l.length 1048576&&Nat.ble (SK l sep.data.toList).length 1048576)with
 | false=>rw[hc]at h; cases h
 | true =>
 rw[hc]at h;cases oB h;rw[oA]at hc;have hl:=oL hc.1;have hj:=oL hc.2;intro w G vs hG hv;refine⟨enters func162 Y Y _ _,?_⟩;have k1:VRs w (Gd.of G) aH [zX .str l none,.lit (.string sep)] vs.toList:=hv;rw[VRs]at k1;obtain⟨v,us,hvs,g1,g2⟩:=k1;rw[VRs]at g2;obtain⟨v2,us2,rfl,g2,g3⟩:=g2;rw[VRs]at g3;subst g3;rw[VR]at g2;subst g2;unfold zX at g1;rw[VR]at g1;obtain⟨g1,-⟩:=g1
 rw[VR]at g1;obtain⟨ao,c,rfl,hc1,-,hc2⟩:=g1;have hvs:vs=#[.slice ao l.length c,.string sep]:=Array.ext' (by simpa using hvs);subst hvs;cases l with
 | nil =>
  refine(Tryz.strings_Join_none ao c sep w).mono ?_;rintro e w' ⟨rfl,rfl⟩;exact⟨_,G,rfl,Ext.refl _ _ _ _,hG,bHE _⟩
 | cons a l =>
  rcases hc2 with h0|⟨b,off,rfl,hb,hcs⟩
  ·cases h0
  ·refine(Tryz.strings_Join b off c (a::l) sep w ?_ (hG.lt b hb) (by simp at hl ⊢; omega) hc1 (by rw[<- a84]; omega)).mono ?_
   ·intro j x hx;obtain⟨v,h1,h2⟩:=hcs.get (bM5 _ _ _ hx);rw[VR]at h2;subst h2;exact h1
   ·rintro e w' ⟨rfl,hbl⟩;have he:=a08 (G:=G) hG.lt hbl;exact⟨_,G,rfl,he,λb hb=>Nat.lt_of_lt_of_le (hG.lt b hb) he.size,by rw[<- a84]; exact bHE _⟩
abbrev bBA:Ent:=⟨162,[.list .str,.str],[.str],TU⟩
def a2T:Ent.OK Tryz.prog bBA:=a7B
def aXU:List Nat->Nat->Bool| [],_=>false| a::r,g=>bif Nat.beq a g then true else aXU r g
def bSW:a9C tP (aVR tP) (aXU [156]) (λ_ _=>none) 1000 12 121 (lF [.int .i64,.int .i64] (1,0,()))=some (aLV [.list TyE,.int .i64] ([1],0,())):=Y
def bS0:a9C tP (aVR tP) (aXU [156]) (λ_ _=>none) 1000 12 121 (lF [.int .i64,.int .i64] (2,0,()))=some (aLV [.list TyE,.int .i64] ([1,0],0,())):=Y
def bQ2:a9C tP (aVR tP) (aXU [156]) (λ_ _=>none) 1000 12 121 (lF [.int .i64,.int .i64] (3,0,()))=some (aLV [.list TyE,.int .i64] ([1,0,0],0,())):=Y
def bSG:a9C tP (aVR tP) (aXU [156]) (λ_ _=>none) 1000 12 121 (lF [.int .i64,.int .i64] (4,0,()))=some (aLV [.list TyE,.int .i64] ([1,0,0,0],0,())):=Y
def bRP:a9C tP (aVR tP) (aXU [156]) (λ_ _=>none) 1000 12 121 (lF [.int .i64,.int .i64] (5,0,()))=some (aLV [.list TyE,.int .i64] ([1,0,0,0,0],0,())):=Y
def bS5:a9C tP (aVR tP) (aXU [156]) (λ_ _=>none) 1000 12 121 (lF [.int .i64,.int .i64] (6,0,()))=some (aLV [.list TyE,.int .i64] ([1,0,0,0,0,0],0,())):=Y
def bRZ:a9C tP (aVR tP) (aXU [156]) (λ_ _=>none) 1000 12 121 (lF [.int .i64,.int .i64] (7,0,()))=some (aLV [.list TyE,.int .i64] ([1,0,0,0,0,0,0],0,())):=Y
def bQK:a9C tP (aVR tP) (aXU [156]) (λ_ _=>none) 1000 12 121 (lF [.int .i64,.int .i64] (8,0,()))=some (aLV [.list TyE,.int .i64] ([1,0,0,0,0,0,0,0],0,())):=Y
def aNA:zo [zd,zd] [.list TyE,zd]:=λ(n,i,())=>za (eqI i 0)<|bif eqI n 1 then some ([1],0,()) else bif eqI n 2 then some ([1,0],0,()) else bif eqI n 3 then some ([1,0,0],0,()) else bif eqI n 4 then some ([1,0,0,0],0,()) else bif eqI n 5 then some ([1,0,0,0,0],0,()) else bif eqI n 6 then some ([1,0,0,0,0,0],0,()) else bif eqI n 7 then some ([1,0,0,0,0,0,0],0,()) else za (eqI n 8)<|some ([1,0,0,0,0,0,0,0],0,())
def bM0:WA tP 121 _ _ aNA:=by
 rintro⟨n,i,⟨⟩⟩ y h;simp only[aNA,bN]at h;by_cases hi:i=0;subst hi;simp only[decide_true,oC]at h;by_cases b:n=1;subst b;simp only[decide_true,oC,oJ]at h;subst h;exact JP aQ (λ_ _ _ h=>by cases h) bSW;simp only[b,decide_false,oD]at h;by_cases d:n=2;subst d;simp only[decide_true,oC,oJ]at h;subst h;exact JP aQ (λ_ _ _ h=>by cases h) bS0;simp only[d,decide_false,oD]at h;by_cases e:n=3;subst e;simp only[decide_true,oC,oJ]at h;subst h;exact JP aQ (λ_ _ _ h=>by cases h) bQ2;simp only[e,decide_false,oD]at h;by_cases g:n=4;subst g;simp only[decide_true,oC,oJ]at h;subst h;exact JP aQ (λ_ _ _ h=>by cases h) bSG;simp only[g,decide_false,oD]at h;by_cases a:n=5;subst a;simp only[decide_true,oC,oJ]at h;subst h;exact JP aQ (λ_ _ _ h=>by cases h) bRP;simp only[a,decide_false,oD]at h;by_cases f:n=6;subst f;simp only[decide_true,oC,oJ]at h;subst h;exact JP aQ (λ_ _ _ h=>by cases h) bS5;simp only[f,decide_false,oD]at h;by_cases c:n=7;subst c;simp only[decide_true,oC,oJ]at h;subst h;exact JP aQ (λ_ _ _ h=>by cases h) bRZ;simp only[c,decide_false,oD]at h;by_cases j:n=8;subst j;simp only[decide_true,oC,oJ]at h;subst h;exact JP aQ (λ_ _ _ h=>by cases h) bQK;simp only[j,decide_false,oD]at h;cases h;simp[hi]at h
abbrev bSR:Ent:=⟨121,_,_,aNA⟩
def bGL:Ent.OK tP bSR:=bM0
def gD:zo [.agg TyH,.list TyE] [.list TyE,zd]:=λ(a,d,())=>aB (PH (a,d,())) λb=>bif !(eqI b.1 0) then some ([],b.1,())else aB (wF (a,d,())) λe=>aB (KF (e.1,())) λc=>some (c.1,c.2.1,())
def aD3:WA tP 79 _ _ gD:=oI (aS (oV aF6 (oV aR9 (oV aO0 oW)))) func79
abbrev aF2:Ent:=⟨79,_,_,gD⟩
def GF:Ent.OK tP aF2:=aD3
def iG:zo [.agg TyG] [.agg TyH,zd]:=λ(a,())=>aB (FK (a,())) λd=>bif !(eqI d.1 0) then some ((0,[]),d.1,())else aB (aNA ((a.1.length:Int),0,())) λc=>bif !(eqI c.2.1 0) then some ((0,[]),c.2.1,())else aB (gW (a,c.1,())) λb=>bif !(eqI b.2.1 0) then some ((0,[]),b.2.1,())else aB (RG (b.1,())) λf=>bif f.1 then some ((0,[]),26,())else aB (MI ((a.2.2.length:Int),[b.1],())) λe=>some (e.1,e.2.1,())
def aKJ:WA tP 77 _ _ iG:=oI (aS (oV aSE (oV aR1 (oV bGL (oV YY (oV DU oW)))))) func77
abbrev Y8:Ent:=⟨77,_,_,iG⟩
def KB:Ent.OK tP Y8:=aKJ
def xM:zo [.agg TyG,.list TyE] [zd]:=λ(c,a,())=>aB (kH (a,())) λb=>bif !(eqI b.1 0) then some (b.1,())else bif !(eqI (a.length:Int) (c.2.2.length:Int)) then some (5,())else some (0,())
abbrev aY8:Ent:=⟨78,_,_,xM⟩
def aCG:Ent.OK tP aY8:=oI (aS (oV xF oW)) func78
abbrev aOK:zb:=[(1,.bool),(7,.own 9 .str),(16,.list TyE),(17,zd),(18,zd)]
abbrev aZ9:zc:=[(.exit 0,[(1,.bool),(7,.own 9 .str)])]
def XE:zp aOK aZ9:=λ(f,d,b,c,a,())=>bif ltI a c then za (aE a b.length)<|aB (EE ((b.getD a.toNat 0),())) λe=>za (Nat.ble [e.1].length 1048576)<|za (Nat.ble d.length 1048576)<|some (.inl (f,(d++[e.1]),b,c,(aA .i64 (a+1)),()))else some (.inr ((f,d,())))
def aHZ:zq aOK aZ9:=aV XE (2^64)
def OI:zo [.list TyE,.bool] [.str,zd]:=λ(b,e,())=>aB (kH (b,())) λc=>bif !(eqI c.1 0) then some ((ByteArray.mk #[]),c.1,())else aB (aHZ (e,[],b,(b.length:Int),0,())) λd=>aB (TU (d.2.1,(ByteArray.mk #[32]),())) λa=>bif d.1 then za (Nat.ble ((ByteArray.mk #[91]).size+a.1.size) 9223372036854775807)<|za (Nat.ble (((ByteArray.mk #[91])++a.1).size+(ByteArray.mk #[62]).size) 9223372036854775807)<|some ((((ByteArray.mk #[91])++a.1)++(ByteArray.mk #[62])),0,())else za (Nat.ble ((ByteArray.mk #[60]).size+a.1.size) 9223372036854775807)<|za (Nat.ble (((ByteArray.mk #[60])++a.1).size+(ByteArray.mk #[93]).size) 9223372036854775807)<|some ((((ByteArray.mk #[60])++a.1)++(ByteArray.mk #[93])),0,())
abbrev bD8:Ent:=⟨128,_,_,OI⟩
def aZZ:Ent.OK tP bD8:=oU (aS (oV xF (oV aNL (oV a2T oW)))) func128 6 (lp:=aHZ) rfl
abbrev M9:zb:=[(1,.box 38 TyM),(3,.box 105 TyH),(31,.list TyD),(32,zd),(33,zd)]
abbrev DL:zc:=[(.ret,[(2,zd)]),(.exit 1,[])]
def uK:zp M9 DL:=λ(d,e,b,c,a,())=>bif ltI a c then za (aE a b.length)<|aB (xM (d.1,(b.getD a.toNat []),())) λf=>bif !(eqI f.1 0) then some (.inr (.inl (f.1,())))else aB (gD (e,(b.getD a.toNat []),())) λg=>bif !(eqI g.2.1 0) then some (.inr (.inl (7,())))else aB (kJ (g.1,(b.getD a.toNat []),())) λh=>bif h.1 then bif ltI 0 a then za (aE (aA .i64 (a-1)) d.2.length)<|aB (XM ((b.getD a.toNat []),(d.2.getD ((aA .i64 (a-1)).toNat) []),())) λi=>bif !(ltI 0 i.1) then some (.inr (.inl (6,())))else some (.inl (d,e,b,c,(aA .i64 (a+1)),()))else some (.inl (d,e,b,c,(aA .i64 (a+1)),()))else some (.inr (.inl (7,())))else some (.inr (.inr ((()))))
def JD:zq M9 DL:=aV uK (2^64)
def C7:zo [.agg TyM] [zd]:=λ(a,())=>aB (iG (a.1,())) λb=>bif !(eqI b.2.1 0) then some (b.2.1,())else bif eqI (a.2.length:Int) 0 then some (13,())else bif ltI 60 (a.2.length:Int) then some (4,())else aB (JD (a,b.1,a.2,(a.2.length:Int),0,())) λd=>mN d (λc=>some (c.1,())) λe=>some (0,())
abbrev aUV:Ent:=⟨68,_,_,C7⟩
def aOA:Ent.OK tP aUV:=oU (aS (oV aCG (oV KB (oV GF (oV aP9 (oV D9 oW)))))) func68 9 (lp:=JD) rfl
abbrev XO:zb:=[(1,.box 41 TyJ),(24,.list TyC),(25,zd),(26,zd)]
abbrev aJL:zc:=[(.ret,[(2,zd)]),(.exit 1,[(1,.box 41 TyJ)])]
def KK:zp XO aJL:=λ(d,b,c,a,())=>bif ltI a c then za (aE a b.length)<|bif eqI ((b.getD a.toNat []).length:Int) 0 then some (.inr (.inl (13,())))else bif ltI 8 ((b.getD a.toNat []).length:Int) then some (.inr (.inl (4,())))else aB (rK (d.1.1.1,(b.getD a.toNat []),())) λe=>bif !(eqI e.1 0) then some (.inr (.inl (e.1,())))else some (.inl (d,b,c,(aA .i64 (a+1)),()))else some (.inr (.inr ((d,()))))
def TB:zq XO aJL:=aV KK (2^64)
def K4:zo [.agg TyJ] [zd]:=λ(a,())=>aB (C7 (a.1,())) λb=>bif !(eqI b.1 0) then some (b.1,())else bif eqI (a.2.1.length:Int) 0 then some (13,())else bif ltI 12 (a.2.1.length:Int) then some (4,())else aB (TB (a,a.2.1,(a.2.1.length:Int),0,())) λd=>mN d (λe=>some (e.1,())) λc=>bif ltI c.1.2.2 1 then some (3,())else bif ltI 8 c.1.2.2 then some (3,())else some (0,())
abbrev aIH:Ent:=⟨20,_,_,K4⟩
def aKN:Ent.OK tP aIH:=oU (aS (oV aOA (oV UU oW))) func20 9 (lp:=TB) rfl
abbrev JG:zb:=[(0,.list TyE),(1,zd),(7,zd),(8,zd)]
abbrev T9:zc:=[(.ret,[(4,zd)]),(.exit 0,[])]
def yI:zp JG T9:=λ(b,d,c,a,())=>bif ltI a c then za (aE a b.length)<|bif eqI d (b.getD a.toNat 0) then some (.inr (.inl (a,())))else some (.inl (b,d,c,(aA .i64 (a+1)),()))else some (.inr (.inr ((()))))
def yH:zq JG T9:=aV yI (2^64)
def GG:zo [.list TyE,zd] [zd]:=λ(a,c,())=>aB (yH (a,c,(a.length:Int),0,())) λd=>mN d (λb=>some (b.1,())) λe=>some ((-1),())
abbrev aQO:Ent:=⟨127,_,_,GG⟩
def aLG:Ent.OK tP aQO:=oU (aS oW) func127 2 (lp:=yH) rfl
def pC:zo [.list TyE,zd] [.bool]:=λ(a,b,())=>aB (GG (a,b,())) λc=>some (!(ltI c.1 0),())
abbrev aKU:Ent:=⟨85,_,_,pC⟩
def PI:Ent.OK tP aKU:=oI (aS (oV aLG oW)) func85
abbrev U9:zb:=[(3,.box 124 TyL),(5,zd),(9,.list TyE),(10,zd),(11,zd)]
abbrev aGW:zc:=[(.exit 0,[(5,zd)])]
def BR:zp U9 aGW:=λ(d,e,c,b,a,())=>bif ltI a b then za (aE a c.length)<|aB (pC (d.2,(c.getD a.toNat 0),())) λf=>bif f.1 then some (.inl (d,(aA .i64 (e+1)),c,b,(aA .i64 (a+1)),()))else some (.inl (d,e,c,b,(aA .i64 (a+1)),()))else some (.inr ((e,())))
def P3:zq U9 aGW:=aV BR (2^64)
def HT:zo [.agg TyL,.agg TyL] [zd]:=λ(a,b,())=>aB (P3 (b,0,a.2,(a.2.length:Int),0,())) λc=>some (c.1,())
abbrev aQA:Ent:=⟨84,_,_,HT⟩
def aGZ:Ent.OK tP aQA:=oU (aS (oV PI oW)) func84 3 (lp:=P3) rfl
abbrev mB:zb:=[(0,.val),(1,.ptr TyN),(2,.ptr TyE),(3,.ptr TyE),(7,zd),(8,zd)]
abbrev sM:zc:=[(.exit 0,[])]
def fJ(x:Shape.den mB):Option (List (Value×aM [zd])×(Shape.den mB⊕AQ sM)):=match x with|(d,a,c,e,f,b,())=>bif ltI b f then bif !(eqI b c) then za (aE c a.length)<|za (aE b a.length)<|aB (HT ((((a.getD c.toNat ((0,0),[])).1.1,(a.getD c.toNat ((0,0),[])).1.2),(a.getD c.toNat ((0,0),[])).2),(((a.getD b.toNat ((0,0),[])).1.1,(a.getD b.toNat ((0,0),[])).1.2),(a.getD b.toNat ((0,0),[])).2),())) λg=>bif !(ltI g.1 e) then outs [(d,(b,()))] (some ([],.inl (d,a,c,e,f,(aA .i64 (b+1)),())))else some ([],.inl (d,a,c,e,f,(aA .i64 (b+1)),()))else some ([],.inl (d,a,c,e,f,(aA .i64 (b+1)),()))else some ([],.inr ((())))
def wL(x:Shape.den mB):Option (List (Value×aM [.int .i64])×AQ sM):=YL fJ (2^64) x
def M4(b:Value)(x:TZ [TyN,TyE,TyE]):Option (List (Value×aM [zd])):=match x with|(a,d,c,())=>bI3 (a3D (wL (b,a,d,c,(a.length:Int),0,())) λe=>some ([],()))
def DH:Code:=bY f130
abbrev NF:Env:=RP [aQA] []
def SO:dN tP NF:=jH ⟨aGZ,trivial⟩ trivial
def uL:Code:=inLoop (QF DH 0)
def L5(id:Nat):Option cI:=none
def K6(id:Nat):Option (aLI (Value×aM [zd])):=bif Nat.beq id 1 then some ⟨mB,sM,wL⟩ else none
def aDD:bM uL=1:=Y
theorem aJB:dV uL=[]:=Y
theorem aDQ:∀ x,bHJ tP NF 34 (aP f130) L5 [.int .i64] K6 uL mB sM x=fJ x:=λ_=>Y
theorem aEH:bC5 tP 34 [.int .i64] uL ⟨mB,sM,wL⟩:=a9X SO.callee aQ.mixed _ (aML aJB trivial) aDQ
def aHM:dV DH=[.loop uL]:=Y
def aJA:∀ v0 x,bQB tP NF f130 (aP f130) L5 [.int .i64] K6 DH [TyN,TyE,TyE] v0 x=M4 v0 x:=by
 rintro v0 ⟨v1,v2,v3,⟨⟩⟩;kernel_rfl
def aI5 {f:TZ [TyN,TyE,TyE]->Option (List (aM [zd]))}(h:∀ yv x all,f x=some all->M4 yv x=some (all.map λe=>(yv,e))):aOQ tP 130 [TyN,TyE,TyE] [.int .i64] f:=bGG aQ SO func130 (c:=DH) Y Y (keep:=aP f130) (lt:=L5) (li:=K6) (aML aHM ⟨a9V aDD rfl rfl aEH,trivial⟩) (λyv x all a=>(aJA yv x).trans (h yv x all a))
open Go.Lz
section
variable {d n:Nat} {M:Nat->V} {p:Nat->Nat}
def bFW {B:Nat} {U:Nat->Nat} (h:Hn d M p) (hw:∀ i,i<d->∀ x,n<=x->M i x=0) (hn:n<=12) (hd:d<=12) (c:∀ i,i<d->∀ x,x<n->(M i x).natAbs<=1000000000) (l:Rds d n M B U) (r:List Int) (e:r.length=n) (f:∀ a∈r,a.natAbs<=U 0) (g:U 0<=1000000000)
  (b:∀ x,x<n->(red M p d (eK r) x).natAbs<=1000000000) :
  gD (((n:Int),Mr d n M),r,())=some (Vr n (red M p d (eK r)),0,()):=by
 have⟨q,j⟩:=bQY h hw hn hd c l r e f g;have m:eqI 0 0=true:=O
 simp only[gD,bJU h hw hd hn c r e (λa k=>oR (f a k) g),m,j,short_list (show n<1048576 by omega) b,zz]
end
def eV(g:Int):V:=λx=>if x=0 then g else 0
def clV(g:Int) (u:V):V:=λi=>if i=0 then u 0%g else u i
def cl(r:Nat)(g:Int)(x:List Int):List Int:=Vr r (clV g (eK x))
def bZ6 {g}(a:0<g):Hn 1 (λ_=>eV g) (λ_=>0) where
 inc i j h1 h2:=Z
 low i hi x hx:=Z
 pos i hi:=by simp[eV,a]
 red i j h1 h2:=Z
def bF1 {g r}(b:1<=r):∀ x,r<=x->eV g x=0:=λx a=>by simp[eV,show x≠0 by omega]
def b0G {r:Nat}{g}(u:1<=r)(c:r<=4)(v:0<g)(m:g<=1000000000):MI ((r:Int),[Vr r (eV g)],())=some (((r:Int),[Vr r (eV g)]),0,()):=by
 have hm:∀ i,i<1->aDR [Vr r (eV g)] i=eV g:=λi hi=>by
  obtain rfl:i=0:=Z
  exact aTR (bF1 u)
 have t:∀ d M p,Hn d M p->Same 1 (aDR [Vr r (eV g)]) d M->d=1/\∀ i,i<d->M i=eV g:=λd M p e f=>by
  have h :=Same.congr λj s=>(hm j s).symm
  have⟨B,_,z⟩:=Hn.unique (bZ6 v) e (h.trans f);grind
 have k:∀ x,(eV g x).natAbs<=1000000000:=λx=>by unfold eV; split <;> omega
 have⟨d,M,p,e,f,h,A,w,y⟩:=of_eq [Vr r (eV g)] (n:=r) R Z (λx b=>by
   rw[List.mem_singleton.1 b]; simp[Vr]) (E:=λd=>10^dg 9 d) (T:=λd=>10^(5*dg 9 d+1)) (λx b a l=>by
   rw[List.mem_singleton.1 b]at l;obtain⟨i,_,rfl⟩:=List.mem_map.1 l;exact k i) (oM _) (bMI (.inr c) Z) (λd M p _ q o _ i hi x _=>by
   rw[(t d M p q o).2 i hi]; exact k x)
 grind
def UB {r g}(hr:1<=r)(hr4:r<=4)(hg:0<g)(hg9:g<=1000000000)(x:List Int)(hl:x.length=r)(hx:∀ a∈x,a.natAbs<=1000000000):gD (((r:Int),[Vr r (eV g)]),x,())=some (cl r g x,0,()):=by
 have hb:∀ x,(eV g x).natAbs<=1000000000:=λx=>by unfold eV; split <;> omega
 have hxv:∀ t,t<r->(eK x t).natAbs<=1000000000:=λt ht=>by
  unfold eK;have:x.getD t 0=x[t]' Z:=by simp[List.getD,show t<x.length by omega]
  rw[this];exact hx _ (List.getElem_mem _)
 have hred:∀ i,red (λ_=>eV g) (λ_=>0) 1 (eK x) i=clV g (eK x) i:=λi=>by
  show eK x i-(eK x 0).fdiv (eV g 0)*eV g i=_;unfold clV eV
  by_cases hi:i=0
  ·subst hi;simp only[if_true];have h1:=Int.fmod_def (eK x 0) g;have h2:=Int.fmod_eq_emod_of_nonneg (eK x 0) (b:=g) Z;rw[<- h2,h1,Int.mul_comm]
  ·simp[hi]
 have hfin:∀ i,i<r->(red (λ_=>eV g) (λ_=>0) 1 (eK x) i).natAbs<=1000000000:=λi hi=>by
  rw[hred];unfold clV;split
  ·have h1:=Int.emod_nonneg (eK x 0) (show g≠0 by omega);have h2:=Int.emod_lt_of_pos (eK x 0) hg;omega
  ·exact hxv i hi
 have:=bFW (d:=1) (n:=r) (M:=λ_=>eV g) (p:=λ_=>0) (B:=1000000000) (U:=λt=>if t=0 then 1000000000 else 1000000000+(1000000000+1)*1000000000) (bZ6 hg) (λi _ y hy=>bF1 hr y hy) Z Z (λi _ y _=>hb y)
  ⟨λi _ y _=>hb y,λt ht=>by simp[show t=0 by omega],λt ht=>by
   obtain rfl:t=0:=Z
   have h1:=xL (u:=1000000000+1) (k:=17) Z;have h2:=xL (u:=1000000000) (k:=17) Z;simp only[if_true];unfold DP;omega⟩ x hl hx (oM _) hfin
 rw[show (Mr 1 r λ_=>eV g)=[Vr r (eV g)] from rfl]at this;rw[this]
 congr 2
 unfold cl Vr;exact List.map_congr_left λi _=>hred i
def bOD {r g}(i:1<=r)(d:r<=4)(f:g≠0):RG (Vr r (eV g),())=some (false,()):=by
 have hlen:(Vr r (eV g)).length=r:=by simp[Vr]
 have b:(Vr r (eV g)).getD 0 0=g:=by simp[Vr,List.getD,eV,show 0<r by omega]
 have key:=aK (step:=eB) (N:=2^64) (λt=>(Vr r (eV g),(),(r:Int),(t:Int),())) 0 (.inl (0,())) Z (λt ht=>by omega) (by
  have h:ltI ((0:Nat):Int) (r:Int)=true:=by rw[aF]; grind
  have a:aE ((0:Nat):Int) (Vr r (eV g)).length=true:=by rw[aL,hlen]; grind
  have c:((0:Nat):Int).toNat=0:=rfl;have e:eqI g 0=false:=by rw[bN]; exact oF f
  simp only[eB,h,a,c,b,aAN,e,zz];rfl)
 have key:lC (Vr r (eV g),(),((Vr r (eV g)).length:Int),0,())=some (.inl (0,())):=by rw[hlen]; exact key
 have a:ltI (0:Int) 0=false:=O
 simp only[RG,nP,rR,key,a,zz]
def bGX v:∀ n,1<=n->dot n (eV 1) v=v 0
 | 1,_=>by simp[dot,eV]
 | n+2,_=>by
  show dot (n+1) (eV 1) v+eV 1 (n+1)*v (n+1)=_;rw[bGX v (n+1) R];simp[eV]
def bP0 {n:Nat}(b:1<=n)(a:n<=4):aNA ((n:Int),0,())=some (Vr n (eV 1),0,()):=by rcases(show n=1\/n=2\/n=3\/n=4 by omega)with rfl|rfl|rfl|rfl <;> rfl
section
variable {ps:List Int} {n d r:Nat} {C K:Nat->V}
def b1R {p}(a:Hn r K p){i}(b:0<i)(hi:i<r):K i 0=0:=a.low i hi 0 (by have:=a.inc 0 i b hi; omega)
def a8L {p}(a:Hn r K p)(b:0<r):0<=K 0 0:=by
 rcases Nat.eq_zero_or_pos (p 0)with h|h;have:=a.pos 0 b; grind;rw[a.low 0 b 0 h]; simp
def bXZ(h:RT ps n d r C K)(a:1<=n):tmp n r K (Vr n (eV 1))=Vr r (eV (if r=0 then 0 else K 0 0)):=by
 have⟨p,hk⟩:=h.hk;unfold tmp Vr;refine List.map_congr_left λi hi=>?_;have hi :=List.mem_range.1 hi;have c:eK (List.map (eV 1) (List.range n))=eV 1:=aTR (bF1 a);rw[c,bGX _ n a,if_neg Z];unfold eV;by_cases b:i=0;grind;rw[if_neg b,b1R hk Z hi]
def bYK {n}:∀ a∈Vr n (eV 1),a.natAbs<=1000000000:=λa b=>by
 obtain⟨i,_,rfl⟩:=List.mem_map.1 b;unfold eV; grind
def a4M(h:RT ps n d r C K)(a:1<=n):gW ((ps,(Mr d n C,Mr r n K)),Vr n (eV 1),())=some (Vr r (eV (if r=0 then 0 else K 0 0)),0,()):=by
 rw[aM9 h (Vr n (eV 1)) (by simp[Vr]) bYK (λi hi=>?_),bXZ h a];rw[aTR (bF1 a),bGX _ n a];exact h.bk i hi 0 Z
def U0(h:RT ps n d r C K)(a:1<=n)(b:1<=r)(c:0<K 0 0):iG ((ps,(Mr d n C,Mr r n K)),())=some (((r:Int),[Vr r (eV (K 0 0))]),0,()):=by
 have n4:=h.n4;have⟨p,hk⟩:=h.hk;have g:=(Hn.wR hk h.wk).1;have f:eqI 0 0=true:=by rfl
 have t1:=a4M h a;rw[if_neg Z]at t1;have e:((Mr r n K).length)=r:=by simp[Mr]
 have i:=h.bk 0 Z 0 Z;simp only[iG,h.check,f,h.len,bP0 a n4,t1,bOD b Z (show K 0 0≠0 by omega),e,b0G b Z c Z,zz]
end
def bHX {r g}(e:1<=r)(c:r<=4)(f:0<g):pJ ([Vr r (eV g)],(r:Int),())=some ([Vr r (eV g)],()):=by
 obtain⟨m,rfl⟩:∃ m:Nat,g=((m+1:Nat):Int):=⟨(g-1).toNat,by omega⟩;have a:pJ ([[((m+1:Nat):Int)]],1,())=some ([[((m+1:Nat):Int)]],()):=(by rfl);have b:pJ ([[((m+1:Nat):Int),0]],2,())=some ([[((m+1:Nat):Int),0]],()):=(by rfl);have d:pJ ([[((m+1:Nat):Int),0,0]],3,())=some ([[((m+1:Nat):Int),0,0]],()):=(by rfl);rcases(show r=1\/r=2\/r=3\/r=4 by omega)with rfl|rfl|rfl|rfl;exact a;exact b;exact d;rfl
def aYM {a g:Int}(c:0<g)(e:a.natAbs<=1000000000):yK (a,g,())=some (a/g,()):=by
 have h:eqI g 0=false:=zh
 have j:=Int.mul_tdiv_add_tmod a g;have k:=Int.emod_add_mul_ediv a g;have l:=Int.emod_nonneg a (show g≠0 by omega);have o:=Int.emod_lt_of_pos a c;have m:(a/g).natAbs<=1000000000:=(by have:=Int.natAbs_ediv_le_natAbs a g;omega);have f:(a.tdiv g).natAbs<=1000000000:=(by rw[Int.natAbs_tdiv];exact oR (Nat.div_le_self _ _) e);unfold yK;simp only[h,oD];cases hn:ltI (a.tmod g) 0 with
 | true =>
  rw[aF]at hn;have hn:=of_decide_eq_true hn;have n:(a.tmod g).natAbs<g.natAbs:=by rw[Int.natAbs_tmod]; exact Nat.mod_lt _ Z
  have d : -g<a.tmod g:=Z
  have b:a/g=a.tdiv g-1:=W
  have i:aA .i64 (a.tdiv g)=a.tdiv g:=wrap64 Z Z;rw[oC,i,wrap64 Z Z,b]
 | false =>
  rw[aF]at hn;have hn:=of_decide_eq_false hn;have d:a.tmod g<g:=by
   have:=Int.tmod_lt_of_pos a c;omega
  have b:a/g=a.tdiv g:=W
  rw[oD,wrap64 Z Z,b]
def UE {row x y:List Int} {a G:Int} {q:Int} (b:x.length<=1048576) (d:yK (a,G,())=some (q,()))
  (c:CX ([row],x,0,())=aB (yK (a,G,())) λq=>aB (aBW (t:=.int .i64) qR x (row,q.1,())) λy=>some (.inl ([row],y,1,())))
  (e:aBW (t:=.int .i64) qR x (row,q,())=some y) (f:CX ([row],y,1,())=some (.inr (y,()))):vZ ([row],x,())=some (y,()):=by
 rw[d,aC,e,aC]at c;have key:=aK (N:=2^64) (λt=>([row],if t=0 then x else y,(t:Int),())) 1 (y,()) R (λt ht=>by
  grind) f
 have key:CU ([row],x,0,())=some (y,()):=key;have g :=Nat.ble_eq_true_of_le b;simp only[vZ,g,key,zz]
def bBM {r g}(u:1<=r)(q:r<=4)(k:0<g)(o:g<=1000000000)(x:List Int)(l:x.length=r)(i:∀ a∈x,a.natAbs<=1000000000):vZ ([Vr r (eV g)],x,())=some (cl r g x,()):=by
 have fin:∀ a:Int,a.natAbs<=1000000000->aA .i64 (a-aA .i64 (a/g*g))=a%g:=λa f=>by
  have s:=Int.emod_add_mul_ediv a g;have t:=Int.emod_nonneg a (show g≠0 by omega);have v:=Int.emod_lt_of_pos a k;have p:a/g*g=a-a%g:=by rw[Int.mul_comm]; omega
  have n:aA .i64 (a-a%g)=a-a%g:=wrap64 Z Z;rw[p,n,wrap64 Z Z];omega
 have d:∀ a b:Int,a.natAbs<=1000000000->aA .i64 (a-aA .i64 (b*0))=a:=λa b f=>by
  have n:aA .i64 0=0:=wrap64 Z Z;rw[Int.mul_zero,n,wrap64 Z Z]; omega
 obtain⟨m,hm⟩:∃ m:Nat,g=((m+1:Nat):Int):=⟨(g-1).toNat,by omega⟩;have j:x.length<=1048576:=Z
 rcases(show r=1\/r=2\/r=3\/r=4 by omega)with rfl|rfl|rfl|rfl
 ·match x,l with
  | [a],_ =>
   have f:=i a R;have h:=UE (row:=[g]) (x:=[a]) (y:=[aA .i64 (a-aA .i64 (a/g*g))]) j (aYM k f) (by rw[hm]; kernel_rfl) (by rw[hm]; kernel_rfl) (by rw[hm]; kernel_rfl);rw[fin a f]at h;exact h
 ·match x,l with
  | [a,b],_ =>
   have f:=i a R;have h:=UE (row:=[g,0]) (x:=[a,b]) (y:=[aA .i64 (a-aA .i64 (a/g*g)),aA .i64 (b-aA .i64 (a/g*0))]) j (aYM k f) (by rw[hm]; kernel_rfl) (by rw[hm]; kernel_rfl) (by rw[hm]; kernel_rfl);rw[fin a f,d b _ (i b R)]at h;exact h
 ·match x,l with
  | [a,b,c],_ =>
   have f:=i a R;have h:=UE (row:=[g,0,0]) (x:=[a,b,c]) (y:=[aA .i64 (a-aA .i64 (a/g*g)),aA .i64 (b-aA .i64 (a/g*0)),aA .i64 (c-aA .i64 (a/g*0))]) j (aYM k f) (by rw[hm]; kernel_rfl) (by rw[hm]; kernel_rfl) (by rw[hm]; kernel_rfl);rw[fin a f,d b _ (i b R),d c _ (i c R)]at h;exact h
 ·match x,l with
  | [a,b,c,e],_ =>
   have f:=i a R;have h:=UE (row:=[g,0,0,0]) (x:=[a,b,c,e]) (y:=[aA .i64 (a-aA .i64 (a/g*g)),aA .i64 (b-aA .i64 (a/g*0)),aA .i64 (c-aA .i64 (a/g*0)),aA .i64 (e-aA .i64 (a/g*0))]) j (aYM k f) (by rw[hm]; kernel_rfl) (by rw[hm]; kernel_rfl) (by rw[hm]; kernel_rfl);rw[fin a f,d b _ (i b R),d c _ (i c R),d e _ (i e R)]at h;exact h
section
variable {ps:List Int} {n d r:Nat} {C K:Nat->V}
def bZY {K r n t}(ht:t<r):(Mr r n K).getD t []=Vr n (K t):=by simp[Mr,ht]
def b1P(h:RT ps n d r C K){t}(ht:t<r):K t 0=eV (K 0 0) t:=by
 have⟨p,hk⟩:=h.hk;unfold eV;by_cases a:t=0;grind;rw[if_neg a,b1R hk Z ht]
def aXX(h:RT ps n d r C K)(o:1<=n)(c:1<=r)(e:0<K 0 0)(x:List Int)(l:x.length=r)(g:∀ a∈x,a.natAbs<=1000000000):eH ((ps,(Mr d n C,Mr r n K)),x,())=some (cl r (K 0 0) x,()):=by
 have n4:=h.n4;have⟨p,hk⟩:=h.hk;have v:=(Hn.wR hk h.wk).1;have w:=h.bk 0 Z 0 Z;have key:=aK (step:=AW) (N:=2^64) (λt=>(x,(ps,(Mr d n C,Mr r n K)),Vr t (eV (K 0 0)),(t:Int),())) r (x,Vr r (eV (K 0 0)),()) Z (λt ht=>?_) ?_;have key:JZ (x,(ps,(Mr d n C,Mr r n K)),[],0,())=some (x,Vr r (eV (K 0 0)),()):=key;have b:((Vr r (eV (K 0 0))).length:Int)=(r:Int):=(by rw[zV]);simp only[eH,key,aC,b,bHX c Z e,bBM c Z e Z x l g]
 ·have b:ltI (t:Int) ((Mr r n K).length:Int)=true:=by rw[aF,eO]; exact oT Z
  have i:aE (t:Int) (Mr r n K).length=true:=by rw[aL,eO]; exact oT Z
  have f:((t:Nat):Int).toNat=t:=oN _;have s:aE 0 (Vr n (K t)).length=true:=by rw[aL,zV]; exact oT Z
  have m:(Vr n (K t)).getD 0 0=eV (K 0 0) t:=by rw[<- b1P h ht]; simp[Vr,List.getD,show 0<n by omega]
  have q:Nat.ble [eV (K 0 0) t].length 1048576=true:=rfl;have u:Nat.ble (Vr t (eV (K 0 0))).length 1048576=true:=by rw[zV]; exact Nat.ble_eq_true_of_le Z
  have j:=bP t Z;have k:Vr t (eV (K 0 0))++[eV (K 0 0) t]=Vr (t+1) (eV (K 0 0)):=by unfold Vr; rw[List.range_succ,List.map_append]; rfl
  simp only[AW,b,oC,i,f,bZY ht,s,m,q,u,j,k]
 ·have b:ltI (r:Int) ((Mr r n K).length:Int)=false:=by rw[aF,eO]; exact oF Z
  simp only[AW,b,oD]
def S6(r:Nat) (K:Nat->V):Bool:=decide (r=0)||decide (K 0 0=0)
def bPH(h:RT ps n d r C K)(k:1<=n):AA ((ps,(Mr d n C,Mr r n K)),())=some (S6 r K,()):=by
 have n4:=h.n4;have⟨p,hk⟩:=h.hk;have m:=(Hn.wR hk h.wk).1;have at_:∀ t,t<r->kX ((ps,(Mr d n C,Mr r n K)),(t:Int),())=bif !(eqI (eV (K 0 0) t) 0) then some (.inr (.inl (false,()))) else some (.inl ((ps,(Mr d n C,Mr r n K)),((t+1:Nat):Int),())):=λt ht=>by
  have c:ltI (t:Int) ((Mr r n K).length:Int)=true:=by rw[aF,eO]; exact oT Z
  have g:aE (t:Int) (Mr r n K).length=true:=by rw[aL,eO]; exact oT Z
  have f:((t:Nat):Int).toNat=t:=oN _;have l:aE 0 (Vr n (K t)).length=true:=by rw[aL,zV]; exact oT Z
  have j:(Vr n (K t)).getD 0 0=eV (K 0 0) t:=by rw[<- b1P h ht]; simp[Vr,List.getD,show 0<n by omega]
  have i:=bP t Z;simp only[kX,c,oC,g,f,bZY ht,l,j,i]
 have end_:kX ((ps,(Mr d n C,Mr r n K)),(r:Int),())=some (.inr (.inr ())):=by
  have c:ltI (r:Int) ((Mr r n K).length:Int)=false:=by rw[aF,eO]; exact oF Z
  simp only[kX,c,oD]
 by_cases a:r=0\/K 0 0=0
 ·have b:S6 r K=true:=by unfold S6; simpa using a
  have key:=aK (step:=kX) (N:=2^64) (λt=>((ps,(Mr d n C,Mr r n K)),(t:Int),())) r (.inr ()) Z (λt ht=>by
   rw[at_ t ht];have e:eqI (eV (K 0 0) t) 0=true:=by
    rw[bN];refine oT ?_;rcases a with a|a
    ·omega
    ·unfold eV; rw[a]; split <;> rfl
   rw[e]; rfl) end_
  have key:B2 ((ps,(Mr d n C,Mr r n K)),0,())=some (.inr ()):=key;simp only[AA,key,b,zz]
 ·have b:S6 r K=false:=by unfold S6; simpa using a
  have key:=aK (step:=kX) (N:=2^64) (λt=>((ps,(Mr d n C,Mr r n K)),(t:Int),())) 0 (.inl (false,())) Z (λt ht=>by omega) (by
   rw[at_ 0 Z];have e:eqI (eV (K 0 0) 0) 0=false:=by
    rw[bN];exact oF (λe=>a (.inr e))
   rw[e]; rfl)
  have key:B2 ((ps,(Mr d n C,Mr r n K)),0,())=some (.inl (false,())):=key;simp only[AA,key,b,zz]
end
def cmpL:List Int->List Int->Int| [],[]=>0| [],_::_=>-1| _::_,[]=>1| a::l,b::m=>if a<b then -1 else if b<a then 1 else cmpL l m
def aFO:∀ l,cmpL l l=0| []=>rfl| a::l=>by simp[cmpL,aFO l]
def aFY:∀ {l m},¬ cmpL l m<0->¬ cmpL m l<0->l=m
 | [],[],_,_=>rfl
 | [],_::_,h,_=>by simp[cmpL]at h
 | _::_,[],_,h=>by simp[cmpL]at h
 | a::l,b::m,h,k=>by
  simp only[cmpL]at h k
  by_cases d:a<b
  ·grind
  ·by_cases c:b<a
   ·omega
   ·rw[if_neg d,if_neg c]at h;rw[if_neg c,if_neg d]at k;have:a=b:=Z
    rw[this,aFY h k]
def aF3:∀ {l m n},cmpL l m<0->cmpL m n<0->cmpL l n<0
 | [],[],_,h,_=>by simp[cmpL]at h
 | [],_::_,[],_,k=>by simp[cmpL]at k
 | [],_::_,_::_,_,_=>by simp[cmpL]
 | _::_,[],_,h,_=>by simp[cmpL]at h
 | _::_,_::_,[],_,k=>by simp[cmpL]at k
 | a::l,b::m,c::n,h,k=>by
  simp only[cmpL]at h k ⊢
  by_cases g:a<b
  ·grind
  ·by_cases e:b<a
   ·rw[if_neg g,if_pos e]at h; omega
   ·rw[if_neg g,if_neg e]at h
    by_cases f:b<c
    ·rw[if_pos (show a<c by omega)]; omega
    ·by_cases d:c<b
     ·rw[if_neg f,if_pos d]at k; omega
     ·rw[if_neg f,if_neg d]at k;rw[if_neg (show ¬ a<c by omega),if_neg (show ¬ c<a by omega)];exact aF3 h k
def a06:∀ {l m},cmpL l m<0->¬ cmpL m l<0:=λh k=>by
 have:=aF3 h k;rw[aFO]at this; omega
def aZB {α β:Type} f (g:α->β):∀ l:List Nat,(l.findSome? λi=>(f i).map g)=(l.findSome? f).map g
 | []=>rfl
 | i::l=>by
  rw[List.findSome?_cons,List.findSome?_cons];cases h:f i with
  | some y=>rfl
  | none=>exact aZB f g l
def a0R(l m:List Int) (i:Nat):Option Int :=if ¬ i<m.length then some 1 else if l.getD i 0<m.getD i 0 then some (-1) else if m.getD i 0<l.getD i 0 then some 1 else none
def bRT:∀ l m j,((List.range' j (l.length-j)).findSome? (a0R l m)).getD (if l.length<m.length then -1 else 0)=cmpL (l.drop j) (m.drop j)\/l.length<j
 | l,m,j=>by
  rcases Nat.lt_or_ge l.length j with h|h
  ·exact .inr h
  ·left;generalize hn:l.length-j=n
   induction n generalizing j with
   | zero =>
    have e:l.drop j=[]:=List.drop_eq_nil_of_le Z;rw[e];simp only[List.range'_zero,List.findSome?_nil,Option.getD_none]
    by_cases a:l.length<m.length
    ·rw[if_pos a,List.drop_eq_getElem_cons (show j<m.length by omega)]; rfl
    ·rw[if_neg a,List.drop_eq_nil_of_le (show m.length<=j by omega)]; rfl
   | succ n f =>
    have d:j<l.length:=Z
    rw[List.range'_succ,List.findSome?_cons,List.drop_eq_getElem_cons d];unfold a0R
    by_cases a:j<m.length
    ·rw[if_neg (λh=>h a),List.drop_eq_getElem_cons a];have g1:l.getD j 0=l[j]:=by rw[List.getD_eq_getElem?_getD,List.getElem?_eq_getElem d]; rfl
     have g2:m.getD j 0=m[j]:=by rw[List.getD_eq_getElem?_getD,List.getElem?_eq_getElem a]; rfl
     rw[g1,g2];simp only[cmpL]
     by_cases b:l[j]<m[j]
     ·rw[if_pos b,if_pos b]; rfl
     ·rw[if_neg b,if_neg b]
      by_cases c:m[j]<l[j]
      ·rw[if_pos c,if_pos c]; rfl
      ·rw[if_neg c,if_neg c];exact f (j+1) Z Z
    ·rw[if_pos a,List.drop_eq_nil_of_le (show m.length<=j by omega)]; rfl
def bH1:∀ {l m},cmpL l m=0->l=m
 | [],[],_=>rfl
 | [],_::_,h=>by simp[cmpL]at h
 | _::_,[],h=>by simp[cmpL]at h
 | a::l,b::m,h=>by
  simp only[cmpL]at h
  by_cases d:a<b
  ·omega
  ·rw[if_neg d]at h
   by_cases c:b<a
   ·omega
   ·rw[if_neg c]at h;rw[bH1 h,show a=b by omega]
def aJ7(a:Int):QW (a,())=some (false,()):=by unfold QW; simp[bN]
def aU4(a b:Int):R1 (a,b,())=some (if a<b then -1 else if b<a then 1 else 0,()):=by
 unfold R1; dsimp only;rw[aJ7,aC,aJ7,aC];simp only[aF];grind
def ZM(l m:List Int)(g:l.length<=9223372036854775806)(hm:m.length<=9223372036854775806):wU (l,m,())=some (cmpL l m,()):=by
 have b:xW (l,m,l,(l.length:Int),0,())=some (((List.range l.length).findSome? λi=>(a0R l m i).map λy=>.inl (y,())).getD (.inr (l,m,()))):=by
  refine aPW (N:=2^64) (step:=pR) (λi=>(l,m,l,(l.length:Int),(i:Int),())) (λi=>(a0R l m i).map λy=>.inl (y,())) l.length (.inr (l,m,())) Z ?_ ?_
  ·intro i hi;simp only[pR,aF,bN,aL,aYS,yJ,oN];rw[if_pos Z,if_pos Z,aU4,aC,bP i Z];by_cases e:i<m.length
   ·rw[if_neg Z,if_pos Z];by_cases d:l.getD i 0<m.getD i 0
    ·have c:a0R l m i=some (-1):=by unfold a0R; rw[if_neg (λh=>h e),if_pos d]
     rw[c,if_pos d,if_pos O]; rfl
    ·by_cases f:m.getD i 0<l.getD i 0
     ·have c:a0R l m i=some 1:=by unfold a0R; rw[if_neg (λh=>h e),if_neg d,if_pos f]
      rw[c,if_neg d,if_pos f,if_pos O]; rfl
     ·have c:a0R l m i=none:=by unfold a0R; rw[if_neg (λh=>h e),if_neg d,if_neg f]
      rw[c,if_neg d,if_neg f,if_neg O]; rfl
   ·have c:a0R l m i=some 1:=by unfold a0R; rw[if_pos e]
    rw[c,if_pos Z]; rfl
  simp only[pR,aF,yJ];rw[if_neg Z]
 have a:=(bRT l m 0).resolve_right Z;rw[Nat.sub_zero,<- List.range_eq_range']at a;simp only[List.drop_zero]at a;unfold wU; dsimp only;rw[b,aC,aZB,<- a];cases (List.range l.length).findSome? (a0R l m)with
 | some y=>rfl
 | none =>
  simp only[Option.map_none,Option.getD_none,bV,aF,yJ]
  by_cases h:l.length<m.length
  ·rw[if_pos h,if_pos Z]
  ·rw[if_neg h,if_neg Z]
def aDB(l m:List Int)(a:l.length<=9223372036854775806)(hm:m.length<=9223372036854775806):XM (l,m,())=some (cmpL l m,()):=by
 unfold XM; dsimp only;rw[ZM l m a hm,aC]
def a0U:List (List Int)->List Int->List (List Int)| [],r=>[r]| a::l,r=>if cmpL a r<0 then a::a0U l r else if a=r then a::l else r::a::l
def aZJ:List (List Int)->List Int->Nat| [],_=>0| a::l,r=>if cmpL a r<0 then aZJ l r+1 else 0
def bO2:∀ l r,aZJ l r<=l.length
 | [],_=>oM _
 | a::l,r=>by
  unfold aZJ;have:=bO2 l r;grind
def bO5:∀ l r t,t<aZJ l r->cmpL (l.getD t []) r<0
 | [],_,t,h=>absurd h (Nat.not_lt_zero _)
 | a::l,r,t,h=>by
  unfold aZJ at h;split at h
  next b=>
   cases t with
   | zero=>grind
   | succ t=>exact bO5 l r t Z
  omega
def bPA:∀ l r,aZJ l r<l.length->¬ cmpL (l.getD (aZJ l r) []) r<0
 | [],_,h=>absurd h (Nat.not_lt_zero _)
 | a::l,r,h=>by
  unfold aZJ at h ⊢;split
  next b=>rw[if_pos b]at h;exact bPA l r W
  grind
def bEH:∀ l r,a0U l r=if aZJ l r<l.length/\l.getD (aZJ l r) []=r then l else l.take (aZJ l r)++r::l.drop (aZJ l r)
 | [],r=>by rfl
 | a::l,r=>by
  unfold a0U aZJ
  by_cases b:cmpL a r<0
  ·rw[if_pos b,if_pos b,bEH l r];grind
  grind
def insert_eq(l:List (List Int))(r:List Int)(z:l.length<=1000000)(A:r.length<=1000000)(hw:∀ a∈l,a.length<=1000000):fR (l,r,())=some (a0U l r,()):=by
 have iN:∀ t,(l.getD t []).length<=1000000:=λt=>by
  by_cases h:t<l.length
  ·have:l.getD t []=l[t]:=by simp[List.getD,h]
   rw[this]; exact hw _ (List.getElem_mem h)
  ·simp[List.getD,List.getElem?_eq_none (show l.length<=t by omega)]
 have w:=bO2 l r;generalize j:aZJ l r=k at w;have key:=aK (step:=sS) (N:=2^64) (λt=>(l,r,(t:Int),())) k (l,r,(k:Int),()) Z (λt ht=>?_) ?_
 ·have key:GV (l,r,0,())=some (l,r,(k:Int),()):=key;have d:ltI (k:Int) 0=false:=zf
  have x:Nat.ble 0 k=true:=Nat.ble_eq_true_of_le (Nat.zero_le _);have v:Nat.ble k k=true:=Nat.ble_eq_true_of_le (oM _);have s:Nat.ble k l.length=true:=Nat.ble_eq_true_of_le w;have q:Nat.ble l.length l.length=true:=Nat.ble_eq_true_of_le (oM _);have n:Nat.ble ((l.drop k).take (l.length-k)).length 1048576=true:=Nat.ble_eq_true_of_le (by simp; omega);have o:Nat.ble [r].length 1048576=true:=rfl;have u:Nat.ble ([r]++((l.drop k).take (l.length-k))).length 1048576=true:=Nat.ble_eq_true_of_le (by simp; omega);have m:Nat.ble ((l.drop 0).take (k-0)).length 1048576=true:=Nat.ble_eq_true_of_le (by simp; omega);have p:(Nat.beq (k-0) 0||Nat.blt (k-0) (((l.drop 0).take (k-0)).length+([r]++((l.drop k).take (l.length-k))).length))=true:=(by rw[Bool.or_eq_true];right;rw[cF];exact oT (by simp; omega))
  have g:((k:Nat):Int).toNat=k:=oN _;have e:((l.drop 0).take (k-0))++([r]++((l.drop k).take (l.length-k)))=l.take k++r::l.drop k:=by rw[List.drop_zero,Nat.sub_zero,List.take_of_length_le (l:=l.drop k) R]; rfl
  rw[bEH,j];by_cases f:k<l.length
  ·have b:ltI (k:Int) (l.length:Int)=true:=ze
   have i:aE (k:Int) l.length=true:=zi
   have c:kJ (l.getD k [],r,())=some (decide (l.getD k []=r),()):=(by have:=aTL (l.getD k []) r (by have:=iN k; omega);simp only[kJ,this,aC]);by_cases he:l.getD k []=r;rw[if_pos ⟨f,he⟩];rw[oT he]at c;simp only[fR,key,b,i,g,c,zz];rw[if_neg (λh=>he h.2)];rw[oF he]at c;simp only[fR,key,b,i,g,c,d,x,v,s,q,n,o,u,m,p,e,zz]
  ·have b:ltI (k:Int) (l.length:Int)=false:=zf
   rw[if_neg (λh=>f h.1)];simp only[fR,key,b,g,d,x,v,s,q,n,o,u,m,p,e,zz]
 ·have d:ltI (t:Int) (l.length:Int)=true:=ze
  have b:aE (t:Int) l.length=true:=zi
  have g:((t:Nat):Int).toNat=t:=oN _;have i:=aDB (l.getD t []) r (by have:=iN t; omega) Z;have c:ltI (cmpL (l.getD t []) r) 0=true:=by rw[aF]; exact oT (bO5 l r t Z)
  have y:=bP t Z;simp only[sS,d,b,g,i,c,y,zz]
 ·by_cases f:k<l.length
  ·have d:ltI (k:Int) (l.length:Int)=true:=ze
   have b:aE (k:Int) l.length=true:=zi
   have g:((k:Nat):Int).toNat=k:=oN _;have i:=aDB (l.getD k []) r (by have:=iN k; omega) Z;have c:ltI (cmpL (l.getD k []) r) 0=false:=(by rw[aF];refine oF ?_;have:=bPA l r Z;rw[j]at this;exact this);simp only[sS,d,b,g,i,c,zz]
  ·have d:ltI (k:Int) (l.length:Int)=false:=zf
   simp only[sS,d,oD]
def ins(x:Int):List Int->List Int| []=>[x]| y::l=>bif ltI y x then y::ins x l else x::y::l
def srt:List Int->List Int| []=>[]| x::l=>ins x (srt l)
def a7Z x:∀ l,List.Perm (ins x l) (x::l)
 | []=>.refl _
 | y::l=>by
  unfold ins;cases ltI y x with
  | true=>exact((a7Z x l).cons y).trans (.swap x y l)
  | false=>rfl
def aY2:∀ l,List.Perm (srt l) l| []=>.refl _| x::l=>(a7Z x (srt l)).trans ((aY2 l).cons x)
def a8T x:∀ l ,l.Pairwise (·<=·)->(ins x l).Pairwise (·<=·)
 | [],_=>by simp[ins]
 | y::l,h=>by
  have⟨h1,h2⟩:=List.pairwise_cons.1 h;unfold ins;rw[aF]
  by_cases a:y<x
  ·rw[oT a];refine List.pairwise_cons.2 ⟨λz hz=>?_,a8T x l h2⟩;rcases List.mem_cons.1 ((a7Z x l).mem_iff.1 hz)with rfl|hz
   ·omega
   grind
  ·rw[oF a];refine List.pairwise_cons.2 ⟨λz hz=>?_,h⟩;grind
def aVZ:∀ l,(srt l).Pairwise (·<=·)| []=>.nil| x::l=>a8T x _ (aVZ l)
def bNO {l l'}(hp:List.Perm l l')(a:l.Pairwise (·<=·)):srt l'=l :=List.Perm.eq_of_pairwise (λ_ _ _ _ h k=>Int.le_antisymm h k) (aVZ l') a ((aY2 l').trans hp.symm)
def bQ9 l:(l.mergeSort λx y=>decide (x<=y))=srt l:=by
 refine(bNO (List.mergeSort_perm l _) ?_).symm;refine(List.pairwise_mergeSort ?_ ?_ l).imp (λh=>by grind);grind;grind
def a6X l:(srt l).length=l.length:=(aY2 l).length_eq
def bIV(l:List Int):Option (List Int):=bif Nat.blt l.length 4611686018427387904 then some (srt l) else none
def bWD(args:List PV) (H:Heap):Option aV3:=match args with
 | [.own r sz]=>match iN H r with
  | some k=>match k.tag with
   | some g=>match KZ g.t (.int .i64) g.l with
    | some l=>bif Nat.beq sz 1&&!k.frozen then some ⟨List Int,bIV l,λl'=>(.tuple [],H.set r (some ⟨aI (.int .i64) l',k.ty,k.grown,false,some ⟨.int .i64,l'⟩⟩))⟩ else none
    | none=>none
   | none=>none
  | none=>none
 | _=>none
section
variable {P:Program} {n0:Nat->Prop} {w:World} {G:Gd} {μ:Mp} {H:Heap}
def aOY:∀ (l:List Int),aI (.int .i64) l=l.map λn=>PV.lit (.int .i64 n)| []=>rfl| x::l=>by rw[yT,aOY l]; rfl
def bDI(d:aX n0 G μ H w) os:Ext n0 w G μ (Sort.grow w os) G μ/\aX n0 G μ H (Sort.grow w os):=by
 have f:∀ b,b<w.heap.size->(Sort.grow w os).heap[b]?=w.heap[b]?:=λb a=>by
  show (w.heap++os)[b]?=_;grind
 have e:Ext n0 w G μ (Sort.grow w os) G μ:={
  good:=λb a=>⟨a,f b (d.lt b a)⟩
  map:=λ_ _ h=>h
  len:=λ_ _ h=>h
  room:=λb n a=>by
   have⟨c,t,m,o,g⟩:=a;exact⟨c,t,m,by grind,g⟩
  row:=λ_ _ h=>h
  os:=rfl
  tape:=rfl
  output:=rfl
  size:=R
  old:=λb a _=>f b a
  new:=λb a=>.inl a }
 refine⟨e,d.keep e ⟨λ_=>rfl,λj b l=>⟨f b (d.rows.sep j b l).1,id⟩⟩ (λr k b i a=>⟨f b (d.vB i a),id⟩) λb a=>Nat.lt_of_lt_of_le (d.lt b a) e.size⟩
def bXN {g} (u:∀ xs w,(callFunc g xs).run P w=.ok (.enter g xs) w)
  (hS:∀ blk off cap (Q:List Int) w,Sort.Holds (Value.int .i64) w blk off Q.toArray->blk<w.heap.size->Q.length<4611686018427387904 ->
   Calls P g #[.slice (some ⟨blk,off,none⟩) Q.length cap] w λe w'=>e=.returned (.tuple #[])/\∃ n os,w'=Sort.grow (Sort.putRow (Value.int .i64) (Sort.ahead w n) blk off (Q.mergeSort λx y=>decide (x<=y)).toArray) os)
  (hN:∀ p cap w,Calls P g #[.slice p 0 cap] w λe w'=>e=.returned (.tuple #[])/\w'=w)
  {args r} (h:bWD args H=some r):∀ y,r.val=some y->∀ {n0 G μ w vs},aX n0 G μ H w->VRs w G μ args vs->DI P n0 w G μ g vs.toArray (r.out y).1 (r.out y).2:=by
 unfold bWD at h;split at h
 next s sz=>
  split at h
  next k D=>
   split at h
   ·rename_i t ht;split at h
    ·rename_i l hl;have⟨K,h⟩:=VI h;simp only[oA,Bool.not_eq_true']at K;have z:=K.2;replace K:=oE K.1;simp only[oJ]at h;subst h;subst K;intro y I n0 G μ w vs O hv;unfold bIV at I;have⟨hlen,I⟩:=aJ I;simp only[oJ]at I;subst I;have hlen:=gE hlen;have⟨tt,d⟩:=t;have⟨e0,he⟩:=mL hl;dsimp only at e0 he;subst e0;dsimp only at he;subst he;have⟨a,f⟩:=O.tags s k _ (aG D) ht;dsimp only at a f hlen ⊢;rw[VRs]at hv;obtain⟨v,us,rfl,Z,h2⟩:=hv;rw[VRs]at h2;subst h2;rw[VR]at Z;have⟨n,h3,h4⟩:=Z;rw[f]at h3;cases h3;refine⟨u _ _,?_⟩;rcases h4 with ⟨h5,ao,rfl⟩|⟨b,c,h5,rfl,h7,h8,h9s⟩;have M:d=[]:=List.eq_nil_of_length_eq_zero h5;subst M;refine(hN ao 0 w).mono ?_;rintro e w' ⟨rfl,rfl⟩;have S:(⟨aI (.int .i64) (srt []),k.ty,k.grown,false,some ⟨.int .i64,srt []⟩⟩:Blk)=k:=(by have⟨k1,k2,k3,k4,k5⟩:=k;dsimp only at a z ht;have W:srt []=[]:=(by simp[srt]);rw[a,z,ht,W]);have L:H.set s (some ⟨aI (.int .i64) (srt []),k.ty,k.grown,false,some ⟨.int .i64,srt []⟩⟩)=H:=(by rw[S];apply List.ext_getElem?;intro i;by_cases hi:s=i;subst hi;rw[List.getElem?_set_self (oO.1 (aG D)).1,aG D];rw[List.getElem?_set_ne hi]);refine⟨_,G,μ,rfl,Ext.refl _ _ _ _,?_,?_⟩;rw[L]; exact O;rw[VR]; exact⟨#[],rfl,by simp[VRs]⟩
     ·have⟨q,E,a2,a3,_,a5⟩:=O.blk s k b (aG D) h5;rw[a,aOY,h9s]at a2;rw[h9s];have o:∀ i (hi:i<d.length),w.cell? ⟨b,i,none⟩=some (.int .i64 d[i]):=λi hi=>by
       have⟨v,b1,b2⟩:=a2.get (i:=i) (p:=.lit (.int .i64 d[i])) (by simp[hi]);rw[VR]at b2;rw[Nat.zero_add]at b1;rw[b1,b2]
      have T:∀ i (hi:i<d.length),q[i]?=some (.int .i64 d[i]):=λi hi=>by
       have:=o i hi;simp only[World.cell?,E]at this;simpa using this
      have A:Sort.Holds (Value.int .i64) w b 0 d.toArray:=(by intro j hj;have R:j<d.length:=(by simpa using hj);refine⟨?_,?_⟩;rw[Nat.zero_add,o j R];congr 2;rw[getElem!_pos _ j hj];simp;simp[World.frozen?,E]);have J:=hS b 0 c d w A (gN E) hlen;rw[bQ9]at J;refine J.mono ?_;rintro e w' ⟨rfl,m,os,rfl⟩;have e1:=aNJ (n0:=n0) (w:=w) (G:=G) (μ:=μ) (Nat.le_add_right w.drawn m);have w1:=ZI O (w.drawn+m);have N:(srt d).length=d.length:=a6X d;have hcs:d.length<=q.size:=(by rcases oG q.size d.length with B|hge;have:=T q.size B;simp at this;exact hge)
      have X:Z4 { w with drawn:=w.drawn+m } (Sort.putRow (Value.int .i64) (Sort.ahead w m) b 0 (srt d).toArray) b (Sort.putCells (Value.int .i64) 0 (srt d).toArray q) k.ty:={
       at_:=by
        show (w.heap.modify b _)[b]?=_;rw[Array.getElem?_modify,if_pos rfl,E]; rfl
       other:=λx V=>by
        show (w.heap.modify b _)[x]?=_;rw[Array.getElem?_modify,if_neg (Ne.symm V)]
       os:=rfl
       tape:=rfl
       output:=rfl
       size:=by show (w.heap.modify b _).size=_; simp
       drawn:=rfl }
      have C:(Sort.putCells (Value.int .i64) 0 (srt d).toArray q).size=q.size:=(by simp[Sort.putCells])
      have F:∀ i (hi:i<(srt d).length),(Sort.putCells (Value.int .i64) 0 (srt d).toArray q)[i]?=some (.int .i64 (srt d)[i]):=λi hi=>by
       have h9:i<q.size:=zN
       simp only[Sort.putCells,Array.getElem?_mapIdx,Array.getElem?_eq_getElem h9,Option.map_some,Nat.zero_le,true_and,Nat.zero_add,List.size_toArray,hi,if_true,Nat.sub_zero];rw[getElem!_pos _ i (by simpa using hi)];simp
      have U:aT (Sort.putRow (Value.int .i64) (Sort.ahead w m) b 0 (srt d).toArray) G μ b 0 (aI (.int .i64) (srt d)):=by
       rw[aOY];refine aT.mk λi p hp=>?_;rw[List.getElem?_map]at hp;cases hi:(srt d)[i]? with
       | none=>rw[hi]at hp; cases hp
       | some x =>
        rw[hi]at hp;simp only[Option.map_some,oJ]at hp;subst hp;have⟨B,V⟩:=oO.1 hi;refine⟨.int .i64 x,?_,by rw[VR]⟩;simp only[World.cell?,X.at_,Nat.zero_add];rw[<- V];simpa using F i B
      have e2:=FD w1 (aG D) z h5 (c:=q) (by exact E) X C;have w2:=IB w1 (aG D) z h5 (c:=q) (k':=⟨aI (.int .i64) (srt d),k.ty,k.grown,false,some ⟨.int .i64,srt d⟩⟩) (by exact E) X C rfl (by rw[h9s]; exact U)
       (λY=>by
        rw[C,a3 Y,a,bG,bG,N])
       (λg Y=>by cases Y; exact⟨rfl,by rw[f,N]⟩)
      have⟨e3,w3⟩:=bDI w2 os;refine⟨_,G,μ,rfl,(e1.trans e2).trans e3,w3,?_⟩;rw[VR]; exact⟨#[],rfl,by simp[VRs]⟩
    cases h
   cases h
  cases h
 cases h
end
def bN8 {α:Type} (lt:α->α->Bool) (x:α):List α->List α| []=>[x]| y::l=>bif lt y x then y::bN8 lt x l else x::y::l
def aVW {α}(lt:α->α->Bool):List α->List α| []=>[]| x::l=>bN8 lt x (aVW lt l)
section
variable {P:Program} {n0:Nat->Prop} {w w':World} {G G':Gd} {μ μ':Mp} {H:Heap}
structure El (t:Ty) where
 l:List t.den
 ao:Option Addr
 cap:Nat
def El.v {t}(e:El t):Value:=.slice e.ao e.l.length e.cap
def aOV {t:Ty}(D:List t.den->Bool)(lt:List t.den->List t.den->Bool)(l:List (List t.den)):Option (List (List t.den)):=bif Nat.blt 0 l.length&&Nat.blt l.length 4611686018427387904&&l.all D then some (aVW lt l) else none
end
abbrev gB:Env:=B1 [aWV]
def kA:dN tP gB:=aS ⟨D9,trivial⟩
def bDD {l:List (List Int)}{i}(h:i<l.length):l.getD i []∈l:=W
def SI(l:List (List Int)):Prop:=l.Pairwise λa b=>cmpL a b<0
section
variable {P:Program} {n0:Nat->Prop} {w:World} {G:Gd} {μ:Mp} {H:Heap}
def bNI(y:aX n0 G μ H w) {s:Nat} {k:Blk} {l d:List Int} (t:H[s]?=some (some k)) (q:k.frozen=false) (o:k.tag=some ⟨.int .i64,l⟩) {b:Nat} (B:μ.loc s=some b) (r:μ.sh s=0) (E:d.length=l.length) (m:Nat) :
  Ext n0 w G μ (Sort.putRow (Value.int .i64) (Sort.ahead w m) b 0 d.toArray) G μ/\aX n0 G μ (H.set s (some ⟨aI (.int .i64) d,k.ty,k.grown,false,some ⟨.int .i64,d⟩⟩)) (Sort.putRow (Value.int .i64) (Sort.ahead w m) b 0 d.toArray):=by
 have⟨a,e⟩:=y.tags s k _ t o;dsimp only at a e;have⟨f,u,a2,a3,_,a5⟩:=y.blk s k b t B;rw[a,aOY,r]at a2;have L:l.length<=f.size:=(by rcases oG f.size l.length with h|hge;have⟨v,N,O⟩:=a2.get (i:=f.size) (p:=.lit (.int .i64 l[f.size])) (by simp[h]);simp[World.cell?,u]at N;exact hge)
 have K:=aNJ (n0:=n0) (w:=w) (G:=G) (μ:=μ) (Nat.le_add_right w.drawn m);have F:=ZI y (w.drawn+m);have C:Z4 { w with drawn:=w.drawn+m } (Sort.putRow (Value.int .i64) (Sort.ahead w m) b 0 d.toArray) b (Sort.putCells (Value.int .i64) 0 d.toArray f) k.ty:={
  at_:=by
   show (w.heap.modify b _)[b]?=_;rw[Array.getElem?_modify,if_pos rfl,u]; rfl
  other:=λx A=>by
   show (w.heap.modify b _)[x]?=_;rw[Array.getElem?_modify,if_neg (Ne.symm A)]
  os:=rfl
  tape:=rfl
  output:=rfl
  size:=by show (w.heap.modify b _).size=_; simp
  drawn:=rfl }
 have j:(Sort.putCells (Value.int .i64) 0 d.toArray f).size=f.size:=(by simp[Sort.putCells])
 have n:∀ i (hi:i<d.length),(Sort.putCells (Value.int .i64) 0 d.toArray f)[i]?=some (.int .i64 d[i]):=λi hi=>by
  have M:i<f.size:=Z
  simp only[Sort.putCells,Array.getElem?_mapIdx,Array.getElem?_eq_getElem M,Option.map_some,Nat.zero_le,true_and,Nat.zero_add,List.size_toArray,hi,if_true,Nat.sub_zero];rw[getElem!_pos _ i (by simpa using hi)];simp
 have z:aT (Sort.putRow (Value.int .i64) (Sort.ahead w m) b 0 d.toArray) G μ b 0 (aI (.int .i64) d):=by
  rw[aOY];refine aT.mk λi p hp=>?_;rw[List.getElem?_map]at hp;cases hi:d[i]? with
  | none=>rw[hi]at hp; cases hp
  | some x =>
   rw[hi]at hp;simp only[Option.map_some,oJ]at hp;subst hp;have⟨h,A⟩:=oO.1 hi;refine⟨.int .i64 x,?_,by rw[VR]⟩;simp only[World.cell?,C.at_,Nat.zero_add];rw[<- A];simpa using n i h
 have I:=FD F t q B (c:=f) (by exact u) C j;have J:=IB F t q B (c:=f) (k':=⟨aI (.int .i64) d,k.ty,k.grown,false,some ⟨.int .i64,d⟩⟩) (by exact u) C j rfl (by rw[r]; exact z)
  (λD=>by
   rw[j,a3 D,a,bG,bG,E])
  (λg D=>by cases D; exact⟨rfl,by rw[e,E]⟩)
 exact⟨K.trans I,J⟩
def aS5(l:List Int):Option (List Int):=bif Nat.ble l.length 9223372036854775807 then some (Lib.compact l) else none
def bAF(args:List PV)(H:Heap):Option aV3:=match args with
 | [.own r sz]=>match iN H r with
  | some k=>match k.tag with
   | some g=>match KZ g.t (.int .i64) g.l with
    | some l=>bif Nat.beq sz 1&&!k.frozen then some ⟨List Int,aS5 l,λl'=>(.own H.length 1,H.set r none++[some ⟨aI (.int .i64) l',k.ty,true,false,some ⟨.int .i64,l'⟩⟩])⟩ else none
    | none=>none
   | none=>none
  | none=>none
 | _=>none
def bKX(f:aX n0 G μ H w) {s:Nat} {e:TypeId} {F:Bool} {l a I:List Int} (u:H[s]?=some (some ⟨aI (.int .i64) l,e,F,false,some ⟨.int .i64,l⟩⟩)) (C:l=a++I) {b:Nat} (o:μ.loc s=some b) (p:μ.sh s=0) :
  Ext n0 w G μ w G (upd μ H.length (some b) (some a.length))/\aX n0 G (upd μ H.length (some b) (some a.length)) (H.set s none++[some ⟨aI (.int .i64) a,e,true,false,some ⟨.int .i64,a⟩⟩]) w:=by
 have i:=wB f s;have hlen:(H.set s none).length=H.length:=R
 have y:=SE f (some b) (some a.length);have k:Ext n0 w G μ w G (upd μ (H.set s none).length (some b) (some a.length)):=by rw[hlen]; exact y
 refine⟨y,?_⟩;have:=SG i k ⟨aI (.int .i64) a,e,true,false,some ⟨.int .i64,a⟩⟩ (λ_ _ _ _ _=>rfl) ?_ (λg L=>by cases L; exact⟨rfl,rfl⟩) ?_ (VG i k (λt l A v=>by cases A) (λ_ _ _=>rfl) (λj M J _ n=>by cases n; exact(f.rows.sep j b J).2.2.2 s _ u rfl o));rwa[hlen]at this;rintro B d;cases d;have⟨c,v,x,_,_,D⟩:=f.blk s _ b u o;refine⟨c,v,?_,λh=>(by cases h),λh=>(by cases h),λ_=>D rfl⟩;rw[p]at x;have z:=x.take (aI (.int .i64) a).length;rw[C,uA,List.take_left' rfl]at z;exact aT.mono k.toMono rfl _ _ z;intro r k' B E K d n;cases n;have⟨q,m⟩:=zI E;exact m (f.inj r s k' _ b q u K rfl d o)
def bJE {g} (o:∀ xs w,(callFunc g xs).run P w=.ok (.enter g xs) w) (hlen:∀ l:List Int,(Lib.compact l).length<=l.length)
  (hS:∀ blk off cap x w,Sort.Holds (Value.int .i64) w blk off x.toArray->x.length<=9223372036854775807->x.length<=cap ->
   Calls P g #[.slice (some ⟨blk,off,none⟩) x.length cap] w λe w'=>e=.returned (.slice (some ⟨blk,off,none⟩) (Lib.compact x).length cap)/\∃ q,w'=Sort.putRow (Value.int .i64) (Sort.ahead w q) blk off (Lib.compact x++List.replicate (x.length-(Lib.compact x).length) 0).toArray)
  (hN:∀ p cap w,Calls P g #[.slice p 0 cap] w λe w'=>e=.returned (.slice p 0 cap)/\w'=w)
  {args r} (h:bAF args H=some r):∀ y,r.val=some y->∀ {n0 G μ w vs},aX n0 G μ H w->VRs w G μ args vs->DI P n0 w G μ g vs.toArray (r.out y).1 (r.out y).2:=by
 unfold bAF at h;split at h
 next s sz=>
  split at h
  next k J=>
   split at h
   ·rename_i t ht;split at h
    ·rename_i l hl;have⟨C,h⟩:=VI h;simp only[oA,Bool.not_eq_true']at C;have M:=C.2;replace C:=oE C.1;simp only[oJ]at h;subst h;subst C;intro y A n0 G μ w vs F V;unfold aS5 at A;have⟨hle,A⟩:=aJ A;simp only[oJ]at A;subst A;have hle:=oL hle;have⟨tt,d⟩:=t;have⟨Y,he⟩:=mL hl;dsimp only at Y he;subst Y;dsimp only at he;subst he;have⟨a,f⟩:=F.tags s k _ (aG J) ht;dsimp only at a f hle ⊢;rw[VRs]at V;obtain⟨v,us,rfl,R,T⟩:=V;rw[VRs]at T;subst T;rw[VR]at R;have⟨n,U,h4⟩:=R;rw[f]at U;cases U;refine⟨o _ _,?_⟩;rcases h4 with ⟨h5,ao,rfl⟩|⟨b,c,h5,rfl,h7,h8,h9s⟩;have D:d=[]:=List.eq_nil_of_length_eq_zero h5;subst D;have Q:Lib.compact ([]:List Int)=[]:=List.eq_nil_of_length_eq_zero (Nat.le_zero.1 (hlen []));refine(hN ao 0 w).mono ?_;rintro e w' ⟨rfl,rfl⟩;have O:=wB F s;have⟨B,I⟩:=vY O ⟨aI (.int .i64) [],k.ty,true,false,some ⟨.int .i64,[]⟩⟩ (on:=some 0) (λg hg=>by cases hg; exact⟨rfl,rfl⟩);rw[List.length_set]at B I;rw[Q];refine⟨_,G,_,rfl,B,I,?_⟩;rw[VR];exact⟨0,rZ ..,.inl ⟨rfl,ao,rfl⟩⟩
     ·have⟨cc,a1,a2,a3,_,a5⟩:=F.blk s k b (aG J) h5;rw[a,aOY,h9s]at a2;rw[h9s]at h8 ⊢;have z:∀ i (hi:i<d.length),w.cell? ⟨b,i,none⟩=some (.int .i64 d[i]):=λi hi=>by
       have⟨v,Z,W⟩:=a2.get (i:=i) (p:=.lit (.int .i64 d[i])) (by simp[hi]);rw[VR]at W;rw[Nat.zero_add]at Z;rw[Z,W]
      have u:Sort.Holds (Value.int .i64) w b 0 d.toArray:=(by intro j X;have L:j<d.length:=(by simpa using X);refine⟨?_,?_⟩;rw[Nat.zero_add,z j L];congr 2;rw[getElem!_pos _ j X];simp;simp[World.frozen?,a1])
      refine(hS b 0 c d w u hle h7).mono ?_;rintro e w' ⟨rfl,m,rfl⟩;have hcl:=hlen d;have N:(Lib.compact d++List.replicate (d.length-(Lib.compact d).length) 0).length=d.length:=by simp only[oH,List.length_replicate]; omega
      have⟨B,I⟩:=bNI F (aG J) M ht h5 h9s N m;have E:s<H.length:=(oO.1 (aG J)).1;have⟨K,S⟩:=bKX I (s:=s) (List.getElem?_set_self E) rfl h5 h9s;rw[List.set_set,List.length_set]at S;rw[List.length_set]at K;refine⟨_,G,_,rfl,B.trans K,S,?_⟩;rw[VR,GO];exact⟨_,rZ ..,.inr ⟨b,c,mH ..,rfl,by omega,(B.trans K).room b _ h8,rfl⟩⟩
    cases h
   cases h
  cases h
 cases h
end
def bIA {l c:List Int} (h:l.Pairwise (·<·)) (e:c.Pairwise (·<·)) (hm:∀ x,x∈l↔x∈c):l=c:=by
 have d:∀ {l:List Int},l.Pairwise (·<·)->l.Nodup:=λh=>h.imp λh=>Z
 exact List.Perm.eq_of_pairwise (λa b _ _ f g=>by omega) h e ((List.perm_ext_iff_of_nodup (d h) (d e)).2 hm)
def aFR {l:List Int}{i:Nat} h:l.toArray[i]! =l[i]:=W
def bKH l (x:Int):x∈Lib.compact l↔x∈l:=by
 constructor;intro h;obtain⟨i,hi,rfl⟩:=List.mem_map.1 h;grind
 ·intro h;obtain⟨i,hi,rfl⟩:=List.getElem_of_mem h;have key:∀ i (hi:i<l.length),l[i]∈Lib.compact l:=by
   intro i
   induction i with
   | zero =>
    intro hi;refine List.mem_map.2 ⟨0,List.mem_filter.2 ⟨List.mem_range.2 hi,by simp[Lib.keeps]⟩,aFR hi⟩
   | succ i a =>
    intro hi
    by_cases he:l[i+1]=l[i]' Z
    ·grind
    ·refine List.mem_map.2 ⟨i+1,List.mem_filter.2 ⟨List.mem_range.2 hi,?_⟩,aFR hi⟩;refine Lib.keeps_pos ?_;grind
  grind
def bHM {l:List Int}(h:l.Pairwise (·<=·)):(Lib.compact l).Pairwise (·<·):=by
 refine List.pairwise_map.2 ?_;have hle:∀ i j (hi:i<=j) (d:j<l.length),l[i]' Z<=l[j]:=by
  intro i j hi d;rcases oG i j with h1|h1
  ·exact List.pairwise_iff_getElem.1 h i j _ _ h1
  ·grind
 have hp:((List.range l.length).filter (Lib.keeps l.toArray)).Pairwise λi j=>i<j:=List.Pairwise.filter _ List.pairwise_lt_range
 refine List.Pairwise.imp_of_mem ?_ hp;intro i j hi d g;have⟨b,e⟩:=List.mem_filter.1 hi;have⟨a,c⟩:=List.mem_filter.1 d;have b:=List.mem_range.1 b;have a:=List.mem_range.1 a;simp only[Lib.keeps]at c;have f:l.toArray[j]!≠l.toArray[j-1]!:=W
 rw[aFR a,aFR (i:=j-1) Z]at f;rw[aFR b,aFR a];have k:=hle i (j-1) Z Z;have a2:=hle (j-1) j Z a;omega
def spc(l:List Int):List Int:=Lib.compact (srt l)
def bZN l x:x∈spc l↔x∈l:=by unfold spc; rw[bKH]; exact(aY2 l).mem_iff
def bTY l:(spc l).Pairwise (·<·):=bHM (aVZ l)
def bA4 x:∀ l r,x∈a0U l r↔x=r\/x∈l
 | [],r=>by simp[a0U]
 | a::l,r=>by
  unfold a0U
  by_cases b:cmpL a r<0
  ·rw[if_pos b,List.mem_cons,bA4 x l r,List.mem_cons];grind
  grind
def bQE:∀ {l} r,SI l->SI (a0U l r)
 | [],r,_=>by simp[a0U,SI]
 | a::l,r,h=>by
  have⟨f,e⟩:=List.pairwise_cons.1 h;unfold a0U
  by_cases b:cmpL a r<0
  ·rw[if_pos b];refine List.pairwise_cons.2 ⟨λz hz=>?_,bQE r e⟩;rcases(bA4 z l r).1 hz with rfl|hz
   ·grind
   grind
  ·rw[if_neg b]
   by_cases c:a=r
   ·grind
   ·rw[if_neg c];have d:cmpL r a<0:=by
     by_cases g:cmpL r a<0
     ·grind
     ·exact(c (aFY b g)).elim
    refine List.pairwise_cons.2 ⟨λz hz=>?_,h⟩;rcases List.mem_cons.1 hz with rfl|hz
    ·exact d
    ·exact aF3 d (f z hz)
def bKK l r:(a0U l r).length<=l.length+1:=by
 rw[bEH];grind
def MB(ys:List (List Int)):List (List Int):=ys.foldl a0U []
def aY5 ys y:MB (ys++[y])=a0U (MB ys) y:=by simp[MB]
def xK ys:SI (MB ys)/\(∀ x,x∈MB ys↔x∈ys)/\(MB ys).length<=ys.length:=by
 suffices H:∀ n,n<=ys.length->SI (MB (ys.take n))/\(∀ x,x∈MB (ys.take n)↔x∈ys.take n)/\(MB (ys.take n)).length<=n by
  have:=H ys.length (oM _);grind
 intro n;induction n with
 | zero=>simp[MB,SI]
 | succ n b =>
  intro hn;have⟨c,a,d⟩:=b Z;rw[List.take_succ_eq_append_getElem Z,aY5];refine⟨bQE _ c,λx=>?_,?_⟩
  ·rw[bA4,a x,List.mem_append,List.mem_singleton];grind
  ·have:=bKK (MB (ys.take n)) (ys[n]' Z);omega
def ixL:List (List Int)->List Int->Nat| [],_=>0| a::l,x=>if a=x then 0 else ixL l x+1
def aXM:∀ {l x},x∈l->ixL l x<l.length/\l.getD (ixL l x) []=x
 | a::l,x,h=>by
  unfold ixL
  by_cases e:a=x
  ·grind
  ·have:=aXM ((List.mem_cons.1 h).resolve_left (λh=>e h.symm));grind
def b29 {l}(h:SI l){i j}(hi:i<l.length)(b:j<l.length)(a:cmpL (l.getD i []) (l.getD j [])<0):i<j:=by
 have g:∀ k d,l.getD k []=l[k]:=λk d=>W
 rw[g i hi,g j b]at a;rcases Nat.lt_trichotomy i j with c|c|c;grind;subst c; rw[aFO]at a; omega;have:=List.pairwise_iff_getElem.1 h j i b hi c;exact absurd a (a06 this)
def bU2 {l}(h:SI l){x y}(c:x∈l)(d:y∈l)(e:cmpL x y<0):ixL l x<ixL l y:=by
 have a:=aXM c;have b:=aXM d;exact b29 h a.1 b.1 W
def ntL(l ys:List (List Int)):List Int:=(MB ys).map λy=>(ixL l y:Int)
def bKQ {l ys}(h:SI l)(e:∀ y∈ys,y∈l):(ntL l ys).Pairwise (·<·):=by
 have⟨f,d,_⟩:=xK ys;refine List.pairwise_map.2 (List.Pairwise.imp_of_mem (λ{a b} g i c=>?_) f);have:=bU2 h (e a ((d a).1 g)) (e b ((d b).1 i)) c;omega
def b0W {l ys}(h:SI l)(a:∀ y∈ys,y∈l):spc (ys.map λy=>(ixL l y))=ntL l ys:=by
 have⟨c,b,_⟩:=xK ys;refine bIA (bTY _) (bKQ h a) λx=>?_;rw[bZN];unfold ntL;grind
def shN(a b:List Int):Nat:=a.countP λx=>decide (x∈b)
structure Gr (N:Nat) (nb:Nat->List Nat):Prop where
 lt:∀ i,i<N->∀ k∈nb i,k<N
 sym:∀ i k,i<N->k∈nb i->i∈nb k
structure Far (N:Nat) (nb:Nat->List Nat) (o:Nat) (f:List Int):Prop where
 len:f.length=N
 zero:∀ i,i<N->(f.getD i 0=0↔i=o)
 low:∀ i,i<N->-1<=f.getD i 0
 pre:∀ i,i<N->∀ d:Nat,f.getD i 0=(d:Int)+1->∃ k∈nb i,f.getD k 0=(d:Int)
 nxt:∀ i,i<N->0<=f.getD i 0->∀ k∈nb i,0<=f.getD k 0/\f.getD k 0<=f.getD i 0+1
section
variable {N:Nat} {nb:Nat->List Nat} {o p:Nat} {f f':List Int}
def Far.le (g:Gr N nb)(h:Far N nb o f)(b:Far N nb o f')(l:o<N):∀ (d:Nat) i,i<N->f.getD i 0=d->0<=f'.getD i 0/\f'.getD i 0<=d
 | 0,i,hi,hd=>by
  obtain rfl:=(h.zero i hi).1 hd;have:=(b.zero i hi).2 rfl;omega
 | d+1,i,hi,hd=>by
  have⟨k,e,c⟩:=h.pre i hi d Z;have a:=g.lt i hi k e;have j:=Far.le g h b l d k a c;have m:=b.nxt k a j.1 i (g.sym i k hi e);omega
structure Bfs (N:Nat) (nb:Nat->List Nat) (o:Nat) (f:List Int) (q:List Nat):Prop where
 len:f.length=N
 zero:∀ i,i<N->(f.getD i 0=0↔i=o)
 low:∀ i,i<N->-1<=f.getD i 0
 pre:∀ i,i<N->∀ d:Nat,f.getD i 0=(d:Int)+1->∃ k∈nb i,f.getD k 0=(d:Int)
 inq:∀ k∈q,k<N/\0<=f.getD k 0
 ord:q.Pairwise λa b=>f.getD a 0<=f.getD b 0
 top:∀ a,q.head?=some a->∀ i,i<N->f.getD i 0<=f.getD a 0+1
 nxt:∀ i,i<N->0<=f.getD i 0->i ∉ q->∀ k∈nb i,0<=f.getD k 0/\f.getD k 0<=f.getD i 0+1
def Bfs.start (c:o<N):Bfs N nb o ((List.replicate N (-1)).set o 0) [o]:=by
 refine⟨by simp,λi hi=>?_,λi hi=>?_,λi hi d hd=>?_,λk e=>?_,by simp,λa f i hi=>?_,λi hi b hn=>?_⟩;grind;grind;grind;grind;grind;grind
structure Bfi (N:Nat) (nb:Nat->List Nat) (o a:Nat) (f0:List Int) (D:List Nat) (f:List Int) (q:List Nat):Prop where
 len:f.length=N
 zero:∀ i,i<N->(f.getD i 0=0↔i=o)
 low:∀ i,i<N->-1<=f.getD i 0
 pre:∀ i,i<N->∀ d:Nat,f.getD i 0=(d:Int)+1->∃ k∈nb i,f.getD k 0=(d:Int)
 aN:a<N
 a0:0<=f.getD a 0
 same:f.getD a 0=f0.getD a 0
 inq:∀ k∈q,k<N/\f.getD a 0<=f.getD k 0
 ord:q.Pairwise λa b=>f.getD a 0<=f.getD b 0
 top:∀ i,i<N->f.getD i 0<=f.getD a 0+1
 nxt:∀ i,i<N->0<=f.getD i 0->i ∉ q->i≠a->∀ k∈nb i,0<=f.getD k 0/\f.getD k 0<=f.getD i 0+1
 dn:∀ k∈D,0<=f.getD k 0
def Bfi.old {a n q D f0}(h:Bfi N nb o a f0 D f q)(hn:0<=f.getD n 0):Bfi N nb o a f0 (D++[n]) f q :=
 ⟨h.len,h.zero,h.low,h.pre,h.aN,h.a0,h.same,h.inq,h.ord,h.top,h.nxt,λk b=>by
  rcases List.mem_append.1 b with b|b
  ·exact h.dn k b
  grind⟩
structure Rnd (N:Nat) (nb:Nat->List Nat) (o:Nat) (d:Nat) (f:List Int):Prop where
 len:f.length=N
 zero:∀ i,i<N->(f.getD i 0=0↔i=o)
 low:∀ i,i<N->-1<=f.getD i 0
 pre:∀ i,i<N->∀ d:Nat,f.getD i 0=(d:Int)+1->∃ k∈nb i,f.getD k 0=(d:Int)
 top:∀ i,i<N->f.getD i 0<=d
 nxt:∀ i,i<N->0<=f.getD i 0->f.getD i 0<d->∀ k∈nb i,0<=f.getD k 0/\f.getD k 0<=f.getD i 0+1
def Rnd.start (a:o<N):Rnd N nb o 0 ((List.replicate N (-1)).set o 0):=by
 have h:=Bfs.start (nb:=nb) a;refine⟨h.len,h.zero,h.low,h.pre,λi hi=>?_,λi hi b c=>?_⟩;grind;omega
def rnd(nb:Nat->List Nat) (d:Nat) (f:List Int) (t:Nat):List Int:=(List.range f.length).map λi=>if i<t/\f.getD i 0<0/\∃ k∈nb i,f.getD k 0=(d:Int) then (d:Int)+1 else f.getD i 0
def bD0 {p q}(h:∀ x,p x=true->q x=true):∀ {l:List Int} {x},x∈l->q x=true->p x=false->l.countP p<l.countP q
 | y::l,x,hx,h1,h2=>by
  have hle:l.countP p<=l.countP q:=List.countP_mono_left λz _=>h z
  rcases List.mem_cons.1 hx with rfl|hx
  ·grind
  ·have:=bD0 h hx h1 h2;grind
def many(g:Gr N nb)(j:f.length=N)(pre:∀ i,i<N->∀ d:Nat,f.getD i 0=d+1->∃ k∈nb i,f.getD k 0=d):∀ (e i:Nat),i<N->f.getD i 0=e->e+1<=f.countP λx=>decide (0<=x)&&decide (x<=(e:Int))
 | 0,i,hi,he=>W
 | e+1,i,hi,he=>by
  have hm:f.getD i 0∈f:=W
  have⟨k,h,a⟩:=pre i hi e Z;have:=many g j pre e k (g.lt i hi k h) a;have c:=bD0 (p:=λx=>decide (0<=x)&&decide (x<=(e:Int))) (q:=λx=>decide (0<=x)&&decide (x<=((e+1:Nat):Int))) (λx b=>by simp at b ⊢; omega) hm (by rw[he]; simp; omega) (by rw[he]; simp; omega);omega
def bPR(g:Gr N nb)(a:f.length=N)(pre:∀ i,i<N->∀ d:Nat,f.getD i 0=d+1->∃ k∈nb i,f.getD k 0=d){i}(hi:i<N):f.getD i 0<N:=by
 rcases Int.lt_or_le (f.getD i 0) N with c|c;exact c;have:=many g a pre (f.getD i 0).toNat i hi Z;have b:=List.countP_le_length (p:=λx=>decide (0<=x)&&decide (x<=(((f.getD i 0).toNat:Nat):Int))) (l:=f);omega
def Far.lt (g:Gr N nb)(h:Far N nb o f){i}(hi:i<N):f.getD i 0<N:=bPR g h.len h.pre hi
end
end Go.PM
