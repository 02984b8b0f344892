/- Texts of one proof, joined (12). -/
import Derived.Lib.RowBridge
import Derived.Test.YtcbgclaonahijaaGreatDoorQF11
set_option linter.unusedSimpArgs false
set_option linter.unusedVariables false
set_option linter.defProp false
set_option maxRecDepth 100000
noncomputable section
namespace Go.PM
open Go Go.RowKit Go.Proofs Tryz
set_option maxHeartbeats 4000000
abbrev PL:=(Int×Int)×List Int
def a3T(l:List PL)(p least:Int):Nat->Nat->Option (List (aM [zd]))| _,0=>some []| i,m+1=>bif eqI (i:Int) p then a3T l p least (i+1) m else bif aE p l.length then aB (HT (l.getD p.toNat ((0,0),[]),l.getD i ((0,0),[]),())) λy=>bif ltI y.1 least then a3T l p least (i+1) m else aB (a3T l p least (i+1) m) λr=>some (((i:Int),())::r)else none
def bNC(x:TZ [TyN,TyE,TyE]):Option (List (aM [zd])):=match x with|(l,p,least,())=>bif Nat.ble l.length 1048576 then a3T l p least 0 l.length else none
def aX5(yv:Value)(l:List PL)(p least:Int)(g:l.length<=1048576):∀ (m i:Nat) (all:List (aM [zd])) (N:Nat),a3T l p least i m=some all->i+m=l.length->m<N ->
  YL fJ N (yv,l,p,least,(l.length:Int),(i:Int),())=some (all.map λe=>(yv,e),())
 | 0,i,all,N+1,h,hi,_=>by
  obtain rfl:=oB h;have a:ltI (i:Int) (l.length:Int)=false:=zf
  simp only[YL,fJ,a,oD];rfl
 | m+1,i,all,N+1,h,hi,hN=>by
  have a:ltI (i:Int) (l.length:Int)=true:=ze
  have f:aA .i64 ((i:Int)+1)=((i+1:Nat):Int):=by rw[wrap64 Z Z]; simp
  have n:aE (i:Int) l.length=true:=zi
  simp only[a3T]at h;cases he:eqI (i:Int) p with
  | true =>
   rw[he,oC]at h;have c:=aX5 yv l p least g m (i+1) all N h Z Z;simp only[YL,fJ,a,he,f,zz];rw[c]; rfl
  | false =>
   rw[he,oD]at h;have⟨k,h⟩:=aJ h;have⟨y,j,h⟩:=wA h;have q:=j;cases d:ltI y.1 least with
   | true =>
    rw[d,oC]at h;have c:=aX5 yv l p least g m (i+1) all N h Z Z;simp only[YL,fJ,a,he,n,k,oN,j,d,f,zz];rw[c]; rfl
   | false =>
    rw[d,oD]at h;have⟨b,o,h⟩:=wA h;obtain rfl:=oB h;have c:=aX5 yv l p least g m (i+1) b N o Z Z;simp only[YL,fJ,a,he,n,k,oN,j,d,outs,f,zz];rw[c]; rfl
def bMQ:aOQ tP 130 [TyN,TyE,TyE] [.int .i64] bNC:=by
 refine aI5 ?_;rintro yv ⟨l,p,least,⟨⟩⟩ all h;unfold bNC at h;dsimp only at h;have⟨a,h⟩:=aJ h;have a:=oL a;have:=aX5 yv l p least a l.length 0 all (2^64) h Z Z;unfold M4;dsimp only;unfold wL;have b:((0:Nat):Int)=0:=rfl;rw[b]at this;rw[this];simp[a3D,outs,bI3]
def aNI:zo [.int .u64,.int .u64] [.int .u64,.int .u64]:=λ(a,b,())=>some ((aA .u64 ((aA .u64 ((aA .u64 ((Int.fdiv a (2^(min 32 (IntKind.bits .u64))))*(Int.fdiv b (2^(min 32 (IntKind.bits .u64))))))+(Int.fdiv (aA .u64 ((aA .u64 ((Int.fdiv a (2^(min 32 (IntKind.bits .u64))))*(IntKind.wrap .u64 (((BitVec.ofInt (IntKind.bits .u64) b) &&& (BitVec.ofInt (IntKind.bits .u64) 4294967295)).toNat:Int))))+(Int.fdiv (aA .u64 ((IntKind.wrap .u64 (((BitVec.ofInt (IntKind.bits .u64) a) &&& (BitVec.ofInt (IntKind.bits .u64) 4294967295)).toNat:Int))*(IntKind.wrap .u64 (((BitVec.ofInt (IntKind.bits .u64) b) &&& (BitVec.ofInt (IntKind.bits .u64) 4294967295)).toNat:Int)))) (2^(min 32 (IntKind.bits .u64)))))) (2^(min 32 (IntKind.bits .u64))))))+(Int.fdiv (aA .u64 ((IntKind.wrap .u64 (((BitVec.ofInt (IntKind.bits .u64) (aA .u64 ((aA .u64 ((Int.fdiv a (2^(min 32 (IntKind.bits .u64))))*(IntKind.wrap .u64 (((BitVec.ofInt (IntKind.bits .u64) b) &&& (BitVec.ofInt (IntKind.bits .u64) 4294967295)).toNat:Int))))+(Int.fdiv (aA .u64 ((IntKind.wrap .u64 (((BitVec.ofInt (IntKind.bits .u64) a) &&& (BitVec.ofInt (IntKind.bits .u64) 4294967295)).toNat:Int))*(IntKind.wrap .u64 (((BitVec.ofInt (IntKind.bits .u64) b) &&& (BitVec.ofInt (IntKind.bits .u64) 4294967295)).toNat:Int)))) (2^(min 32 (IntKind.bits .u64))))))) &&& (BitVec.ofInt (IntKind.bits .u64) 4294967295)).toNat:Int))+(aA .u64 ((IntKind.wrap .u64 (((BitVec.ofInt (IntKind.bits .u64) a) &&& (BitVec.ofInt (IntKind.bits .u64) 4294967295)).toNat:Int))*(Int.fdiv b (2^(min 32 (IntKind.bits .u64)))))))) (2^(min 32 (IntKind.bits .u64)))))),(aA .u64 (a*b)),())
abbrev a09:Ent:=⟨230,_,_,aNI⟩
def aUD:Ent.OK tP a09:=oI (aS oW) func230
def aQ9:zo [.int .u64,.int .u64] [.int .u64,.int .u64]:=λ(b,c,())=>aB (aNI (b,c,())) λa=>some (a.1,a.2.1,())
abbrev aR0:Ent:=⟨163,_,_,aQ9⟩
def aY6:Ent.OK tP aR0:=oI (aS (oV aUD oW)) func163
abbrev kE:zb:=[(7,.own 3 TyE),(8,zd)]
abbrev rC:zc:=[(.exit 0,[(7,.own 3 TyE)])]
def OE:zp kE rC:=λ(a,b,())=>bif ltI b (a.length:Int) then za (!(ltI b 0))<|za (Nat.ble b.toNat a.length)<|za (Nat.ble a.length a.length)<|za (Nat.blt b.toNat a.length)<|za (!(ltI b 0))<|za (Nat.ble 0 b.toNat)<|za (Nat.ble b.toNat a.length)<|za (Nat.blt 0 a.length)<|za (Nat.blt 0 (a.length-b.toNat))<|za (Nat.ble (b.toNat+(a.length-b.toNat)) a.length)<|za (Nat.ble ((a.drop 0).take (min (b.toNat-0) (a.length-b.toNat))).length (a.length-b.toNat))<|some (.inl ((spl a b.toNat ((a.drop 0).take (min (b.toNat-0) (a.length-b.toNat)))),(aA .i64 (b+(((a.drop 0).take (min (b.toNat-0) (a.length-b.toNat))).length:Int))),()))else some (.inr ((a,())))
def CZ:zq kE rC:=aV OE (2^64)
def qF(x:aM [.list TyE,zd]):Option (List Int):=match x with|(b,c,())=>bif ltI c 0 then none else aB (aQ9 ((IntKind.wrap .u64 (b.length:Int)),(IntKind.wrap .u64 c),())) λa=>bif ltI 0 a.1 then none else bif ltI 9223372036854775807 a.2.1 then none else bif !(ltI (IntKind.wrap .i64 a.2.1) 0) then bif !(ltI (IntKind.wrap .i64 a.2.1) (IntKind.wrap .i64 a.2.1)) then bif !(ltI 1048576 (IntKind.wrap .i64 a.2.1)) then bif Nat.blt 0 ((List.replicate ((IntKind.wrap .i64 a.2.1).toNat) (0:Ty.den TyE)).length) then bif Nat.ble (0+(List.replicate ((IntKind.wrap .i64 a.2.1).toNat) (0:Ty.den TyE)).length) (List.replicate ((IntKind.wrap .i64 a.2.1).toNat) (0:Ty.den TyE)).length then bif Nat.ble b.length ((List.replicate ((IntKind.wrap .i64 a.2.1).toNat) (0:Ty.den TyE)).length) then aB (CZ ((spl (List.replicate ((IntKind.wrap .i64 a.2.1).toNat) (0:Ty.den TyE)) 0 b),(b.length:Int),())) λd=>some d.1 else none else none else none else none else none else none
def B3:Code:=bY f131
abbrev LC:Env:=B1 [aR0]
def QV:dN tP LC:=aS ⟨aY6,trivial⟩
def HK:Code:=dC B3 0
def JF(id:Nat):Option cI:=bif Nat.beq id 8 then some ⟨kE,rC,CZ⟩ else none
def aAX:∀ x,dL tP LC 48 (aP f131) JF HK kE rC x=OE x:=λ_=>Y
def aDK:cJ tP 48 HK ⟨kE,rC,CZ⟩:=cC QV.callee aQ.mixed _ (aO (l:=[]) Y trivial) aAX
def aFH:bA B3=[HK]:=Y
def aIB:∀ x,bDW tP LC f131 (aP f131) JF B3 [.list TyE,.int .i64] 4 3 TyE x=qF x:=λ_=>Y
def aLY:aYH tP 131 [.list TyE,.int .i64] 3 TyE qF:=a6M aQ QV func131 (c:=B3) Y (keep:=aP f131) (lt:=JF) (t:=4) Y (aO aFH ⟨cB (i:=8) Y rfl aDK,trivial⟩) aIB
abbrev VT:Shr:=(131,bMW [.list TyE,.int .i64] 3 TyE qF)
def aHX:sT tP VT:=aY4 aLY
def sW:zo [.list TyL,zd,zd] [.clo 130 [TyN,TyE,TyE]]:=λ(a,b,c,())=>some ((a,b,c,()),())
abbrev KN:Ent:=⟨89,_,_,sW⟩
def M8:Ent.OK tP KN:=oI (aS oW) func89
abbrev lD:zb:=[(0,.list TyL),(2,zd),(6,.own 3 TyE),(7,.bown 28 3 TyE),(8,.bque 28 3 TyE),(9,.box 3 TyE),(31,.clo 130 [TyN,TyE,TyE])]
abbrev xO:zc:=[(.normal,[(0,.list TyL),(2,zd),(6,.own 3 TyE),(7,.bown 28 3 TyE),(8,.bque 28 3 TyE)])]
def sX(x:Shape.den lD)(e:aM [zd]):oS lD xO:=match x,e with|(g,h,i,b,f,d,a,()),(c,())=>za (aE c b.length)<|za (Nat.blt c.toNat b.length)<|bif ltI (b.getD c.toNat 0) 0 then za (aE d b.length)<|za (Nat.blt d.toNat b.length)<|za (aE c b.length)<|za (Nat.blt c.toNat b.length)<|za (Nat.ble [c].length 1048576)<|za (Nat.ble f.length 1048576)<|some (.inl (g,h,i,(b.set c.toNat (aA .i64 ((b.getD d.toNat 0)+1))),(f++[c]),d,(a.1,a.2.1,a.2.2.1,()),()))else some (.inl (g,h,i,b,f,d,(a.1,a.2.1,a.2.2.1,()),()))
def U1(x:Shape.den lD):TZ [TyN,TyE,TyE]:=match x with|(b,f,g,c,d,e,a,())=>(a.1,a.2.1,a.2.2.1,())
def DD(x:Shape.den lD):oX xO:=a2H lD xO (λx=>bNC (U1 x)) sX x
abbrev CK:zb:=[(0,.list TyL),(2,zd),(6,.own 3 TyE),(7,.bown 28 3 TyE),(8,.bque 28 3 TyE)]
abbrev HX:zc:=[(.exit 0,[(7,.bown 28 3 TyE)])]
def C6:zp CK HX:=λ(d,f,g,e,a,())=>bif ltI 0 (a.length:Int) then za (aE 0 a.length)<|za (Nat.blt 0 a.length)<|za (Nat.ble 1 a.length)<|za (Nat.ble a.length a.length)<|aB (sW (d,(a.getD 0 0),f,())) λc=>aB (DD (d,f,g,e,((a.drop 1).take (a.length-1)),(a.getD 0 0),(c.1.1,c.1.2.1,c.1.2.2.1,()),())) λb=>some (.inl (b.1,b.2.1,b.2.2.1,b.2.2.2.1,b.2.2.2.2.1,()))else some (.inr ((e,())))
def KD:zq CK HX:=aV C6 (2^64)
def LU:zo [.list TyL,zd,zd] [.list TyE]:=λ(c,a,e,())=>aB (qF ([(-1)],(c.length:Int),())) λb=>za (aE a b.length)<|za (Nat.blt a.toNat b.length)<|aB (KD (c,e,[],(b.set a.toNat 0),[a],())) λd=>some (d.1,())
def W5:Code:=bY f90
abbrev W8:Env:=RP [KN] [VT]
def X2:dN tP W8:=jH ⟨M8,trivial⟩ ⟨aHX,trivial⟩
def L0:Code:=inLoop (QF W5 0)
def iH:Code:=QF L0 0
def a1B:Code:=inLoop iH
def UJ(id:Nat):Option cI:=bif Nat.beq id 4 then some ⟨CK,HX,KD⟩ else none
def UD(id:Nat):Option cI:=bif Nat.beq id 9 then some ⟨lD,xO,DD⟩ else none
def aRX:bM a1B=9:=Y
def aD5:iH=.rangeFunc (aNR iH) (a1W iH) (II iH) (inLoop iH):=Y
def aSC:∀ y e,aST tP W8 51 (xD f90) UJ UD (a1W iH).toList (II iH) (inLoop iH) [.int .i64] lD xO y e=sX y e:=λ_ _=>Y
def aWQ:∀ x,a8H 130 [TyN,TyE,TyE] lD (aNR iH) x=some (U1 x):=λ_=>Y
def aUS:H7 tP 51 false [] iH ⟨lD,xO,DD⟩:=aNV X2 aQ aD5 func130 (c:=bY f130) Y bMQ Y (nK (l:=[]) Y trivial) aWQ aSC
def aZG:dV L0=[iH]:=Y
def aSS:∀ x,TD tP W8 51 (xD f90) UJ UD false [] L0 CK HX x=C6 x:=λ_=>Y
def aU5:H7 tP 51 false [] (.loop L0) ⟨CK,HX,KD⟩:=FI X2.callee aQ.mixed _ (nK aZG ⟨aF1 aD5 aRX rfl aUS,trivial⟩) aSS
def aWH:dV W5=[.loop L0]:=Y
def aZE:∀ x,a0L tP W8 f90 (xD f90) UJ UD W5 [.list TyL,.int .i64,.int .i64] [.list TyE] x=LU x:=λ_=>Y
abbrev aGX:Ent:=⟨90,_,_,LU⟩
def aJM:Ent.OK tP aGX:=aJK aQ X2 func90 (c:=W5) Y (keep:=xD f90) (lt:=UJ) (rt:=UD) (nK aWH ⟨E7 (i:=4) Y rfl aU5,trivial⟩) aZE
open Go.Lz
def lI {i n:Nat} (h:i<n):ltI i n=true:=by rw[aF]; grind
def lN(n:Nat):ltI n n=false:=by rw[aF]; simp
def iO {i n:Nat}(h:i<n):aE i n=true:=by rw[aL]; grind
def bL {n:Nat}(h:n<=1048576):Nat.ble n 1048576=true:=Nat.ble_eq_true_of_le h
def bO {α:Type}(a:α):Nat.ble [a].length 1048576=true:=rfl
def bT {i n}(h:i<n):Nat.blt i n=true:=by simp_all
def tN(i:Nat):((i:Int)).toNat=i:=oN i
def wS {i n:Nat}(h:i<n)(hn:n<=1048576):aA .i64 (i+1)=((i+1:Nat)):=bP i Z
def e00:eqI 0 0=true:=O
def bAH {τ:Type} p [DecidablePred p](g:Nat->τ):∀ m ,(∃ j,j<m/\p j/\(∀ i,i<j->¬ p i)/\((List.range m).findSome? λi=>if p i then some (g i) else none)=some (g j))\/((∀ i,i<m->¬ p i)/\((List.range m).findSome? λi=>if p i then some (g i) else none)=none)
 | 0=>.inr ⟨λi h=>by omega,rfl⟩
 | m+1=>by
  rw[List.range_succ,List.findSome?_append];rcases bAH p g m with ⟨j,h1,h2,h3,h4⟩|⟨h1,h2⟩
  ·grind
  grind
def ME {σ τ step N}(F:Nat->σ) p [DecidablePred p](g:Nat->τ) m z (a:m<N)(h:∀ i,i<m->step (F i)=some (if p i then .inr (g i) else .inl (F (i+1))))(he:step (F m)=some (.inr z)) :
  (∃ j,j<m/\p j/\(∀ i,i<j->¬ p i)/\aV step N (F 0)=some (g j))\/((∀ i,i<m->¬ p i)/\aV step N (F 0)=some z):=by
 have key:=aPW F (λi=>if p i then some (g i) else none) m z a (λi hi=>by
  grind) he
 rcases bAH p g m with ⟨j,h1,h2,h3,h4⟩|⟨h1,h2⟩;grind;grind
def Q4 {l:List Int}{x}:x∈l↔∃ i,i<l.length/\l.getD i 0=x:=by
 constructor;intro h;obtain⟨i,hi,rfl⟩:=List.getElem_of_mem h;exact⟨i,hi,by grind⟩;grind
def a4N(l:List Int) (x:Int) (f:l.length<=1000000):pC (l,x,())=some (decide (x∈l),()):=by
 have key:=ME (step:=yI) (N:=2^64) (λt=>(l,x,(l.length:Int),(t:Int),())) (λi=>x=l.getD i 0) (λj=>.inl ((j:Int),())) l.length (.inr ()) Z (λt ht=>?_) ?_
 ·rcases key with ⟨j,h1,a,_,b⟩|⟨h1,a⟩
  ·have b:yH (l,x,(l.length:Int),0,())=some (.inl ((j:Int),())):=b;have c:ltI (j:Int) 0=false:=zf
   rw[oT (Q4.2 ⟨j,h1,a.symm⟩)];simp only[pC,GG,b,c,zz]
  have a:yH (l,x,(l.length:Int),0,())=some (.inr ()):=a;have c:ltI (-1:Int) 0=true:=O;rw[oF (λh=>by have⟨i,hi,e⟩:=Q4.1 h; exact h1 i hi e.symm)];simp only[pC,GG,a,c,zz]
 have d:=wS ht Z;simp only[yI,lI ht,iO ht,tN,d,oC,bN,yJ];grind;simp only[yI,lN,oD]
def bI2(a b:List Int) {t} (ht:t<a.length):shN (a.take (t+1)) b=shN (a.take t) b+if a.getD t 0∈b then 1 else 0:=by
 unfold shN;rw[List.take_succ_eq_append_getElem ht,List.countP_append];grind
def bTA a b:shN a b<=a.length:=List.countP_le_length
def bCO(a b:PL)(i:a.2.length<=1000000)(g:b.2.length<=1000000):HT (a,b,())=some ((shN a.2 b.2:Int),()):=by
 have key:=aK (step:=BR) (N:=2^64) (λt=>(b,(shN (a.2.take t) b.2:Int),a.2,(a.2.length:Int),(t:Int),())) a.2.length (((shN a.2 b.2:Int),())) Z (λt ht=>?_) ?_;have key:P3 (((b.1.1,b.1.2),b.2),0,a.2,(a.2.length:Int),0,())=some ((shN a.2 b.2:Int),()):=(by have h:(shN (a.2.take 0) b.2:Int)=0:=rfl;exact key);simp only[HT,key,aC];have e:=wS ht Z;have d:=a4N b.2 (a.2.getD t 0) g;have hle:=bTA (a.2.take t) b.2;rw[List.length_take]at hle;have f:aA .i64 ((shN (a.2.take t) b.2:Int)+1)=((shN (a.2.take t) b.2+1:Nat):Int):=bP _ Z;rw[bI2 a.2 b.2 ht];by_cases c:a.2.getD t 0∈b.2;rw[oT c]at d;rw[if_pos c];simp only[BR,lI ht,iO ht,tN,e,d,f,zz];rw[oF c]at d;rw[if_neg c];simp only[BR,lI ht,iO ht,tN,e,d,Nat.add_zero,zz];simp only[BR,lN,oD,List.take_length]
def nbP(P:List PL) (s:Int) (i k:Nat):Bool:=decide (k≠i)&&decide (s<=(shN (P.getD i ((0,0),[])).2 (P.getD k ((0,0),[])).2))
def nb(P:List PL)(s:Int)(i:Nat):List Nat:=(List.range P.length).filter (nbP P s i)
def aQZ(P:List PL):Prop:=P.length<=200/\∀ i,i<P.length->(P.getD i ((0,0),[])).2.length<=1000/\(P.getD i ((0,0),[])).2.Pairwise (·<·)
def evs(l:List Nat):List (aM [zd]):=l.map λk:Nat=>((k:Int),())
def bKC {P}(a:aQZ P) s {p}(hp:p<P.length):∀ m i,i+m=P.length->a3T P p s i m=some (evs ((List.range' i m).filter (nbP P s p)))
 | 0,i,_=>rfl
 | m+1,i,h=>by
  have b:=bKC a s hp m (i+1) Z;have d:=bCO (P.getD p ((0,0),[])) (P.getD i ((0,0),[])) (by have:=(a.2 p hp).1; omega) (by have:=(a.2 i Z).1; omega);rw[List.range'_succ];simp only[a3T,bN,aF,iO hp,tN,d,b,yJ,zz]
  by_cases c:i=p
  ·rw[if_pos Z,List.filter_cons_of_neg (by simp[nbP,c])]
  ·rw[if_neg Z]
   by_cases c2:(shN (P.getD p ((0,0),[])).2 (P.getD i ((0,0),[])).2:Int)<s
   ·rw[if_pos c2,List.filter_cons_of_neg (by simp only[nbP,oA,decide_eq_true_eq]; omega)]
   ·rw[if_neg c2,List.filter_cons_of_pos (by simp only[nbP,oA,decide_eq_true_eq]; omega)]; rfl
def bHU {P}(a:aQZ P)(s:Int){p}(hp:p<P.length):bNC (P,(p:Int),s,())=some (evs (nb P s p)):=by
 have b:=a.1;simp only[bNC,bL (show P.length<=1048576 by omega),bKC a s hp P.length 0 R];rw[<- List.range_eq_range']; rfl
def bH2(nb:Nat->List Nat) (N o:Nat):Nat->List Int| 0=>(List.replicate N (-1)).set o 0| d+1=>rnd nb d (bH2 nb N o d) N
def dst(nb:Nat->List Nat) (N o:Nat):List Int:=bH2 nb N o N
abbrev qC(q:List Nat):List Int:=q.map λk:Nat=>k
def gL(nb:Nat->List Nat) (N:Nat):List (List Int):=(List.range N).map λi=>qC (nb i)
def BW {nb N}:(gL nb N).length=N:=by simp[gL]
section
variable {P:Program} {cl:Callee} {n0:Nat->Prop} {nt:Nat} {wi w:World} {Gi G:Gd} {μi μ:Mp} {F:Frm} {H:Heap} {a:Act}
def a88(n0:Nat->Prop) (p:Nat):Nat->Prop:=λb=>n0 b/\b≠p
def aX.a88 (h:aX n0 G μ H w){p}(hp:∀ r k b,H[r]?=some (some k)->k.frozen=false->μ.loc r=some b->b≠p)(a:∀ j b,G.row j=some b->b≠p)(n:p<w.heap.size):aX (a88 n0 p) G μ H w where
 blk r k b hr hb:=by
  have⟨c,f,i,l,g,e⟩:=h.blk r k b hr hb;exact⟨c,f,i,l,g,λd=>⟨⟨(e d).1,hp r k b hr d hb⟩,(e d).2⟩⟩
 tags:=h.tags
 inj:=h.inj
 lt:=h.lt
 top:=h.top
 base b hb:=⟨h.base b hb,by omega⟩
 rows:=h.rows.aXW λj b m hn=>⟨hn,a j b m⟩
def aX.bPG {p}(h:aX (PM.a88 n0 p) G μ H w):aX n0 G μ H w where
 blk r k b hr hb:=by
  have⟨c,e,f,g,i,a⟩:=h.blk r k b hr hb;exact⟨c,e,f,g,i,λd=>⟨(a d).1.1,(a d).2⟩⟩
 tags:=h.tags
 inj:=h.inj
 lt:=h.lt
 top:=h.top
 base b hb:=(h.base b hb).1
 rows:=h.rows.aXW λj b l hn=>hn.1
def Ext.bPG {p w' G' μ'}(e:Ext (PM.a88 n0 p) w G μ w' G' μ'):Ext n0 w G μ w' G' μ' :={toMono:=e.toMono,os:=e.os,tape:=e.tape,output:=e.output,size:=e.size,old:=λb a hn=>e.old b a λh=>hn h.1,new:=λb a=>(e.new b a).imp id (·.1) }
def aXI(b:dS P cl) {ops:Array Oper} {Q:Exit->Act->World->Prop} {F':Frm} {H':Heap} {i:List Oper}:∀ (l:List Oper) (F:Frm) (H:Heap) (a:Act) (w:World),TI P cl nt ops.toList l F H=some (F',H')->I n0 wi Gi μi nt F H a w ->
  (∀ j w',I n0 wi Gi μi nt F' H' j w'->wpList P ops Q i j w')->wpList P ops Q (l++i) a w
 | [],F,H,a,w,h,hI,hQ=>by
  simp only[TI,oJ,oP]at h;obtain⟨rfl,rfl⟩:=h;exact hQ a w hI
 | o::rest,F,H,a,w,h,hI,hQ=>by
  simp only[TI]at h;rw[List.cons_append];split at h
  next v H1 c p=>
   rw[aG7]at h;split at h
   ·rename_i m hp;rw[NY,Bool.cond_self]at h;have⟨G,μ,e,g,d⟩:=hI;unfold wpList;rcases aEK b p g d with ⟨h1,h2⟩|⟨h1,rfl,rfl⟩
    ·rw[if_pos h1];refine .inl (h2 _ _ λv' w' G' μ' k f n=>?_);exact aXI b rest m H1 _ _ h ⟨G',μ',e.trans k,f,(d.mono k.toMono).aXJ hp n⟩ hQ
    ·rw[h1,if_neg O];exact aXI b rest m H1 _ _ h ⟨G,μ,e,g,d.aXJ hp (by rw[VR])⟩ hQ
   ·cases h
  ·cases h
def I.fresh (b:aX n0 G μ H w) (c:fG w G μ nt F a):I n0 w G aH nt F H a w :=⟨G,μ,⟨aPJ,rfl,rfl,rfl,oM _,λ_ _ _=>rfl,λ_ h=>.inl h⟩,b,c⟩
def b2W(w:World) (b:Nat) (L:List (ByteArray×Int)):Prop:=∃ es clk,w.heap[b]?=some (.map es clk)/\es.toList.map (λe=>(e.key,e.val))=L.map λp=>(Value.string p.1,Value.int .i64 p.2)
def bKT {t c h:TypeId} {b a:Nat} {es:Array MapEntry} {L:List (ByteArray×Int)} (i:P.underlying t=some (.map c h)) (d:P.underlying c=some .string) (f:w.heap[b]?=some (.map es a))
  (g:es.toList.map (λe=>(e.key,e.val))=L.map λp=>(Value.string p.1,Value.int .i64 p.2)) {s:ByteArray} (j:YH L s=false) (n:Int) :
  (Instr.mapUpdate t (.map (some b)) (.string s) (.int .i64 n)).run P w=.ok () (w.putObj b (.map (es.push { key:=.string s,val:=.int .i64 n,born:=a }) (a+1))):=by
 have l:(Instr.checkKey false 10000 c (.string s)).run P w=.ok () w:=MapKept.run_checkKey (k:=.string s) d trivial false 9999;rcases a1R (s:=s) 0 g with ⟨_,_,f2⟩|⟨_,f1,_⟩;simp[Instr.mapUpdate,run_underlying i,MapKept.run_getObj_map f,l,MapKept.run_findKey d f2,MapKept.run_setObj_map _ f,Result.andThen,World.putObj];rw[j]at f1; cases f1
def bZI {b:Nat} (l:aX (PM.a88 n0 b) G μ H w) (hn:n0 b) (hG:¬ G b) {es es':Array MapEntry} {o clk':Nat} (u:w.heap[b]?=some (.map es o)) :
  Ext n0 w G aH (w.putObj b (.map es' clk')) G aH/\aX (PM.a88 n0 b) G μ H (w.putObj b (.map es' clk'))/\(∀ {F:Frm} {a:Act},fG w G μ nt F a->fG (w.putObj b (.map es' clk')) G μ nt F a)/\(w.putObj b (.map es' clk')).heap[b]?=some (.map es' clk'):=by
 have e:∀ c,c≠b->(w.putObj b (.map es' clk')).heap[c]?=w.heap[c]?:=λc d=>World.putObj_heap_other d
 have g:(w.putObj b (.map es' clk')).heap.size=w.heap.size:=World.putObj_size;have room:∀ c n,Room w c n->Room (w.putObj b (.map es' clk')) c n:=λc n ⟨cs,t,B,m,C⟩=>⟨cs,t,B,by
  rw[e c (by rintro rfl; rw[u]at m; cases m)]; exact m,C⟩
 have q:∀ μ,Ext n0 w G μ (w.putObj b (.map es' clk')) G μ:=λμ=>{
  good:=λc d=>⟨d,e c (by rintro rfl; exact hG d)⟩
  map:=λ_ _ h=>h
  len:=λ_ _ h=>h
  room:=room
  row:=λ_ _ h=>h
  os:=rfl
  tape:=rfl
  output:=rfl
  size:=by rw[g]; exact oM _
  old:=λc d s=>e c (by rintro rfl; exact s hn)
  new:=λc d=>.inl d }
 have f:∀ j c,G.row j=some c->c≠b:=λj c v=>(l.rows.sep j c v).2.1.2
 have hblk:∀ r k c,H[r]?=some (some k)->μ.loc r=some c->c≠b:=λr k c i d=>by
  have⟨_,_,_,_,y,A⟩:=l.blk r k c i d;cases x:k.frozen with
  | true=>rintro rfl; exact hG (y x)
  | false=>exact(A x).1.2
 have p:=l.bPG.keep (q μ) ⟨λ_=>rfl,λj c v=>⟨e c (f j c v),id⟩⟩ (λr k c i d=>⟨e c (hblk r k c i d),id⟩) (λc d=>by rw[g]; exact l.lt c d);refine⟨q aH,p.a88 (λr k c i _ d=>hblk r k c i d) f (by rw[g]; exact gN u),λz=>z.mono (q μ).toMono,?_⟩;exact World.putObj_heap_same (gN u)
def bYY(c:aX n0 G μ H w):Ext n0 w G aH (w.alloc (.map #[] 0)) G aH/\aX (PM.a88 n0 w.heap.size) G μ H (w.alloc (.map #[] 0))/\(∀ {F:Frm} {a:Act},fG w G μ nt F a->fG (w.alloc (.map #[] 0)) G μ nt F a)/\(w.alloc (.map #[] 0)).heap[w.heap.size]?=some (.map #[] 0)/\n0 w.heap.size/\¬ G w.heap.size:=by
 have⟨e,d⟩:=bKW c (.map #[] 0);refine⟨⟨⟨e.good,λ_ _ h=>h,λ_ _ h=>h,e.room,e.row,λ_ _ _=>rfl⟩,e.os,e.tape,e.output,e.size,e.old,e.new⟩,d.a88 (λr k b i _ g=>?_) (λj b m=>?_) ?_,λf=>f.mono e.toMono,(MapKept.heap_alloc w _).1,c.base _ (oM _),λl=>Nat.lt_irrefl _ (c.lt _ l)⟩;have:=c.vB i g; omega;have:=(c.rows.sep j b m).1; omega;show w.heap.size<(w.heap.push _).size;simp
def bH0 {b:Nat} {w':World} {G':Gd} {μ':Mp} (e:Ext (PM.a88 n0 b) w G aH w' G' μ') (a:b<w.heap.size) (hG:¬ G b):w'.heap[b]?=w.heap[b]?/\¬ G' b :=⟨e.old b a λh=>h.2 rfl,λh=>(e.new b h).elim hG λh=>h.2 rfl⟩
def kS(sl:List Nat) (ex:Ex) (F:Frm) (H:Heap):Option (Ex×List PV×Heap):=some (ex,sl.map (cR F),H)
def kO(sl:List Nat)(F:Frm)(H:Heap):Option (List PV×Heap):=some (sl.map (cR F),H)
def bO7 F t:∀ sl:List Nat,cR (sl.zip (sl.map (cR F))) t=cR F t\/cR (sl.zip (sl.map (cR F))) t=.junk
 | []=>.inr rfl
 | s::sl=>by
  show cR ((s,cR F s)::sl.zip (sl.map (cR F))) t=cR F t\/cR ((s,cR F s)::sl.zip (sl.map (cR F))) t=.junk;rw[eY]
  by_cases a:t=s
  ·grind
  ·rw[if_neg a]; exact bO7 F t sl
def fG.J5 (h:fG w G μ nt F a)(sl:List Nat):fG w G μ nt (sl.zip (sl.map (cR F))) a:=⟨h.size,λt=>by
 rcases bO7 F t sl with h1|h1
 ·rw[h1]; exact h.slot t
 ·rw[h1,VR]; simp,h.defers⟩
def Ext.bWF {w' G' μ'}(e:Ext n0 w G aH w' G' μ'):Ext n0 w G aH w' G' aH :=⟨⟨e.good,λ_ _ h=>h,λ_ _ h=>h,e.room,e.row,λ_ _ _=>rfl⟩,e.os,e.tape,e.output,e.size,e.old,e.new⟩
def a00 {E:Env} {keep:Nat} (f:dS P (gJ P E)) (k:P.follows .mixedOrders=true) {c:Code} {sl:List Nat} {ex:Ex} {ps:List PV} {H':Heap} (l:bA c=[]) (h:C1 P E nt keep (λ_=>none) c F H (kS sl)=some (ex,ps,H')) (j:aX n0 G μ H w) (n:fG w G μ nt F a) :
  c.wp P (λe i w'=>e=ex.to/\∃ G' μ',Ext n0 w G aH w' G' aH/\aX n0 G' μ' H' w'/\fG w' G' μ' nt (sl.zip ps) i) a w:=by
 have⟨⟨q,s,H1⟩,g,m⟩:=sZ f k c _ _ _ _ (by rw[l]; intro a p; cases p) h;simp only[kS,oJ,oP]at g;obtain⟨rfl,rfl,rfl⟩:=g;refine wp_mono (m n0 w G aH a w (λr=>⟨rfl,rfl⟩) (I.fresh j n)) ?_;rintro e i w' ⟨rfl,G',μ',o,d,b⟩;exact⟨rfl,G',μ',o.bWF,d,b.J5 sl⟩
def bP8 {E:Env} (e:dS P (gJ P E)) {ops:Array Oper} {l g:List Oper} {sl:List Nat} {ps:List PV} {H':Heap} {Q:Exit->Act->World->Prop} (h:R7 P E nt ops.toList l F H (kO sl)=some (ps,H')) (i:aX n0 G μ H w) (n:fG w G μ nt F a)
  (k:∀ b w' G' μ',Ext n0 w G aH w' G' aH->aX n0 G' μ' H' w'->fG w' G' μ' nt (sl.zip ps) b->wpList P ops Q g b w'):wpList P ops Q (l++g) a w:=by
 have⟨p,H1,m,f⟩:=IU h;simp only[kO,oJ,oP]at f;obtain⟨rfl,rfl⟩:=f;refine aXI e l F H a w m (I.fresh i n) λb w' j=>?_;have⟨G',μ',o,d,c⟩:=j;exact k b w' G' μ' o.bWF d (c.J5 sl)
end
abbrev LLI:Ty:=.list (.list (.int .i64))
abbrev TmT:Ty:=.prod (.list (.int .i64)) (.prod LLI LLI)
abbrev GmT:Ty:=.prod TmT LLI
abbrev LaT:Ty:=.prod (.int .i64) LLI
abbrev FiT:Ty:=.prod GmT (.prod LaT .smap)
def sL:Code->Code| .seq x _=>x| c=>c
def sR:Code->Code| .seq _ y=>y| c=>c
def bB:Code->Code| .block _ c=>c| c=>c
def lL:Code->Code| .loop c=>c| c=>c
def rO:Code->Array Oper| .region _ ops _=>ops| _=>#[]
def cN:Code:=bY f86
def cN0:Code:=sL cN
def cN1:Code:=sL (sR cN)
def cN2:Code:=sL (sR (sR cN))
def cN3:Code:=sL (sL (sR (sR (sR cN))))
def cNb:Code:=lL (bB (sR (sL (sR (sR (sR cN))))))
def cN9:Code:=sL (sR (sR (sR (sR cN))))
def cN4:Code:=sL cNb
def cN5:Code:=sL (bB (sL (sR (sR cNb))))
def cN6:Code:=sL (sR (bB (sL (sR (sR cNb)))))
def cN7:Code:=sR (sR (bB (sL (sR (sR cNb)))))
def cN8:Code:=sR (sR (sR cNb))
def oN2:Array Oper:=rO cN2
def oN7:Array Oper:=rO cN7
def b1Z:cN=.seq cN0 (.seq cN1 (.seq cN2 (.seq (.seq cN3 (.block 0 (.loop cNb))) (.seq cN9 .ret)))):=by rfl
def bXM:cNb=.seq cN4 (.seq (.cond (.tmp 25) .skip (.exit 0)) (.seq (.block 1 (.seq cN5 (.seq cN6 cN7))) cN8)):=by rfl
def b0A:cN2=.region 2 oN2 false:=Y
def b0E:cN7=.region 7 oN7 false:=Y
abbrev EN:Env:=B1 [Y8,bD8]
def bH7:dN Tryz.prog EN:=aS ⟨KB,aZZ,trivial⟩
abbrev ntN:Nat:=f86.ntmps
abbrev kpN:Nat:=aP f86
abbrev iL(n:Int):PV:=.lit (.int .i64 n)
def HN1(g:GmT.den):Heap:=[some ⟨enc GmT g,38,false,false,none⟩,some ⟨(match N6 Tryz.prog 144 with|some z=>lits z.cells|none=>[]),144,false,false,none⟩]
def HN2(g:GmT.den)(la:LaT.den):Heap:=HN1 g++[some ⟨enc LaT la,105,false,false,none⟩]
def HN3(g:GmT.den)(la:LaT.den)(b:Nat):Heap:=HN2 g la++[some ⟨enc GmT g++(enc LaT la++[.lit (.map (some b))]),144,false,false,none⟩]
def HN9(g:GmT.den)(la:LaT.den)(b:Nat):Heap:=[some ⟨enc GmT g,38,false,false,none⟩,some ⟨enc GmT g++(enc LaT la++[.lit (.map (some b))]),144,false,false,none⟩,some ⟨enc LaT la,105,false,false,none⟩,some ⟨enc GmT g++(enc LaT la++[.lit (.map (some b))]),144,false,false,none⟩]
def b3W(g:GmT.den):C1 Tryz.prog EN ntN kpN (λ_=>none) cN0 (start kpN 0 [.agg (enc GmT g)]) [] (kS [1,2,3])=some (.normal,[.hptr 0 0,.hptr 1 0,iL 0],HN1 g):=Y
def FN1:Frm:=[(1,.hptr 0 0),(2,.hptr 1 0),(3,iL 0)]
def b3M(g:GmT.den):C1 Tryz.prog EN ntN kpN (λ_=>none) cN1 FN1 (HN1 g) (kS [1,2,4,5])=aB (iG ((g.1.1,(g.1.2.1,g.1.2.2)),())) λy=>some (.normal,[.hptr 0 0,.hptr 1 0,.hptr 2 0,iL y.2.1],HN2 g y.1):=Y
def FN2(e:Int):Frm:=[(1,.hptr 0 0),(2,.hptr 1 0),(4,.hptr 2 0),(5,iL e)]
def b3V(g:GmT.den)(la:LaT.den)(e:Int):R7 Tryz.prog EN ntN oN2.toList (oN2.toList.take 2) (FN2 e) (HN2 g la) (kO [1,2,5,17,18])=some ([.hptr 0 0,.hptr 1 0,iL e,.agg (enc GmT g),.agg (enc LaT la)],HN2 g la):=Y
def omk:Oper:=oN2.toList.getD 2 ⟨none,.nilCheck (.const undef),0,"",#[],none⟩
def b0J:oN2.toList=oN2.toList.take 2++(omk::oN2.toList.drop 3):=by rfl
def bML:omk.op=.makeMap 142 none/\omk.dst=some 19/\omk.guard=none:=⟨by kernel_rfl,by kernel_rfl,by kernel_rfl⟩
def b1V(g:GmT.den)(la:LaT.den)(e:Int)(b:Nat):Frm:=[(19,.lit (.map (some b))),(1,.hptr 0 0),(2,.hptr 1 0),(5,iL e),(17,.agg (enc GmT g)),(18,.agg (enc LaT la))]
def b1Y(g:GmT.den)(la:LaT.den)(e:Int)(b:Nat):R7 Tryz.prog EN ntN oN2.toList (oN2.toList.drop 3) (b1V g la e b) (HN2 g la) (kO [1,2,5,6])=some ([.hptr 0 0,.hptr 1 0,iL e,.hptr 3 0],HN3 g la b):=Y
def FN3(e:Int):Frm:=[(1,.hptr 0 0),(2,.hptr 1 0),(5,iL e),(6,.hptr 3 0)]
def b3D(g:GmT.den)(la:LaT.den)(e:Int)(b:Nat):C1 Tryz.prog EN ntN kpN (λ_=>none) cN3 (FN3 e) (HN3 g la b) (kS [2,5,6,22,23,24])=some (.normal,[.hptr 1 0,iL e,.hptr 3 0,zX (.list (.int .i64)) g.2 none,iL (g.2.length:Int),iL 0],HN3 g la b):=Y
def FN4(l:List (List Int))(e i:Int):Frm:=[(2,.hptr 1 0),(5,iL e),(6,.hptr 3 0),(22,zX (.list (.int .i64)) l none),(23,iL l.length),(24,iL i)]
def b1U(H:Heap)(l:List (List Int))(e i:Int):C1 Tryz.prog EN ntN kpN (λ_=>none) cN4 (FN4 l e i) H (kS [2,5,6,22,23,24,25])=some (.normal,[.hptr 1 0,iL e,.hptr 3 0,zX (.list (.int .i64)) l none,iL (l.length:Int),iL i,.lit (.bool (ltI i (l.length:Int)))],H):=Y
def b3G(H:Heap)(l:List (List Int))(e i:Int):C1 Tryz.prog EN ntN kpN (λ_=>none) cN5 (FN4 l e i) H (kS [2,5,6,22,23,24,7,8])=bif aE i l.length then some (.normal,[.hptr 1 0,iL e,.hptr 3 0,zX (.list (.int .i64)) l none,iL (l.length:Int),iL i,iL i,zX (.int .i64) (l.getD i.toNat []) none],H) else none:=Y
def FN5(l:List (List Int))(e i:Int)(r:List Int):Frm:=[(2,.hptr 1 0),(5,iL e),(6,.hptr 3 0),(22,zX (.list (.int .i64)) l none),(23,iL l.length),(24,iL i),(7,iL i),(8,zX (.int .i64) r none)]
def b3R(H:Heap)(l:List (List Int))(e i:Int)(r:List Int):C1 Tryz.prog EN ntN kpN (λ_=>none) cN6 (FN5 l e i r) H (kS [2,5,6,22,23,24,7,9])=aB (OI (r,true,())) λy=>some (.normal,[.hptr 1 0,iL e,.hptr 3 0,zX (.list (.int .i64)) l none,iL (l.length:Int),iL i,iL i,.lit (.string y.1)],H):=Y
def FN6(l:List (List Int))(e i:Int)(s:ByteArray):Frm:=[(2,.hptr 1 0),(5,iL e),(6,.hptr 3 0),(22,zX (.list (.int .i64)) l none),(23,iL l.length),(24,iL i),(7,iL i),(9,.lit (.string s))]
def b3K(g:GmT.den)(la:LaT.den)(b:Nat)(l:List (List Int))(e i:Int)(s:ByteArray):R7 Tryz.prog EN ntN oN7.toList (oN7.toList.take 4) (FN6 l e i s) (HN3 g la b) (kO [2,5,6,22,23,24,35,36,37])=some ([.hptr 1 0,iL e,.hptr 3 0,zX (.list (.int .i64)) l none,iL (l.length:Int),iL i,.lit (.map (some b)),.lit (.string s),iL i],HN3 g la b):=Y
def omu:Oper:=oN7.toList.getD 4 ⟨none,.nilCheck (.const undef),0,"",#[],none⟩
def b1C:oN7.toList=oN7.toList.take 4++[omu]:=by rfl
def bNB:omu.op=.mapUpdate 142 (.tmp 35) (.tmp 36) (.tmp 37)/\omu.dst=none/\omu.guard=none:=⟨by kernel_rfl,by kernel_rfl,by kernel_rfl⟩
def b3B(H:Heap)(l:List (List Int))(e i:Int):C1 Tryz.prog EN ntN kpN (λ_=>none) cN8 (FN4 l e i) H (kS [2,5,6,22,23,24])=some (.normal,[.hptr 1 0,iL e,.hptr 3 0,zX (.list (.int .i64)) l none,iL (l.length:Int),iL (aA .i64 (i+1))],H):=Y
def FN9(e:Int):Frm:=[(2,.hptr 1 0),(5,iL e),(6,.hptr 3 0)]
def b3O(g:GmT.den)(la:LaT.den)(b:Nat)(e:Int):C1 Tryz.prog EN ntN kpN (λ_=>none) cN9 (FN9 e) (HN3 g la b) (kS [2,3])=some (.normal,[.hptr 1 0,iL e],HN9 g la b):=Y
def b3P(g:GmT.den)(la:LaT.den)(b:Nat)(e:Int):yG Tryz.prog [(2,.hptr 1 0),(3,iL e)] (HN9 g la b) f86.results.toList=some [.agg (enc GmT g++(enc LaT la++[.lit (.map (some b))])),iL e]:=Y
def b3L:∃ a d,Tryz.prog.underlying 142=some (.map a d)/\Tryz.prog.underlying a=some .string:=by
 have h:bAA Tryz.prog 142=true:=Y;unfold bAA at h;split at h;rename_i k e b;split at h;rename_i c;exact⟨k,e,b,c⟩;cases h;cases h
def txs:List (List Int)->Nat->List (ByteArray×Int)->Option (List (ByteArray×Int))| [],_,L=>some L| r::l,i,L=>aB (OI (r,true,())) λy=>bif YH L y.1 then none else txs l (i+1) (L++[(y.1,(i:Int))])
def qS:zo [.agg GmT] [.agg FiT,zd]:=λ(g,())=>aB (iG ((g.1.1,(g.1.2.1,g.1.2.2)),())) λy=>za (Nat.ble g.2.length 1048576)<|aB (txs g.2 0 []) λL=>some ((g,(y.1,L)),y.2.1,())
def SN(n0:Nat->Prop) (w0:World) (G0:Gd) (b:Nat) (H:Heap) (F:Frm) (L:List (ByteArray×Int)) (a:Act) (w:World):Prop :=∃ G μ,Ext n0 w0 G0 aH w G aH/\aX (a88 n0 b) G μ H w/\fG w G μ ntN F a/\b2W w b L/\n0 b/\¬ G b
section
variable {n0:Nat->Prop} {w0 w:World} {G0:Gd} {b:Nat} {H H':Heap} {F:Frm} {L:List (ByteArray×Int)} {a:Act}
def SN.J5 (h:SN n0 w0 G0 b H F L a w)(sl:List Nat):SN n0 w0 G0 b H (sl.zip (sl.map (cR F))) L a w:=by
 have⟨G,μ,E,c,d,m,hn,hG⟩:=h;exact⟨G,μ,E,c,d.J5 sl,m,hn,hG⟩
def SN.piece {c:Code}{sl:List Nat}{ex:Ex}{ps:List PV}(l:bA c=[])(h:C1 Tryz.prog EN ntN kpN (λ_=>none) c F H (kS sl)=some (ex,ps,H'))(o:SN n0 w0 G0 b H F L a w):c.wp Tryz.prog (λe j w'=>e=ex.to/\SN n0 w0 G0 b H' (sl.zip ps) L j w') a w:=by
 have⟨G,μ,E,k,m,⟨es,d,m1,m2⟩,hn,hG⟩:=o;refine wp_mono (a00 bH7.callee aQ.mixed l h k m) ?_;rintro e j w' ⟨rfl,G',μ',i,g,f⟩;have⟨n,p⟩:=bH0 i (gN m1) hG;exact⟨rfl,G',μ',E.trans i.bPG,g,f,⟨es,d,n.trans m1,m2⟩,hn,p⟩
def SN.ops {ops:Array Oper}{l g:List Oper}{sl:List Nat}{ps:List PV}{Q:Exit->Act->World->Prop}(h:R7 Tryz.prog EN ntN ops.toList l F H (kO sl)=some (ps,H'))(o:SN n0 w0 G0 b H F L a w)(k:∀ c w',SN n0 w0 G0 b H' (sl.zip ps) L c w'->wpList Tryz.prog ops Q g c w'):wpList Tryz.prog ops Q (l++g) a w:=by
 have⟨G,μ,E,j,m,⟨es,d,m1,m2⟩,hn,hG⟩:=o;refine bP8 bH7.callee h j m λc w' G' μ' i f e=>k c w' ?_;have⟨n,p⟩:=bH0 i (gN m1) hG;exact⟨G',μ',E.trans i.bPG,f,e,⟨es,d,n.trans m1,m2⟩,hn,p⟩
def SN.lit {t v}(h:SN n0 w0 G0 b H F L a w)(c:cR F t=.lit v):a.eval (.tmp t)=v:=by
 have⟨G,μ,E,e,d,m,hn,hG⟩:=h;have:=cT d (.tmp t);rw[show ev F (.tmp t)=.lit v from c,VR]at this;omega
def SN.put (h:SN n0 w0 G0 b H F L a w){s:ByteArray}{n:Int}(k:YH L s=false)(d:cR F 35=.lit (.map (some b)))(e:cR F 36=.lit (.string s))(f:cR F 37=iL n) :
  ∃ w',(execOp a.eval omu).run Tryz.prog w=.ok .skip w'/\SN n0 w0 G0 b H F (L++[(s,n)]) a w':=by
 have q:=h.lit d;have g:=h.lit e;have t:=h.lit f;have⟨G,μ,E,l,j,⟨es,c,m1,m2⟩,hn,hG⟩:=h;have⟨x,y,r,o⟩:=b3L;have u:=bKT (P:=Tryz.prog) r o m1 m2 k n;have⟨i,p,m,v⟩:=bZI (nt:=ntN) (es':=es.push { key:=.string s,val:=.int .i64 n,born:=c }) (clk':=c+1) l hn hG m1;refine⟨_,?_,G,μ,E.trans i,p,m j,⟨_,_,v,?_⟩,hn,hG⟩;simp[execOp,bNB.1,q,g,t,u];rw[Array.toList_push,List.map_append,m2,List.map_append]; rfl
def b1I {g:GmT.den} {la:LaT.den} {e:Int} {i:Nat} {r:List Int} {y:aM [.str,zd]} (hi:i<g.2.length) (hlen:g.2.length<=1048576) (K:g.2.getD i []=r) (C:OI (r,true,())=some y) (A:YH L y.1=false) {Q:Exit->Act->World->Prop}
  (z:SN n0 w0 G0 b (HN3 g la b) (FN4 g.2 e i) L a w) (F:∀ s w',SN n0 w0 G0 b (HN3 g la b) (FN4 g.2 e ((i+1:Nat):Int)) (L++[(y.1,(i:Int))]) s w'->Q .normal s w'):cNb.wp Tryz.prog Q a w:=by
 have h:ltI (i:Int) (g.2.length:Int)=true:=ze
 have o:aE (i:Int) g.2.length=true:=zi
 rw[bXM];refine wp_seq (wp_mono (z.piece Y (b1U _ _ _ _)) ?_);rintro R U P ⟨rfl,c⟩;refine wp_seq (wp_cond_true ?_ (wp_skip ?_));have:=c.lit (t:=25) (v:=.bool (ltI (i:Int) (g.2.length:Int))) rfl;rw[h]at this; exact this;refine wp_seq (wp_block (wp_seq (wp_mono ((c.J5 [2,5,6,22,23,24]).piece (sl:=[2,5,6,22,23,24,7,8]) (ps:=[.hptr 1 0,iL e,.hptr 3 0,zX (.list (.int .i64)) g.2 none,iL (g.2.length:Int),iL i,iL i,zX (.int .i64) r none]) (H':=HN3 g la b) (ex:=.normal) Y ?_) ?_)));have:=b3G (HN3 g la b) g.2 e i;rw[o,oC,oN,K]at this;exact this;rintro M a2 O ⟨rfl,j⟩;refine wp_seq (wp_mono (j.piece (sl:=[2,5,6,22,23,24,7,9]) (ps:=[.hptr 1 0,iL e,.hptr 3 0,zX (.list (.int .i64)) g.2 none,iL (g.2.length:Int),iL i,iL i,.lit (.string y.1)]) (H':=HN3 g la b) (ex:=.normal) Y ?_) ?_);have:=b3R (HN3 g la b) g.2 e i r;rw[C]at this;exact this;rintro T a3 H ⟨rfl,n⟩;show cN7.wp Tryz.prog _ a3 H;rw[b0E];refine wp_region_list ?_;rw[b1C];refine n.ops (b3K g la b g.2 e i y.1) λa4 S l=>?_;have⟨u,D,k⟩:=l.put A rfl rfl rfl;unfold wpList;rw[if_pos (by simp[Region.wanted,bNB.2.2])];refine .inl ?_;unfold Oper.wp;rw[D];rw[Oper.upon_skip,bNB.2.1];have f:SN n0 w0 G0 b (HN3 g la b) ([2,5,6,22,23,24].zip [.hptr 1 0,iL e,.hptr 3 0,zX (.list (.int .i64)) g.2 none,iL (g.2.length:Int),iL i]) (L++[(y.1,(i:Int))]) (a4.put none undef) u:=(by have⟨G,μ,E,B,x,m,hn,hG⟩:=k.J5 [2,5,6,22,23,24];exact⟨G,μ,E,B,x.aXJ (d:=none) (p:=.junk) rfl (by rw[VR]; trivial),m,hn,hG⟩);show cN8.wp Tryz.prog Q (a4.put none undef) u;refine wp_mono (f.piece (sl:=[2,5,6,22,23,24]) (ps:=[.hptr 1 0,iL e,.hptr 3 0,zX (.list (.int .i64)) g.2 none,iL (g.2.length:Int),iL ((i+1:Nat):Int)]) (H':=HN3 g la b) (ex:=.normal) Y ?_) ?_;have:=b3B (HN3 g la b) g.2 e i;rw[wrap64 Z Z]at this;exact this;rintro N J I ⟨rfl,q⟩;exact F J I q
def bWB {g:GmT.den} {la:LaT.den} {e:Int} (hlen:g.2.length<=1048576) {o:List (ByteArray×Int)} (A:txs g.2 0 []=some o) {Q:Exit->Act->World->Prop}
  (j:SN n0 w0 G0 b (HN3 g la b) (FN4 g.2 e 0) [] a w) (q:∀ n w',SN n0 w0 G0 b (HN3 g la b) (FN9 e) o n w'->Q .normal n w'):(Code.block 0 (.loop cNb)).wp Tryz.prog Q a w:=by
 refine wp_block (wp_loop_ghost (λk a w=>∃ (rest:List (List Int)) (i:Nat) (L:List (ByteArray×Int)),k=rest.length/\txs rest i L=some o/\g.2.drop i=rest/\i<=g.2.length/\SN n0 w0 G0 b (HN3 g la b) (FN4 g.2 e i) L a w) g.2.length ⟨g.2,0,[],rfl,A,rfl,Nat.zero_le _,j⟩ ?_);rintro k a w ⟨rest,i,L,rfl,ht,hd,hi,j⟩;cases rest with
 | nil =>
  have s:g.2.length<=i:=List.drop_eq_nil_iff.1 hd;obtain rfl:=oB ht;have c:ltI (i:Int) (g.2.length:Int)=false:=zf
  rw[bXM];refine wp_seq (wp_mono (j.piece Y (b1U _ _ _ _)) ?_);rintro B u x ⟨rfl,f⟩;refine wp_seq (wp_cond_false ?_ (wp_exit ?_))
  ·have:=f.lit (t:=25) (v:=.bool (ltI (i:Int) (g.2.length:Int))) rfl;rw[c]at this; exact this
  ·exact q u x (f.J5 [2,5,6])
 | cons r rest =>
  have c:i<g.2.length:=by
   rcases oG i g.2.length with h|h
   ·exact h
   ·rw[List.drop_eq_nil_of_le h]at hd; cases hd
  have d:=List.drop_eq_getElem_cons c;rw[hd]at d;obtain⟨rfl,l⟩:=List.cons.inj d;simp only[txs]at ht;have⟨y,z,ht⟩:=wA ht;cases m:YH L y.1 with
  | true=>rw[m]at ht; cases ht
  | false =>
   rw[m,oD]at ht;refine b1I c hlen (by rw[oQ,List.getElem?_eq_getElem c]; rfl) z m j λn w' p=>?_
   exact⟨rest.length,by simp,rest,i+1,_,rfl,ht,l.symm,c,p⟩
end
def aT6:WA Tryz.prog 86 [.agg GmT] [.agg FiT,.int .i64] qS:=by
 rintro⟨g,⟨⟩⟩ z hz;unfold qS at hz;dsimp only at hz;have⟨y,hy,hz⟩:=wA hz;have⟨hlen,hz⟩:=aJ hz;have hlen:=oL hlen;have⟨L,hL,hz⟩:=wA hz;obtain rfl:=oB hz;intro w0 G us D hv;have i:f86.body=some cN:=zP
 refine⟨enters func86 zP zP _ _,calls_of_wp func86 i ?_⟩;have N:aX (RL w0) (Gd.of G) aH [] w0:=⟨λr k b h=>by simp at h,λr k g h=>by simp at h,λr s k l b h=>by simp at h,D,λ_ _=>⟨rfl,rfl⟩,λ_ h=>h,BU.none _ _ (λ_=>rfl) _ _ (λr k h=>by simp at h)⟩;have H:fG w0 (Gd.of G) aH ntN (start kpN 0 [.agg (enc GmT g)]) ⟨us++Array.replicate (ntN-us.size) undef,[]⟩:=E6 hv (by show 1<=ntN; exact oL zP)
 suffices h:cN.wp Tryz.prog (λe B w'=>e=.ret/\∃ b,SN (RL w0) w0 (Gd.of G) b (HN9 g y.1 b) [(2,.hptr 1 0),(3,iL y.2.1)] L B w') ⟨us++Array.replicate (ntN-us.size) undef,[]⟩ w0 by
  refine wp_mono h ?_;rintro e B w' ⟨rfl,b,G1,μ1,E,m,j,⟨es,C,m1,m2⟩,hn,hG1⟩;have⟨ws,h3,h4⟩:=uB (P:=Tryz.prog) m j (b3P g y.1 b y.2.1);have t:(results f86 B.tmps).run Tryz.prog w'=.ok (if hh:ws.toArray.size=1 then ws.toArray[0] else .tuple ws.toArray) w':=by
   rw[J0,Array.mapM_eq_mapM_toList];simp only[Sem.run_bind,Sem.run_map,h3,Result.andThen_ok,Sem.run_pure]
  have o:=xE h4;refine⟨j.defers,_,t,_,λc=>G1 c\/c=b,rfl,?_,?_,?_⟩
  ·exact {
    good:=λc i=>⟨.inl (E.good c i).1,(E.good c i).2⟩
    map:=λ_ _ h=>h
    len:=λ_ _ h=>h
    sh:=λ_ _ h=>(by cases h)
    room:=E.room
    row:=λ_ _ h=>h
    os:=E.os
    tape:=E.tape
    output:=E.output
    size:=E.size
    old:=E.old
    new:=λc i=>by
     rcases i with i|rfl
     ·exact E.new c i
     ·exact .inr hn }
  ·rintro c (i|rfl)
   ·exact m.lt c i
   ·exact gN m1
  ·have f:∀ (ps:List PV) (vs:List Value),eM.noRefs ps=true->gP.noRows ps=true->VRs w' G1 μ1 ps vs->VRs w' (Gd.of λc=>G1 c\/c=b) aH ps vs:=λps vs n1 n2 h=>by
    have:=CC (G:=G1) (G':=Gd.of G1.ok) (λb h=>h) _ _ _ n2 (cZ _ _ n1 h);exact VRs.mono (a6L (g:=G1.ok) (G:=Gd.of λc=>G1 c\/c=b) (λc h=>.inl h) (μ:=aH)) _ _ this
   change VR w' G1 μ1 (.tuple [.agg (enc GmT g++(enc LaT y.1++[.lit (.map (some b))])),iL y.2.1]) _ at o;show VR w' (Gd.of λc=>G1 c\/c=b) aH (.tuple [.agg (enc GmT g++(enc LaT y.1++[.tm L])),iL y.2.1]) _;rw[VR]at o ⊢;have⟨vs,U,A⟩:=o;refine⟨vs,U,?_⟩;rw[VRs]at A ⊢;have⟨x,xs,q1,S,q3⟩:=A;refine⟨x,xs,q1,?_,f _ _ rfl rfl q3⟩;rw[VR]at S ⊢;have⟨q,r1,T⟩:=S;refine⟨q,r1,?_⟩;have t1:=T.take 6
   have t2:=T.drop 6;have s1:(enc GmT g++(enc LaT y.1++[PV.lit (.map (some b))])).take 6=enc GmT g++enc LaT y.1:=rfl;have s2:(enc GmT g++(enc LaT y.1++[PV.lit (.map (some b))])).drop 6=[PV.lit (.map (some b))]:=rfl;rw[s1]at t1;rw[s2]at t2;have t3:=f _ _ rfl rfl t1;rw[<- List.take_append_drop 6 q.toList];rw[<- List.append_assoc];refine VRs.append t3 ?_;rw[VRs]at t2 ⊢;have⟨v,O,p1,p2,R⟩:=t2
   rw[VR]at p2;rw[VRs]at R;subst p2;refine⟨_,O,p1,?_,by rw[VRs]; exact R⟩;rw[VR];exact⟨b,es,C,rfl,.inr rfl,m1,m2⟩
 rw[b1Z];refine wp_seq (wp_mono (a00 bH7.callee aQ.mixed zP (b3W g) N H) ?_);rintro U a1 w1 ⟨rfl,G1,μ1,Y,m,j⟩;have W:C1 Tryz.prog EN ntN kpN (λ_=>none) cN1 FN1 (HN1 g) (kS [1,2,4,5])=some (.normal,[.hptr 0 0,.hptr 1 0,.hptr 2 0,iL y.2.1],HN2 g y.1):=by rw[b3M,hy]; rfl
 refine wp_seq (wp_mono (a00 bH7.callee aQ.mixed zP W m j) ?_);rintro A a2 w2 ⟨rfl,G2,μ2,x2,F,w⟩;refine wp_seq ?_;rw[b0A];refine wp_region_list ?_;rw[b0J];refine bP8 bH7.callee (b3V g y.1 y.2.1) F w λa3 n G3 μ3 x3 M I=>?_
 unfold wpList;rw[if_pos (by simp[Region.wanted,bML.2.2])];refine .inl ?_;unfold Oper.wp;have hx:(execOp a3.eval omk).run Tryz.prog n=.ok (.value (.map (some n.heap.size))) (n.alloc (.map #[] 0)):=by simp[execOp,bML.1,Instr.makeMap]
 rw[hx];rw[Oper.upon_value,bML.2.1];have⟨y1,y2,y3,y4,X,y6⟩:=bYY (nt:=ntN) M;have Z:SN (RL w0) w0 (Gd.of G) n.heap.size (HN2 g y.1) (b1V g y.1 y.2.1 n.heap.size) [] (a3.put (some 19) (.map (some n.heap.size))) (n.alloc (.map #[] 0)) :=
  ⟨G3,μ3,((Y.trans x2).trans x3).trans y1,y2,(y3 I).aXJ (d:=some 19) (p:=.lit (.map (some n.heap.size))) zP (by rw[VR]),⟨_,_,y4,rfl⟩,X,y6⟩
 rw[<- List.append_nil (oN2.toList.drop 3)];refine Z.ops (b1Y g y.1 y.2.1 _) λa4 w4 K=>?_
 show (Code.seq (.seq cN3 (.block 0 (.loop cNb))) (.seq cN9 .ret)).wp Tryz.prog _ a4 w4;refine wp_seq (wp_seq (wp_mono (K.piece zP (b3D g y.1 y.2.1 _)) ?_));rintro e5 a5 w5 ⟨rfl,J⟩;refine bWB hlen hL J λa6 V u=>?_
 show (Code.seq cN9 .ret).wp Tryz.prog _ a6 V;refine wp_seq (wp_mono (u.piece zP (b3O g y.1 _ y.2.1)) ?_);rintro e7 a7 w7 ⟨rfl,Q⟩;exact wp_ret ⟨rfl,_,Q⟩
abbrev UQ:Ent:=⟨86,[.agg GmT],[.agg FiT,.int .i64],qS⟩
def YQ:Ent.OK Tryz.prog UQ:=aT6
abbrev b2Z:Shr:=(115,bWD)
def bY5:sT Tryz.prog b2Z:=λ_ _ _ h=>bXN (enters func115 Y Y) Tryz.slices_Sort_int Tryz.slices_Sort_int_none h
abbrev b1M:Shr:=(116,bAF)
def bX2:sT Tryz.prog b1M:=λ_ _ _ h=>bJE (enters func116 Y Y) (λl=>Lib.compact_length_le l) Tryz.slices_Compact_int Tryz.slices_Compact_int_empty h
def vV:zo [.agg TyU,zd,.list TyE] [.list TyE,zd,.bool,zd]:=λ(a,j,k,())=>aB (gW (a.1.1,k,())) λb=>bif eqI b.2.1 0 then za (aE j a.1.2.length)<|aB (aBB (b.1,(a.1.2.getD j.toNat []),())) λc=>bif eqI c.2.1 0 then aB (gD (a.2.1,c.1,())) λe=>bif !(eqI e.2.1 0) then some ([],0,false,e.2.1,())else aB (OI (e.1,true,())) λi=>some (e.1,(getM a.2.2 i.1),YH a.2.2 i.1,0,())else bif !(eqI c.2.1 0) then some ([],0,false,c.2.1,())else aB (OI (c.1,true,())) λf=>some (c.1,(getM a.2.2 f.1),YH a.2.2 f.1,0,())else bif eqI b.2.1 0 then aB (gD (a.2.1,b.1,())) λd=>bif !(eqI d.2.1 0) then some ([],0,false,d.2.1,())else aB (OI (d.1,true,())) λg=>some (d.1,(getM a.2.2 g.1),YH a.2.2 g.1,0,())else bif !(eqI b.2.1 0) then some ([],0,false,b.2.1,())else aB (OI (b.1,true,())) λh=>some (b.1,(getM a.2.2 h.1),YH a.2.2 h.1,0,())
abbrev QE:Ent:=⟨87,_,_,vV⟩
def VJ:Ent.OK tP QE:=oI (aS (oV GF (oV aR3 (oV aZZ (oV DU oW))))) func87
abbrev HS:zb:=[(1,.box 41 TyJ),(5,.box 144 TyU),(7,.own 124 TyL),(8,zd),(9,.list TyD),(10,zd),(11,.bag 124 TyO 3 TyE none),(12,.bool),(34,.list TyC),(35,zd),(36,zd),(44,zd),(45,zd),(52,.list TyD),(53,zd),(54,zd)]
abbrev N4:zc:=[(.ret,[(2,.list TyL),(3,zd)]),(.exit 4,[(1,.box 41 TyJ),(5,.box 144 TyU),(7,.own 124 TyL),(8,zd),(9,.list TyD),(11,.bag 124 TyO 3 TyE none),(12,.bool),(34,.list TyC),(35,zd),(36,zd),(44,zd),(45,zd)])]
def B7:zp HS N4:=λ(n,m,o,q,p,e,a,l,f,k,d,j,h,c,g,b,())=>bif ltI b g then za (aE b c.length)<|aB (vV (m,e,(c.getD b.toNat []),())) λi=>bif !(eqI i.2.2.2.1 0) then some (.inr (.inl ([],i.2.2.2.1,())))else bif l then za (Nat.ble [i.2.1].length 1048576)<|za (Nat.ble a.2.1.length 1048576)<|some (.inl (n,m,o,q,p,e,(a.1,((a.2.1++[i.2.1]),())),i.2.2.1,f,k,d,j,h,c,g,(aA .i64 (b+1)),()))else za (Nat.ble [i.2.1].length 1048576)<|za (Nat.ble a.2.1.length 1048576)<|some (.inl (n,m,o,q,p,e,(a.1,((a.2.1++[i.2.1]),())),false,f,k,d,j,h,c,g,(aA .i64 (b+1)),()))else some (.inr (.inr ((n,m,o,q,p,(a.1,(a.2.1,())),l,f,k,d,j,h,()))))
def PQ:zq HS N4:=aV B7 (2^64)
abbrev HR:zb:=[(1,.box 41 TyJ),(5,.box 144 TyU),(7,.own 124 TyL),(8,zd),(9,.list TyD),(34,.list TyC),(35,zd),(36,zd),(44,zd),(45,zd)]
abbrev N1:zc:=[(.ret,[(2,.list TyL),(3,zd)]),(.exit 2,[(1,.box 41 TyJ),(5,.box 144 TyU),(7,.own 124 TyL),(34,.list TyC),(35,zd),(36,zd)])]
def B5:zp HR N1:=λ(o,l,m,n,j,f,h,d,g,b,())=>bif ltI b g then aB (PQ (o,l,m,n,j,b,((n,b),([],())),true,f,h,d,g,b,j,(j.length:Int),0,())) λi=>mN i (λe=>some (.inr (.inl (e.1,e.2.1,())))) λa=>bif a.2.2.2.2.2.2.1 then aB (bIV a.2.2.2.2.2.1.2.1) λk=>aB (aS5 k) λc=>za (Nat.ble [(a.2.2.2.2.2.1.1,c)].length 1048576)<|za (Nat.ble a.2.2.1.length 1048576)<|some (.inl (a.1,a.2.1,(a.2.2.1++[(a.2.2.2.2.2.1.1,c)]),a.2.2.2.1,a.2.2.2.2.1,a.2.2.2.2.2.2.2.1,a.2.2.2.2.2.2.2.2.1,a.2.2.2.2.2.2.2.2.2.1,a.2.2.2.2.2.2.2.2.2.2.1,(aA .i64 (a.2.2.2.2.2.2.2.2.2.2.2.1+1)),()))else some (.inl (a.1,a.2.1,a.2.2.1,a.2.2.2.1,a.2.2.2.2.1,a.2.2.2.2.2.2.2.1,a.2.2.2.2.2.2.2.2.1,a.2.2.2.2.2.2.2.2.2.1,a.2.2.2.2.2.2.2.2.2.2.1,(aA .i64 (a.2.2.2.2.2.2.2.2.2.2.2.1+1)),()))else some (.inr (.inr ((o,l,m,f,h,d,()))))
def PO:zq HR N1:=aV B5 (2^64)
abbrev HW:zb:=[(1,.box 41 TyJ),(5,.box 144 TyU),(7,.own 124 TyL),(34,.list TyC),(35,zd),(36,zd)]
abbrev NX:zc:=[(.ret,[(2,.list TyL),(3,zd)]),(.exit 0,[(7,.own 124 TyL)])]
def I1:zp HW NX:=λ(h,i,g,c,e,b,())=>bif ltI b e then za (aE b c.length)<|aB (PO (h,i,g,b,(c.getD b.toNat []),c,e,b,(h.1.2.length:Int),0,())) λf=>mN f (λd=>some (.inr (.inl (d.1,d.2.1,())))) λa=>some (.inl (a.1,a.2.1,a.2.2.1,a.2.2.2.1,a.2.2.2.2.1,(aA .i64 (a.2.2.2.2.2.1+1)),()))else some (.inr (.inr ((g,()))))
def PU:zq HW NX:=aV I1 (2^64)
def gH:zo [.agg TyJ] [.list TyL,zd]:=λ(a,())=>aB (K4 (a,())) λf=>bif !(eqI f.1 0) then some ([],f.1,())else aB (qS (a.1,())) λe=>bif !(eqI e.2.1 0) then some ([],e.2.1,())else aB (PU (a,e.1,[],a.2.1,(a.2.1.length:Int),0,())) λd=>mN d (λb=>some (b.1,b.2.1,())) λc=>bif ltI 200 (c.1.length:Int) then some ([],4,())else some (c.1,0,())
def aEN:Code:=bY f70
abbrev XX:Env:=RP [aIH,QE,UQ] [b2Z,b1M]
def UH:dN tP XX:=jH ⟨aKN,VJ,YQ,trivial⟩ ⟨bY5,bX2,trivial⟩
def Q3:Code:=inLoop (QF aEN 0)
def QI:Code:=inLoop (QF Q3 0)
def aIF:Code:=inLoop (QF QI 0)
def T8(id:Nat):Option cI:=bif Nat.beq id 17 then some ⟨HS,N4,PQ⟩ else bif Nat.beq id 12 then some ⟨HR,N1,PO⟩ else bif Nat.beq id 9 then some ⟨HW,NX,PU⟩ else none
def TV(id:Nat):Option cI:=none
def aW5:∀ x,TD tP XX 99 (xD f70) T8 TV false [] aIF HS N4 x=B7 x:=λ_=>Y
def aYG:H7 tP 99 false [] (.loop aIF) ⟨HS,N4,PQ⟩:=FI UH.callee aQ.mixed _ (nK (l:=[]) Y trivial) aW5
def a5J:dV QI=[.loop aIF]:=Y
def aWW:∀ x,TD tP XX 99 (xD f70) T8 TV false [] QI HR N1 x=B5 x:=λ_=>Y
def aYQ:H7 tP 99 false [] (.loop QI) ⟨HR,N1,PO⟩:=FI UH.callee aQ.mixed _ (nK a5J ⟨E7 (i:=17) Y rfl aYG,trivial⟩) aWW
def a5U:dV Q3=[.loop QI]:=Y
def aV2:∀ x,TD tP XX 99 (xD f70) T8 TV false [] Q3 HW NX x=I1 x:=λ_=>Y
def aZ3:H7 tP 99 false [] (.loop Q3) ⟨HW,NX,PU⟩:=FI UH.callee aQ.mixed _ (nK a5U ⟨E7 (i:=12) Y rfl aYQ,trivial⟩) aV2
def a2I:dV aEN=[.loop Q3]:=Y
def a5M:∀ x,a0L tP XX f70 (xD f70) T8 TV aEN [.agg TyJ] [.list TyL,.int .i64] x=gH x:=λ_=>Y
abbrev aOX:Ent:=⟨70,_,_,gH⟩
def N5:Ent.OK tP aOX:=aJK aQ UH func70 (c:=aEN) Y (keep:=xD f70) (lt:=T8) (rt:=TV) (nK a2I ⟨E7 (i:=9) Y rfl aZ3,trivial⟩) a5M
def bG1 {t:Ty} (D:List t.den->Bool) (lt:List t.den->List t.den->Bool) (l:List (List t.den)):Option (List (List t.den)):=match l with| []=>some []| x::r=>aOV D lt (x::r)
def a6J(t:Ty)(ck:Kd)(D:List t.den->Bool)(lt:List t.den->List t.den->Bool)(args:List PV)(H:Heap):Option aV3:=match args with|[.own r sz,p]=>(match iN H r with|some k=>(match k.tag with|some g=>(match KZ g.t (.list t) g.l with|some l=>(match aUT ck p [] 0 with|some _=>bif Nat.beq sz 1&&!k.frozen then some ⟨List (List t.den),bG1 D lt l,λl'=>(.tuple [],H.set r (some ⟨aI (.list t) l',k.ty,k.grown,false,some ⟨.list t,l'⟩⟩))⟩ else none|none=>none)|none=>none)|none=>none)|none=>none)|_=>none
abbrev U5:zb:=[(6,.own 63 TyO),(17,.list TyL),(18,zd),(19,zd)]
abbrev aHP:zc:=[(.exit 0,[(6,.own 63 TyO)])]
def IZ:zp U5 aHP:=λ(d,b,c,a,())=>bif ltI a c then za (aE a b.length)<|za (Nat.ble [((b.getD a.toNat ((0,0),[])).1.1,(b.getD a.toNat ((0,0),[])).1.2)].length 1048576)<|za (Nat.ble d.length 1048576)<|some (.inl ((d++[((b.getD a.toNat ((0,0),[])).1.1,(b.getD a.toNat ((0,0),[])).1.2)]),b,c,(aA .i64 (a+1)),()))else some (.inr ((d,())))
def QX:zq U5 aHP:=aV IZ (2^64)
def yU:zo [.agg TyJ] [.list TyO,zd]:=λ(b,())=>aB (gH (b,())) λa=>bif !(eqI a.2.1 0) then some ([],a.2.1,())else aB (QX ([],a.1,(a.1.length:Int),0,())) λc=>some (c.1,0,())
abbrev aQC:Ent:=⟨21,_,_,yU⟩
def UM:Ent.OK tP aQC:=oU (aS (oV N5 oW)) func21 6 (lp:=QX) rfl
abbrev aY:zb:=[(2,.bown 28 3 TyE),(4,.own 3 TyE),(6,.clo 130 [TyN,TyE,TyE])]
abbrev bJ:zc:=[(.normal,[(2,.bown 28 3 TyE)])]
def cQ(x:Shape.den aY)(e:aM [zd]):oS aY bJ:=match x,e with|(b,d,a,()),(c,())=>za (Nat.ble [c].length 1048576)<|za (Nat.ble b.length 1048576)<|some (.inl ((b++[c]),d,(a.1,a.2.1,a.2.2.1,()),()))
def gG(x:Shape.den aY):TZ [TyN,TyE,TyE]:=match x with|(b,c,a,())=>(a.1,a.2.1,a.2.2.1,())
def cM(x:Shape.den aY):oX bJ:=a2H aY bJ (λx=>bNC (gG x)) cQ x
def cW(x:aM [.nil0,.clo 130 [TyN,TyE,TyE]]):Option (List Int):=match x with|(c,a,())=>aB (cM ([],[],(a.1,a.2.1,a.2.2.1,()),())) λb=>some b.1
def eA(x:aM [.clo 130 [TyN,TyE,TyE]]):Option (List Int):=match x with|(a,())=>aB (cW ((),(a.1,a.2.1,a.2.2.1,()),())) λb=>some b
abbrev XZ:zb:=[(1,.box 41 TyJ),(4,.list TyL),(6,.own 28 TyD),(17,zd),(18,zd)]
abbrev aJW:zc:=[(.exit 0,[(6,.own 28 TyD)])]
def KL:zp XZ aJW:=λ(f,g,d,b,a,())=>bif ltI a b then aB (sW (g,a,f.2.2,())) λc=>aB (eA ((c.1.1,c.1.2.1,c.1.2.2.1,()),())) λe=>za (Nat.ble [e].length 1048576)<|za (Nat.ble d.length 1048576)<|some (.inl (f,g,(d++[e]),b,(aA .i64 (a+1)),()))else some (.inr ((d,())))
def S8:zq XZ aJW:=aV KL (2^64)
def L4:zo [.agg TyJ] [.list TyD,zd]:=λ(b,())=>aB (gH (b,())) λa=>bif !(eqI a.2.1 0) then some ([],a.2.1,())else aB (S8 (b,a.1,[],(a.1.length:Int),0,())) λc=>some (c.1,0,())
abbrev CF:zb:=[(1,.box 41 TyJ),(4,.list TyL),(6,.own 28 TyD),(7,.own 4 .bool),(9,.own 3 TyE),(24,zd),(25,zd),(36,.list TyE),(37,zd),(38,zd)]
abbrev I5:zc:=[(.exit 2,[(1,.box 41 TyJ),(4,.list TyL),(6,.own 28 TyD),(7,.own 4 .bool),(9,.own 3 TyE),(24,zd),(25,zd)])]
def yO:zp CF I5:=λ(h,j,i,f,g,c,e,b,d,a,())=>bif ltI a d then za (aE a b.length)<|bif !(ltI (b.getD a.toNat 0) 0) then za (aE a f.length)<|za (Nat.blt a.toNat f.length)<|za (Nat.ble [a].length 1048576)<|za (Nat.ble g.length 1048576)<|some (.inl (h,j,i,(f.set a.toNat true),(g++[a]),c,e,b,d,(aA .i64 (a+1)),()))else some (.inl (h,j,i,f,g,c,e,b,d,(aA .i64 (a+1)),()))else some (.inr ((h,j,i,f,g,c,e,())))
def KG:zq CF I5:=aV yO (2^64)
abbrev CA:zb:=[(1,.box 41 TyJ),(4,.list TyL),(6,.own 28 TyD),(7,.own 4 .bool),(24,zd),(25,zd)]
abbrev H8:zc:=[(.exit 0,[(6,.own 28 TyD)])]
def yR:zp CA H8:=λ(e,g,f,d,c,a,())=>bif ltI a c then za (aE a d.length)<|za (Nat.blt a.toNat d.length)<|bif (d.getD a.toNat false) then some (.inl (e,g,f,d,c,(aA .i64 (a+1)),()))else aB (LU (g,a,e.2.2,())) λh=>aB (KG (e,g,f,d,[],c,a,h.1,(h.1.length:Int),0,())) λb=>za (Nat.ble [b.2.2.2.2.1].length 1048576)<|za (Nat.ble b.2.2.1.length 1048576)<|some (.inl (b.1,b.2.1,(b.2.2.1++[b.2.2.2.2.1]),b.2.2.2.1,b.2.2.2.2.2.1,(aA .i64 (b.2.2.2.2.2.2.1+1)),()))else some (.inr ((f,())))
def yL:zq CA H8:=aV yR (2^64)
def xN:zo [.agg TyJ] [.list TyD,zd]:=λ(b,())=>aB (gH (b,())) λa=>bif !(eqI a.2.1 0) then some ([],a.2.1,())else za (!(ltI (a.1.length:Int) 0))<|za (!(ltI (a.1.length:Int) (a.1.length:Int)))<|za (!(ltI 1048576 (a.1.length:Int)))<|aB (yL (b,a.1,[],(List.replicate ((a.1.length:Int).toNat) (false:Ty.den .bool)),(a.1.length:Int),0,())) λc=>some (c.1,0,())
def aSI:Code:=bY f48
abbrev aGF:Env:=B1 [aOX,aGX]
def XF:dN tP aGF:=aS ⟨N5,aJM,trivial⟩
def K9:Code:=dC aSI 0
def aAB:Code:=dC K9 0
def aCQ(id:Nat):Option cI:=bif Nat.beq id 12 then some ⟨CF,I5,KG⟩ else bif Nat.beq id 7 then some ⟨CA,H8,yL⟩ else none
def aQ4:∀ x,dL tP aGF 59 (aP f48) aCQ aAB CF I5 x=yO x:=λ_=>Y
def aUE:cJ tP 59 aAB ⟨CF,I5,KG⟩:=cC XF.callee aQ.mixed _ (aO (l:=[]) Y trivial) aQ4
def aQ7:∀ x,dL tP aGF 59 (aP f48) aCQ K9 CA H8 x=yR x:=λ_=>Y
def aZN:bA K9=[aAB]:=Y
def aUU:cJ tP 59 K9 ⟨CA,H8,yL⟩:=cC XF.callee aQ.mixed _ (aO aZN ⟨cB (i:=12) Y rfl aUE,trivial⟩) aQ7
abbrev W0:Ent:=⟨48,_,_,xN⟩
def X6:Ent.OK tP W0:=W4 aQ XF func48 (c:=aSI) Y (keep:=aP f48) (lt:=aCQ) (aO (l:=[K9]) Y ⟨cB (i:=7) Y rfl aUU,trivial⟩) (λ_=>by kernel_rfl)
section
variable {p:List Int} {A B l:List (List Int)} {qs:List (List (List Int))} {s:Int} {P:List PL}
def bC3(c:TZ [(.list (.prod (.prod (.int .i64) (.int .i64)) (.list (.int .i64)))),(.int .i64),(.int .i64)])(v4:List Int):∀ q (v:List Int),v.length+q.length<=1000000 ->
  I6 cQ (bN2 aY bJ) (evs q) (v,v4,c,())=some (v++qC q,())
 | [],v,_=>by
  show _=some (v++([]),());rw[List.append_nil]; rfl
 | n::q,v,h=>by
  have i1:Nat.ble v.length 1048576=true:=bL Z;have a:=bC3 c v4 q (v++[(n:Int)]) W;have step:cQ (v,v4,c,()) (n,())=some (.inl (v++[(n:Int)],v4,c,())):=by simp only[cQ,i1,bO,oC]
  show I6 _ _ (((n:Int),())::evs q) _=_;simp only[I6,step];grind
def aSK(a:aQZ P) i:(nb P s i).length<=200:=by
 have b:(nb P s i).length<=(List.range P.length).length:=List.length_filter_le _ _;rw[List.length_range]at b;have:=a.1;omega
def bNV(a:aQZ P){i}(hi:i<P.length):eA ((P,(i:Int),s,()),())=some (qC (nb P s i)):=by
 have c:=bC3 (P,i,s,()) [] (nb P s i) [] (by have:=aSK (s:=s) a i; grind);have b:cM ([],[],(P,i,s,()),())=some (qC (nb P s i),()):=(by unfold cM a2H;simp only[gG,bHU a s hi];grind);simp only[eA,cW,b,aC]
def bPK {nb N t}(ht:t<N):(gL nb N).take (t+1)=(gL nb N).take t++[qC (nb t)]:=by
 rw[List.take_succ_eq_append_getElem (by rw[BW]; omega)];simp[gL]
def a7G(a:aQZ P)(d:gH ((((p,(A,B)),l),(qs,s)),())=some (P,0,())):L4 ((((p,(A,B)),l),(qs,s)),())=some (gL (nb P s) P.length,0,()):=by
 have f:=a.1;have key:=aK (step:=KL) (N:=2^64) (λt=>((((p,(A,B)),l),(qs,s)),P,(gL (nb P s) P.length).take t,(P.length:Int),(t:Int),())) P.length (gL (nb P s) P.length,()) Z (λt ht=>?_) ?_;have key:S8 ((((p,(A,B)),l),(qs,s)),P,[],(P.length:Int),0,())=_:=key;simp only[L4,d,e00,key,zz];have e:=bNV (s:=s) a ht;have c:Nat.ble ((gL (nb P s) P.length).take t).length 1048576=true:=bL W;have b:=wS ht Z;simp only[KL,lI ht,sW,e,c,b,bO,bPK ht,zz];have:(gL (nb P s) P.length).take P.length=gL (nb P s) P.length:=List.take_of_length_le (by rw[BW]; simp);simp only[KL,lN,oD,this]
def aTW(e:P.length<=200)(d:gH ((((p,(A,B)),l),(qs,s)),())=some (P,0,())):yU ((((p,(A,B)),l),(qs,s)),())=some (P.map (·.1),0,()):=by
 have key:=aK (step:=IZ) (N:=2^64) (λt=>((P.take t).map (·.1),P,(P.length:Int),(t:Int),())) P.length (P.map (·.1),()) Z (λt ht=>?_) ?_;have key:QX ([],P,(P.length:Int),0,())=_:=key;simp only[yU,d,e00,key,zz];have c:Nat.ble ((P.take t).map (·.1)).length 1048576=true:=bL W;have b:=wS ht Z;have a:(P.take (t+1)).map (·.1)=(P.take t).map (·.1)++[(P.getD t ((0,0),[])).1]:=(by rw[List.take_succ_eq_append_getElem ht,List.map_append];grind);simp only[IZ,lI ht,iO ht,tN,oC,c,b,bO,a];simp only[IZ,lN,oD,List.take_length]
def cn(nb:Nat->List Nat) (N i j:Nat):Bool:=decide (0<=(dst nb N i).getD j 0)
end
def a01:∀ f u acc,(aB6 f u acc).length<=f+acc.length
 | 0,u,acc=>by simp[aB6]
 | f+1,u,acc=>by
  rw[aB6];cases h:Nat.blt u 10 with
  | true=>grind
  | false =>
   have:=a01 f (u/10) (UInt8.ofNat (48+u%10)::acc);grind
def bMZ n:(IP n).data.toList.length<=21:=by
 cases n with
 | ofNat u =>
  show (aB6 20 u []).length<=21;have:=a01 20 u [];grind
 | negSucc u =>
  show (45::aB6 20 (u+1) []).length<=21;have:=a01 20 (u+1) [];grind
def bC4 sep:∀ l,(∀ x∈l,x.data.toList.length<=21)->(SK l sep).length<=l.length*(21+sep.length)
 | [],_=>by simp[SK]
 | [x],h=>by
  have:=h x R;simp only[SK,List.length_singleton];omega
 | x::y::r,h=>by
  have b:=h x R;have a:=bC4 sep (y::r) λz hz=>h z W
  rw[SK,oH,oH,List.length_cons,Nat.add_mul];omega
def aIS(r:List Int):ByteArray:=((ByteArray.mk #[91])++⟨(SK (r.map IP) [32]).toArray⟩)++(ByteArray.mk #[62])
def bO3 {r:List Int}(n:r.length<=64)(g:∀ a∈r,a.natAbs<=1000000000):OI (r,true,())=some (aIS r,0,())/\(aIS r).size<=10000:=by
 have e:kH (r,())=some (0,()):=A9 r Z g;have b:aHZ (true,[],r,(r.length:Int),0,())=some (true,r.map IP,()):=by
  have hz:r.map IP=(r.take r.length).map IP:=(by rw[List.take_length]);rw[hz];refine aK (N:=2^64) (step:=XE) (λi=>(true,(r.take i).map IP,r,(r.length:Int),(i:Int),())) r.length _ Z ?_ ?_
  ·intro i hi;have o:=g (r.getD i 0) (by rw[show r.getD i 0=r[i]by simp[oQ,hi]]; exact List.getElem_mem hi);have hit:EE (r.getD i 0,())=some (IP (r.getD i 0),()):=by
    unfold EE;dsimp only;rw[aF,aF,oF Z,oF Z];rfl
   simp only[XE,aF,aL,eL,yJ,oN];rw[if_pos Z,if_pos Z,hit,aC,if_pos R,if_pos (by simp; omega),bP i Z,List.take_succ_eq_append_getElem hi,List.map_append];grind
  simp only[XE,aF,yJ];grind
 have l:(SK (r.map IP) [32]).length<=64*22:=by
  have m:=bC4 [32] (r.map IP) λx h=>by
   obtain⟨a,-,rfl⟩:=List.mem_map.1 h;exact bMZ a
  grind
 have c:TU (r.map IP,ByteArray.mk #[32],())=some (⟨(SK (r.map IP) [32]).toArray⟩,()):=(by show (bif Nat.ble _ 1048576&&Nat.ble (SK (r.map IP) [32]).length 1048576 then _ else none)=_;rw[eL,eL,List.length_map,oT Z,oT Z];rfl);have k:(⟨(SK (r.map IP) [32]).toArray⟩:ByteArray).size<=1408:=l;have j:((ByteArray.mk #[91])++⟨(SK (r.map IP) [32]).toArray⟩:ByteArray).size<=1409:=(by rw[ByteArray.size_append];have:(ByteArray.mk #[91]).size=1:=rfl;omega);have f:(ByteArray.mk #[62]).size=1:=rfl;have d:(ByteArray.mk #[91]).size=1:=rfl;refine⟨?_,?_⟩;unfold OI;dsimp only;rw[e,aC];rw[b,aC];rw[c,aC];rw[eL,eL,oT (by rw[d]; show 1+(⟨(SK (r.map IP) [32]).toArray⟩:ByteArray).size<=_; omega),oT (by rw[f]; show ((ByteArray.mk #[91])++⟨(SK (r.map IP) [32]).toArray⟩:ByteArray).size+1<=_; omega)];rfl;unfold aIS;rw[ByteArray.size_append];omega
def bLF:∀ (x d t c:List UInt8),32 ∉ x->32 ∉ d->x++32::t=d++32::c->x=d/\t=c
 | [],[],t,c,_,_,h=>⟨rfl,(List.cons.inj h).2⟩
 | [],b::d,t,c,_,h2,h=>absurd (List.cons.inj h).1 (λe=>h2 W)
 | a::x,[],t,c,h1,_,h=>absurd (List.cons.inj h).1 (λe=>h1 W)
 | a::x,b::d,t,c,h1,h2,h=>by
  have⟨j,f⟩:=List.cons.inj h;have⟨g,i⟩:=bLF x d t c (λk=>h1 W) (λk=>h2 W) f;grind
def a6W:∀ f u acc,32 ∉ acc->32 ∉ aB6 f u acc
 | 0,u,acc,h=>by simpa[aB6]using h
 | f+1,u,acc,h=>by
  have b:32≠UInt8.ofNat (48+u%10):=λe=>by
   have:=oZ UInt8.toNat e;rw[UInt8.toNat_ofNat']at this;grind
  rw[aB6];cases a:Nat.blt u 10 with
  | true =>
   have c:32≠UInt8.ofNat (48+u):=λe=>by
    have:=oZ UInt8.toNat e;rw[UInt8.toNat_ofNat']at this;change 32=_ at this;have:=gE a;omega
   grind
  | false =>
   exact a6W f (u/10) _ (λhm=>(List.mem_cons.1 hm).elim b h)
def bU5 n:32 ∉ (IP n).data.toList:=by
 cases n with
 | ofNat u=>exact a6W 20 u [] R
 | negSucc u =>
  show 32 ∉ (45::aB6 20 (u+1) []);have:=a6W 20 (u+1) [] R;grind
def bD9:∀ l a,l.length=a.length->(∀ x∈l,32 ∉ x.data.toList)->(∀ x∈a,32 ∉ x.data.toList)->SK l [32]=SK a [32]->l.map (·.data.toList)=a.map (·.data.toList)
 | [],[],_,_,_,_=>rfl
 | [],_::_,h,_,_,_=>W
 | _::_,[],h,_,_,_=>W
 | [x],[y],_,_,_,h=>by simpa[SK]using h
 | [x],_::_::_,h,_,_,_=>W
 | _::_::_,[x],h,_,_,_=>W
 | x::y::l,x'::b::a,h,h1,h2,e=>by
  have⟨d,c⟩:=bLF _ _ _ _ (h1 x R) (h2 x' R) e;have:=bD9 (y::l) (b::a) W (λz hz=>h1 z W) (λz hz=>h2 z W) c;grind
def a8I {r r'}(f:r.length=r'.length)(m:∀ a∈r,a.natAbs<=1000000000)(b:∀ a∈r',a.natAbs<=1000000000)(h:aIS r=aIS r'):r=r':=by
 have k:(aIS r).data.toList=(aIS r').data.toList:=by rw[h]
 have l:=List.append_cancel_right (List.cons.inj k).2;have sp:∀ (r:List Int),∀ x∈r.map IP,32 ∉ x.data.toList:=λr x c=>by
  obtain⟨a,_,rfl⟩:=List.mem_map.1 c;exact bU5 a
 have n:=bD9 _ _ (by simpa using f) (sp r) (sp r') l;refine List.ext_getElem f λi j d=>?_
 have g:(r.map ((λx:ByteArray=>x.data.toList)∘IP))[i]'(by simpa using j)=(r'.map ((λx:ByteArray=>x.data.toList)∘IP))[i]'(by simpa using d):=W
 rw[List.getElem_map,List.getElem_map]at g;have p:=m _ (List.getElem_mem j);have o:=b _ (List.getElem_mem d);have e:IP r[i]=IP r'[i]:=by
  have :=Array.ext' g;cases c:IP r[i]; cases q:IP r'[i];grind
 rw[aZ4 Z,aZ4 Z]at e;exact bVK e
def aNG:∀ L s,YH L s=true↔∃ p∈L,p.1=s
 | [],s=>by simp[YH]
 | x::L,s=>by
  rw[YH];cases h:eqS x.1 s with
  | true =>
   exact⟨λ_=>⟨x,by simp,aZF.1 h⟩,λ_=>rfl⟩
  | false =>
   rw[oD,aNG L s];have hn:x.1≠s:=λe=>by rw[aZF.2 e]at h; grind
   grind
def Rw(r:Nat) (l:List (List Int)):Prop:=∀ a∈l,a.length=r/\∀ c∈a,c.natAbs<=1000000000
def aU2(l:List (List Int)) (n:Nat):List (ByteArray×Int):=(List.range n).map λi=>(aIS (l.getD i []),(i:Int))
section
variable {r:Nat} {l:List (List Int)}
def getD_at {i} hi:l.getD i []=l[i]:=W
def bD6 l n:aU2 l (n+1)=aU2 l n++[(aIS (l.getD n []),(n:Int))]:=by unfold aU2; rw[List.range_succ,List.map_append]; rfl
def bTP(b:r<=64)(hw:Rw r l)(hd:∀ i j,i<j->j<l.length->l.getD i []≠l.getD j []):∀ m i,i+m=l.length->txs (l.drop i) i (aU2 l i)=some (aU2 l l.length)
 | 0,i,h=>by
  obtain rfl:i=l.length:=Z
  rw[List.drop_length]; rfl
 | m+1,i,h=>by
  have hi:i<l.length:=Z
  have hm:=hw _ (List.getElem_mem hi);rw[List.drop_eq_getElem_cons hi];have ht:=(bO3 (r:=l[i]) Z hm.2).1;have hn:YH (aU2 l i) (aIS l[i])=false:=by
   rw[Bool.eq_false_iff];intro f;have⟨p,e,c⟩:=(aNG _ _).1 f;obtain⟨j,d,rfl⟩:=List.mem_map.1 e;have d:j<i:=List.mem_range.1 d;have a:=hw _ (List.getElem_mem (show j<l.length by omega));rw[getD_at Z]at c;have:=a8I (by rw[a.1,hm.1]) a.2 hm.2 c;grind
  simp only[txs,ht,hn,zz];have:=bTP b hw hd m (i+1) Z;rw[bD6,getD_at hi]at this;exact this
def bIJ(hw:Rw r l) {x:List Int} (e:x.length=r/\∀ c∈x,c.natAbs<=1000000000):YH (aU2 l l.length) (aIS x)=decide (x∈l):=by
 by_cases h:x∈l;rw[oT h];obtain⟨i,hi,rfl⟩:=List.getElem_of_mem h;exact(aNG _ _).2 ⟨_,List.mem_map.2 ⟨i,List.mem_range.2 hi,rfl⟩,by rw[getD_at hi]⟩;rw[oF h,Bool.eq_false_iff];intro g;have⟨p,f,d⟩:=(aNG _ _).1 g;obtain⟨j,b,rfl⟩:=List.mem_map.1 f;have b:j<l.length:=List.mem_range.1 b;have a:=hw _ (List.getElem_mem b);have d:aIS (l.getD j [])=aIS x:=d;rw[getD_at b]at d;have:=a8I (by rw[a.1,e.1]) a.2 e.2 d;exact h (by rw[<- this]; exact List.getElem_mem b)
def getM_none:∀ L s,YH L s=false->getM L s=0
 | [],s,_=>rfl
 | x::L,s,h=>by
  rw[YH]at h;rw[getM];cases he:eqS x.1 s with
  | true=>grind
  | false=>rw[he,oD]at h; exact getM_none L s h
def bI9:∀ L a s,YH L s=false->getM (L++a) s=getM a s
 | [],a,s,_=>rfl
 | x::L,a,s,h=>by
  rw[YH]at h;rw[List.cons_append,getM];cases he:eqS x.1 s with
  | true=>grind
  | false=>rw[he,oD]at h; exact bI9 L a s h
end
def TY:List Int->List Int->List Int| a::l,b::m=>(a+b)::TY l m| _,_=>[]
def aBK:∀ {l m},l.length=m.length->(TY l m).length=l.length
 | [],[],_=>rfl
 | [],_::_,h=>by rfl
 | _::_,[],h=>W
 | a::l,b::m,h=>by simp[TY,aBK (by simpa using h)]
def bIW:∀ l m,l.length=m.length->∃ all,bCZ l m=some all/\∀ (v:List Int) (c:TZ [(.list (.int .i64)),(.list (.int .i64))]),(∀ a∈l,a.natAbs<=1000000000)->(∀ a∈m,a.natAbs<=1000000000)->v.length+l.length<=1000000 ->
  I6 T3 (bN2 EC RK) all ([],0,v,(c.1,c.2.1,()),())=some (v++TY l m,())
 | [],[],_=>⟨[],rfl,λv c _ _ _=>by
  show _=some (v++([]:List Int),());rw[List.append_nil]; rfl⟩
 | [],_::_,h=>by simp at h
 | _::_,[],h=>by simp at h
 | a::l,b::m,h=>by
  have⟨all,i,j⟩:=bIW l m (by simpa using h);refine⟨(a,b,())::all,by simp only[bCZ,i,aC],λv c d e f=>?_⟩;have p:=d a R;have o:=e b R;have g:aA .i64 (a+b)=a+b:=wrap64 Z Z;have n:Nat.ble [a+b].length 1048576=true:=rfl;have k:Nat.ble v.length 1048576=true:=Nat.ble_eq_true_of_le (by simp at f; omega);have step:T3 ([],0,v,(c.1,c.2.1,()),()) (a,b,())=some (.inl ([],0,v++[a+b],(c.1,c.2.1,()),())):=by simp only[T3,g,n,k,oC]
  have:=j (v++[a+b]) c (λz hz=>d z (by simp[hz])) (λz hz=>e z (by simp[hz])) (by simp at f ⊢; omega);rw[TY];rw[List.append_assoc]at this;simp only[I6,step];exact this
def bLX l m (p:l.length<=64)(h:l.length=m.length)(e:∀ a∈l,a.natAbs<=1000000000)(d:∀ a∈m,a.natAbs<=1000000000)(n:∀ a∈TY l m,a.natAbs<=1000000000):aBB (l,m,())=some (TY l m,0,()):=by
 have f:eqI 0 0=true:=O
 have c1:=A9 l Z e;have c2:=A9 m Z d;have c3:=A9 (TY l m) (by rw[aBK h]; omega) n;have o:eqI (l.length:Int) (m.length:Int)=true:=zg
 have c:aTI (l,m,())=some (0,()):=by simp only[aTI,c1,c2,f,o,zz]
 have⟨all,j,k⟩:=bIW l m h;have i:ltI (l.length:Int) 0=false:=zf
 have g:ltI 1048576 (l.length:Int)=false:=zf
 have b:OJ ([],0,[],(l,m,()),())=some (TY l m,()):=by
  have hp:a8E (l,m,())=some all:=by
   unfold a8E;dsimp only;rw[Nat.ble_eq_true_of_le (show l.length<=1048576 by omega),oC,j]
  unfold OJ a2H;simp only[aPQ,hp];exact k [] (l,m,()) e d (by simp; omega)
 have b:OJ ([],0,(List.replicate 0 (0:Ty.den (.int .i64))),(l,m,()),())=some (TY l m,()):=b;simp only[aBB,c,f,i,g,aW6,b,aAZ,c3,zz]
def HO r g x:(cl r g x).length=r:=by simp[cl,Vr]
def bZS {r g}(d:0<g)(b:g<=1000000000){x}(h:x.length=r)(e:∀ a∈x,a.natAbs<=1000000000):∀ a∈cl r g x,a.natAbs<=1000000000:=λa c=>by
 obtain⟨i,hi,rfl⟩:=List.mem_map.1 c;unfold clV;split
 ·have f:=Int.emod_nonneg (eK x 0) (show g≠0 by omega);have j:=Int.emod_lt_of_pos (eK x 0) d;omega
 ·unfold eK;grind
section
variable {ps:List Int} {n d r:Nat} {C K:Nat->V}
def rL(n r:Nat) (K:Nat->V) (note x:List Int):List Int:=cl r (K 0 0) (TY (tmp n r K x) note)
def bWT(h:RT ps n d r C K) (s:1<=n) (q:1<=r) (g:0<K 0 0) {notes} (hw:Rw r notes) {i:Nat} hi x (m:x.length=n) (k:∀ a∈x,a.natAbs<=1000000000)
  (hd:∀ i,i<r->(dot n (eK x) (K i)).natAbs<=1000000000) (f:∀ a∈TY (tmp n r K x) notes[i],a.natAbs<=1000000000) :
  vV ((((ps,(Mr d n C,Mr r n K)),notes),(((r:Int),[Vr r (eV (K 0 0))]),aU2 notes notes.length)),(i:Int),x,())=some (rL n r K notes[i] x,getM (aU2 notes notes.length) (aIS (rL n r K notes[i] x)),decide (rL n r K notes[i] x∈notes),0,()):=by
 have n4:=h.n4;have⟨p,hk⟩:=h.hk;have w:=(Hn.wR hk h.wk).1;have y:=h.bk 0 Z 0 Z;have v:eqI 0 0=true:=O
 have hm:=hw _ (List.getElem_mem hi);have b:(tmp n r K x).length=r:=by simp[tmp,Vr]
 have t1:=aM9 h x m k hd;have u:aE (i:Int) notes.length=true:=zi
 have l:notes.getD ((i:Int)).toNat []=notes[i]:=by rw[oN]; exact getD_at hi
 have t2:=bLX (tmp n r K x) notes[i] Z (by rw[b,hm.1]) (λa o=>by
  obtain⟨j,t,rfl⟩:=List.mem_map.1 o;exact hd j (List.mem_range.1 t)) hm.2 f
 have c:(TY (tmp n r K x) notes[i]).length=r:=by rw[aBK (by rw[b,hm.1]),b]
 have t3:=UB q Z g Z (TY (tmp n r K x) notes[i]) c f;have e:=bZS g Z c f;have t4:=(bO3 (r:=rL n r K notes[i] x) (by unfold rL; rw[HO]; omega) e).1;have t5:=bIJ hw (x:=rL n r K notes[i] x) ⟨HO _ _ _,e⟩;unfold rL at t4 t5 ⊢;simp only[vV,t1,v,u,l,t2,t3,t4,t5,zz]
end
def bSU {p L s}(h:p.1=s):getM (p::L) s=p.2:=by rw[getM,aZF.2 h,oC]
def bCD:∀ L a s,YH L s=true->getM (L++a) s=getM L s
 | [],a,s,h=>by cases h
 | x::L,a,s,h=>by
  rw[YH]at h;rw[List.cons_append,getM,getM];cases he:eqS x.1 s with
  | true=>rfl
  | false=>rw[he,oD]at h; exact bCD L a s h
section
variable {r:Nat} {l:List (List Int)}
def bCX(hw:Rw r l)(hd:∀ i j,i<j->j<l.length->l.getD i []≠l.getD j []){i} hi:∀ m,i<m->m<=l.length->getM (aU2 l m) (aIS l[i])=i
 | 0,h,_=>Z
 | m+1,h,hm=>by
  rw[bD6];rcases oG i m with a|a
  ·have e:YH (aU2 l m) (aIS l[i])=true:=(aNG _ _).2 ⟨(aIS (l.getD i []),(i:Int)),List.mem_map.2 ⟨i,List.mem_range.2 a,rfl⟩,by show aIS (l.getD i [])=_; rw[getD_at hi]⟩;rw[bCD _ _ _ e];exact bCX hw hd hi m a Z
  ·obtain rfl:i=m:=Z
   have hn:YH (aU2 l i) (aIS l[i])=false:=by
    rw[Bool.eq_false_iff];intro e;have⟨p,a,d⟩:=(aNG _ _).1 e;obtain⟨j,f,rfl⟩:=List.mem_map.1 a;have f:j<i:=List.mem_range.1 f;have b:=hw _ (List.getElem_mem (show j<l.length by omega));have c:=hw _ (List.getElem_mem hi);have d:aIS (l.getD j [])=aIS l[i]:=d;rw[getD_at Z]at d;have:=a8I (by rw[b.1,c.1]) b.2 c.2 d;grind
   rw[bI9 _ _ _ hn];exact bSU (by rw[getD_at hi])
def bYI(hw:Rw r l)(hd:∀ i j,i<j->j<l.length->l.getD i []≠l.getD j []){i:Nat} hi:getM (aU2 l l.length) (aIS l[i])=i:=bCX hw hd hi _ hi (oM _)
end
section
variable {ps:List Int} {n d r:Nat} {C K:Nat->V}
def bHR(h:RT ps n d r C K) (a:1<=n) (b:1<=r) (c:0<K 0 0) {l:List (List Int)} (hw:Rw r l) (e:l.length<=1048576) (hd:∀ i j,i<j->j<l.length->l.getD i []≠l.getD j []) :
  qS (((ps,(Mr d n C,Mr r n K)),l),())=some ((((ps,(Mr d n C,Mr r n K)),l),(((r:Int),[Vr r (eV (K 0 0))]),aU2 l l.length)),0,()):=by
 have n4:=h.n4;have⟨p,hk⟩:=h.hk;have g:=(Hn.wR hk h.wk).1;have t1:=U0 h a b c;have t2:txs l 0 []=some (aU2 l l.length):=bTP Z hw hd l.length 0 Z;have f:Nat.ble l.length 1048576=true:=Nat.ble_eq_true_of_le e;simp only[qS,t1,f,t2,zz]
end
section
variable {ps:List Int} {n d r:Nat} {C K:Nat->V}
def a3Y(e:r<=64)(x:List Int)(c:x.length=r)(b:∀ a∈x,a.natAbs<=1000000000):xM ((ps,(Mr d n C,Mr r n K)),x,())=some (0,()):=by
 have c1:=A9 x Z b;have g:eqI 0 0=true:=by rfl
 have f:eqI x.length ((Mr r n K).length)=true:=by rw[bN]; exact oT (by simp[Mr,c])
 simp only[xM,c1,g,f,zz]
end
section
variable {ps:List Int} {n d r:Nat} {C K:Nat->V}
def bBS(h:RT ps n d r C K)(j:1<=n)(A:1<=r)(D:0<K 0 0){l}(hw:Rw r l)(O:0<l.length)(I:l.length<=60)(q:∀ a∈l,cl r (K 0 0) a=a)(H:∀ i,i+1<l.length->0<cmpL (l.getD (i+1) []) (l.getD i [])) :
  C7 (((ps,(Mr d n C,Mr r n K)),l),())=some (0,()):=by
 have n4:=h.n4;have⟨p,hk⟩:=h.hk;have L:=(Hn.wR hk h.wk).1;have M:=h.bk 0 Z 0 Z;have t:eqI 0 0=true:=zZ
 have t1:=U0 h j A D;have J:eqI (l.length:Int) 0=false:=zh
 have F:ltI 60 (l.length:Int)=false:=zf
 have b:JD (((ps,(Mr d n C,Mr r n K)),l),((r:Int),[Vr r (eV (K 0 0))]),l,(l.length:Int),0,())=some (((List.range l.length).findSome? λi=>(none:Option (AQ DL))).getD (.inr ())):=by
  refine aPW (N:=2^64) (step:=uK) (λi=>(((ps,(Mr d n C,Mr r n K)),l),((r:Int),[Vr r (eV (K 0 0))]),l,(l.length:Int),(i:Int),())) (λi=>none) l.length (.inr ()) Z ?_ ?_
  ·intro i hi;have hm:=List.getElem_mem hi;have c:=hw _ hm;have f:ltI (i:Int) (l.length:Int)=true:=ze
   have w:aE (i:Int) l.length=true:=zi
   have z:l.getD ((i:Int)).toNat []=l[i]:=by rw[oN]; exact getD_at hi
   have x:=a3Y (ps:=ps) (n:=n) (d:=d) (C:=C) (K:=K) Z l[i] c.1 c.2;have k:=UB A Z D Z l[i] c.1 c.2;rw[q _ hm]at k;have y:kJ (l[i],l[i],())=some (true,()):=(by have:=aTL l[i] l[i] Z;rw[oT rfl]at this;simp only[kJ,this,aC]);have B:=bP i Z;by_cases g:i=0;subst g;have v:ltI 0 ((0:Nat):Int)=false:=zZ;simp only[uK,f,w,z,x,k,y,B,v,t,zz]
   ·have v:ltI 0 (i:Int)=true:=ze
    have E:aA .i64 ((i:Int)-1)=((i-1:Nat):Int):=by rw[wrap64 Z Z]; omega
    have o:aE (((i-1:Nat):Int)) l.length=true:=zi
    have s:l.getD (((i-1:Nat):Int)).toNat []=l[i-1]' Z:=by rw[oN]; exact getD_at Z
    have G:=hw _ (List.getElem_mem (show i-1<l.length by omega));have u:=aDB l[i] (l[i-1]' Z) Z Z;have e:=H (i-1) Z;rw[show i-1+1=i by omega,getD_at hi,getD_at (show i-1<l.length by omega)]at e;have m:ltI 0 (cmpL l[i] (l[i-1]' Z))=true:=by rw[aF]; exact oT e
    simp only[uK,f,w,z,x,k,y,B,v,E,o,s,u,m,t,zz]
  ·have f:ltI (l.length:Int) (l.length:Int)=false:=zf
   simp only[uK,f,oD]
 rw[show ((List.range l.length).findSome? λi=>(none:Option (AQ DL)))=none from List.findSome?_eq_none_iff.2 (λ_ _=>rfl),Option.getD_none]at b;simp only[C7,t1,t,J,F,b,zz]
end
section
variable {ps:List Int} {n d r:Nat} {C K:Nat->V}
def aN9(hp:BD (ps,())=some (0,()))(i:ps.length=n)(hn:n<=64)(rows:List (List Int))(p:rows.length<1048576)(hlen:∀ x∈rows,x.length=n)(l:∀ x∈rows,∀ a∈x,a.natAbs<=1000):rK (ps,rows,())=some (0,()):=by
 have m:eqI 0 0=true:=O
 have inner:∀ (k:Int) (x:List Int),x.length<1048576->(∀ a∈x,a.natAbs<=1000)->lH (ps,rows,(rows.length:Int),k,x,(x.length:Int),0,())=some (.inr (ps,rows,(rows.length:Int),k,())):=λk x o j=>by
  refine aK (step:=fU) (N:=2^64) (λt=>(ps,rows,(rows.length:Int),k,x,(x.length:Int),(t:Int),())) x.length (.inr (ps,rows,(rows.length:Int),k,())) Z (λt ht=>?_) ?_
  ·have c:ltI (t:Int) (x.length:Int)=true:=ze
   have e:aE (t:Int) x.length=true:=zi
   have f:x.getD ((t:Int)).toNat 0=x[t]:=by rw[oN]; simp[List.getD,ht]
   have b:=j x[t] (List.getElem_mem ht);have h:ltI 1000 x[t]=false:=zf
   have g:ltI x[t] (-1000)=false:=zf
   have d:=bP t Z;simp only[fU,c,e,f,h,g,d,zz]
  ·have c:ltI (x.length:Int) (x.length:Int)=false:=zf
   simp only[fU,c,oD]
 have key:lR (ps,rows,(rows.length:Int),0,())=some (.inr ()):=by
  refine aK (step:=fQ) (N:=2^64) (λt=>(ps,rows,(rows.length:Int),(t:Int),())) rows.length (.inr ()) Z (λt ht=>?_) ?_
  ·have c:ltI (t:Int) (rows.length:Int)=true:=ze
   have e:aE (t:Int) rows.length=true:=zi
   have f:rows.getD ((t:Int)).toNat []=rows[t]:=by rw[oN]; exact getD_at ht
   have hm:=List.getElem_mem ht;have h:eqI (rows[t].length:Int) (ps.length:Int)=true:=by rw[bN,hlen _ hm,i]; exact oT rfl
   have g:=inner (t:Int) rows[t] (by rw[hlen _ hm]; omega) (l _ hm);have d:=bP t Z;simp only[fQ,c,e,f,h,g,d,zz]
  ·have c:ltI (rows.length:Int) (rows.length:Int)=false:=zf
   simp only[fQ,c,oD]
 simp only[rK,hp,key,m,zz]
def bRA {l:List (List Int)} (f:C7 (((ps,(Mr d n C,Mr r n K)),l),())=some (0,())) (hp:BD (ps,())=some (0,())) (i:ps.length=n) (hn:n<=64) {qs:List (List (List Int))} {s:Int} (D:0<qs.length) (v:qs.length<=12)
  (A:∀ c∈qs,0<c.length/\c.length<=8/\∀ x∈c,x.length=n/\∀ a∈x,a.natAbs<=1000) (y:1<=s) (p:s<=8):K4 ((((ps,(Mr d n C,Mr r n K)),l),(qs,s)),())=some (0,()):=by
 have g:eqI 0 0=true:=O
 have u:eqI (qs.length:Int) 0=false:=zh
 have h:ltI 12 (qs.length:Int)=false:=zf
 have z:ltI s 1=false:=zf
 have m:ltI 8 s=false:=zf
 have key:TB ((((ps,(Mr d n C,Mr r n K)),l),(qs,s)),qs,(qs.length:Int),0,())=some (.inr ((((ps,(Mr d n C,Mr r n K)),l),(qs,s)),())):=by
  refine aK (step:=KK) (N:=2^64) (λt=>((((ps,(Mr d n C,Mr r n K)),l),(qs,s)),qs,(qs.length:Int),(t:Int),())) qs.length (.inr ((((ps,(Mr d n C,Mr r n K)),l),(qs,s)),())) Z (λt ht=>?_) ?_
  ·have b:ltI (t:Int) (qs.length:Int)=true:=ze
   have j:aE (t:Int) qs.length=true:=zi
   have w:qs.getD ((t:Int)).toNat []=qs[t]:=by rw[oN]; simp[List.getD,ht]
   have⟨g1,g2,g3⟩:=A _ (List.getElem_mem ht);have k:eqI (qs[t].length:Int) 0=false:=zh
   have o:ltI 8 (qs[t].length:Int)=false:=zf
   have q:=aN9 hp i hn qs[t] Z (λx e=>(g3 x e).1) (λx e=>(g3 x e).2);have B:=bP t Z;simp only[KK,b,j,w,k,o,q,B,g,zz]
  ·have b:ltI (qs.length:Int) (qs.length:Int)=false:=zf
   simp only[KK,b,oD]
 simp only[K4,f,g,u,h,z,m,key,zz]
end
section
variable {ps:List Int} {n d r:Nat} {C K:Nat->V}
def tcl(n r:Nat) (K:Nat->V) (x:List Int):List Int:=cl r (K 0 0) (tmp n r K x)
end
def a4K {τ:Type} p [DecidablePred p](g:Nat->τ):∀ l:List Nat,(l.findSome? λi=>if p i then some (g i) else none)=(l.find? λi=>decide (p i)).map g
 | []=>rfl
 | i::l=>by
  by_cases h:p i
  ·grind
  ·simp[h,a4K p g l]
def aCP(a b:List Int) (j:a.length<=9223372036854775806):eC (a,b,())=some (decide (a=b),()):=by
 unfold eC;simp only[bN,aYS,yJ];by_cases g:a.length=b.length
 ·rw[if_neg Z];have:aV cD (2^64) (a,b,(a.length:Int),0,())=_:=aPW (N:=2^64) (step:=cD) (λi=>(a,b,(a.length:Int),(i:Int),())) (λi=>if ¬ a.getD i 0=b.getD i 0 then some (.inl (false,())) else none) a.length (.inr ()) Z (by
   intro i hi;simp only[cD,aF,bN,aL,yJ,aYS,oN];rw[if_pos Z,if_pos ⟨by omega,by omega⟩,if_pos ⟨by omega,by omega⟩,bP i Z]
   by_cases h:¬ a.getD i 0=b.getD i 0
   ·grind
   ·rw[if_neg h,if_neg h]) (by
   simp only[cD,aF,yJ];rw[if_neg Z])
  unfold kN;rw[this,a4K (λi=>¬ a.getD i 0=b.getD i 0),aC];cases d:(List.range a.length).find? λi=>decide (¬ a.getD i 0=b.getD i 0)with
  | none =>
   have c:∀ i,i<a.length->a.getD i 0=b.getD i 0:=W
   have:a=b:=by
    apply List.ext_getElem g;grind
   rw[oT this]; rfl
  | some i =>
   have f:=List.find?_some d;have:¬ a=b:=λe=>by subst e; simp at f
   rw[oF this]; rfl
 rw[if_pos Z,oF];grind
def ON(a b:List Int)(c:a.length<=9223372036854775806):kJ (a,b,())=some (decide (a=b),()):=by
 unfold kJ; dsimp only;rw[aCP a b c,aC]
end Go.PM
