/- Texts of one proof, joined (12). -/
import Derived.Lib.RowBridge
import Derived.Test.YtcbgclaonahijaaGreatDoorQI11
set_option linter.unusedSimpArgs false
set_option linter.unusedVariables false
set_option maxRecDepth 100000
noncomputable section
namespace Go.PM
open Go Go.RowKit Go.Proofs Tryz
set_option maxHeartbeats 4000000
abbrev PL:=(Int×Int)×List Int
def a3T(l:List PL)(p least:Int):Nat->Nat->Option (List (aM [.int .i64]))
 | _,0=>some []
 | i,m+1=>bif eqI (i:Int) p then a3T l p least (i+1) m else bif aE p l.length then
   aB (HT (l.getD p.toNat ((0,0),[]),l.getD i ((0,0),[]),())) λy=>bif ltI y.1 least then a3T l p least (i+1) m else aB (a3T l p least (i+1) m) λr=>some (((i:Int),())::r)
  else none
def bNC(x:TZ [TyN,TyE,TyE]):Option (List (aM [.int .i64])):=match x with
 | (l,p,least,())=>bif Nat.ble l.length 1048576 then a3T l p least 0 l.length else none
theorem aX5(yv:Value)(l:List PL)(p least:Int)(hl:l.length<=1048576):∀ (m i:Nat) (all:List (aM [.int .i64])) (N:Nat),a3T l p least i m=some all->i+m=l.length->m<N ->
  YL fJ N (yv,l,p,least,(l.length:Int),(i:Int),())=some (all.map λe=>(yv,e),())
 | 0,i,all,N+1,h,hi,_=>by
  obtain rfl:=oB h;have h1:ltI (i:Int) (l.length:Int)=false:=by rw[aF]; exact oF (by omega)
  simp only[YL,fJ,h1,oD];rfl
 | m+1,i,all,N+1,h,hi,hN=>by
  have h1:ltI (i:Int) (l.length:Int)=true:=by rw[aF]; exact oT (by omega)
  have h5:aA .i64 ((i:Int)+1)=((i+1:Nat):Int):=by rw[wrap64 (by omega) (by omega)]; simp
  have h2:aE (i:Int) l.length=true:=by rw[aL]; exact oT (by omega)
  simp only[a3T]at h;cases he:eqI (i:Int) p with
  | true =>
   rw[he,oC]at h;have h4:=aX5 yv l p least hl m (i+1) all N h (by omega) (by omega);simp only[YL,fJ,h1,oC,he,Bool.not_true,oD,h5];rw[h4]; rfl
  | false =>
   rw[he,oD]at h;obtain⟨hx,h⟩:=aJ h;obtain⟨y,hy,h⟩:=wA h;have hy':=hy;cases hs:ltI y.1 least with
   | true =>
    rw[hs,oC]at h;have h4:=aX5 yv l p least hl m (i+1) all N h (by omega) (by omega);simp only[YL,fJ,h1,oC,he,Bool.not_false,h2,hx,oN,hy,aC,hs,Bool.not_true,oD,h5];rw[h4]; rfl
   | false =>
    rw[hs,oD]at h;obtain⟨all',ha,h⟩:=wA h;obtain rfl:=oB h;have h4:=aX5 yv l p least hl m (i+1) all' N ha (by omega) (by omega);simp only[YL,fJ,h1,oC,he,Bool.not_false,h2,hx,oN,hy,aC,hs,outs,h5];rw[h4]; rfl
theorem bMQ:aOQ tP 130 [TyN,TyE,TyE] [.int .i64] bNC:=by
 refine aI5 ?_;rintro yv ⟨l,p,least,⟨⟩⟩ all h;unfold bNC at h;dsimp only at h;obtain⟨hb,h⟩:=aJ h;have hb:=oL hb;have:=aX5 yv l p least hb l.length 0 all (2^64) h (by omega) (by omega);unfold M4;dsimp only;unfold wL;have h0:((0:Nat):Int)=0:=rfl;rw[h0]at this;rw[this];simp[a3D,outs,bI3]
def aNI(x:aM [.int .u64,.int .u64]):oK [.int .u64,.int .u64]:=match x with
 | (v0,v1,()) =>
  some ((aA .u64 ((aA .u64 ((aA .u64 ((Int.fdiv v0 (2^(min 32 (IntKind.bits .u64))))*(Int.fdiv v1 (2^(min 32 (IntKind.bits .u64))))))+(Int.fdiv (aA .u64 ((aA .u64 ((Int.fdiv v0 (2^(min 32 (IntKind.bits .u64))))*(IntKind.wrap .u64 (((BitVec.ofInt (IntKind.bits .u64) v1) &&& (BitVec.ofInt (IntKind.bits .u64) 4294967295)).toNat:Int))))+(Int.fdiv (aA .u64 ((IntKind.wrap .u64 (((BitVec.ofInt (IntKind.bits .u64) v0) &&& (BitVec.ofInt (IntKind.bits .u64) 4294967295)).toNat:Int))*(IntKind.wrap .u64 (((BitVec.ofInt (IntKind.bits .u64) v1) &&& (BitVec.ofInt (IntKind.bits .u64) 4294967295)).toNat:Int)))) (2^(min 32 (IntKind.bits .u64)))))) (2^(min 32 (IntKind.bits .u64))))))+(Int.fdiv (aA .u64 ((IntKind.wrap .u64 (((BitVec.ofInt (IntKind.bits .u64) (aA .u64 ((aA .u64 ((Int.fdiv v0 (2^(min 32 (IntKind.bits .u64))))*(IntKind.wrap .u64 (((BitVec.ofInt (IntKind.bits .u64) v1) &&& (BitVec.ofInt (IntKind.bits .u64) 4294967295)).toNat:Int))))+(Int.fdiv (aA .u64 ((IntKind.wrap .u64 (((BitVec.ofInt (IntKind.bits .u64) v0) &&& (BitVec.ofInt (IntKind.bits .u64) 4294967295)).toNat:Int))*(IntKind.wrap .u64 (((BitVec.ofInt (IntKind.bits .u64) v1) &&& (BitVec.ofInt (IntKind.bits .u64) 4294967295)).toNat:Int)))) (2^(min 32 (IntKind.bits .u64))))))) &&& (BitVec.ofInt (IntKind.bits .u64) 4294967295)).toNat:Int))+(aA .u64 ((IntKind.wrap .u64 (((BitVec.ofInt (IntKind.bits .u64) v0) &&& (BitVec.ofInt (IntKind.bits .u64) 4294967295)).toNat:Int))*(Int.fdiv v1 (2^(min 32 (IntKind.bits .u64)))))))) (2^(min 32 (IntKind.bits .u64)))))),(aA .u64 (v0*v1)),())
abbrev a09:Ent:=⟨230,_,_,aNI⟩
theorem aUD:Ent.OK tP a09:=oI (aS oW) func230 (by kernel_rfl) (by rintro⟨v0,v1,⟨⟩⟩; kernel_rfl)
def aQ9(x:aM [.int .u64,.int .u64]):oK [.int .u64,.int .u64]:=match x with
 | (v0,v1,()) =>
  aB (aNI (v0,v1,())) λy1 =>
  some (y1.1,y1.2.1,())
abbrev aR0:Ent:=⟨163,_,_,aQ9⟩
theorem aY6:Ent.OK tP aR0:=oI (aS (oV aUD oW)) func163 (by kernel_rfl) (by rintro⟨v0,v1,⟨⟩⟩; kernel_rfl)
abbrev kE:List (Nat×Kd):=[(7,.own 3 TyE),(8,.int .i64)]
abbrev rC:List (Ex×List (Nat×Kd)):=[(.exit 0,[(7,.own 3 TyE)])]
def OE(x:Shape.den kE):oS kE rC:=match x with
 | (v7,v8,()) =>
  bif ltI v8 (v7.length:Int) then
   bif !(ltI v8 0) then bif Nat.ble v8.toNat v7.length then bif Nat.ble v7.length v7.length then bif Nat.blt v8.toNat v7.length then bif !(ltI v8 0) then bif Nat.ble 0 v8.toNat then bif Nat.ble v8.toNat v7.length then bif Nat.blt 0 v7.length then bif Nat.blt 0 (v7.length-v8.toNat) then bif Nat.ble (v8.toNat+(v7.length-v8.toNat)) v7.length then bif Nat.ble ((v7.drop 0).take (min (v8.toNat-0) (v7.length-v8.toNat))).length (v7.length-v8.toNat) then some (.inl ((spl v7 v8.toNat ((v7.drop 0).take (min (v8.toNat-0) (v7.length-v8.toNat)))),(aA .i64 (v8+(((v7.drop 0).take (min (v8.toNat-0) (v7.length-v8.toNat))).length:Int))),())) else none else none else none else none else none else none else none else none else none else none else none
  else some (.inr ((v7,())))
def CZ(x:Shape.den kE):oX rC:=aV OE (2^64) x
def qF(x:aM [.list TyE,.int .i64]):Option (List Int):=match x with
 | (v0,v1,()) =>
  bif ltI v1 0 then none else aB (aQ9 ((IntKind.wrap .u64 (v0.length:Int)),(IntKind.wrap .u64 v1),())) λy1 =>
  bif ltI 0 y1.1 then none else bif ltI 9223372036854775807 y1.2.1 then none else bif !(ltI (IntKind.wrap .i64 y1.2.1) 0) then bif !(ltI (IntKind.wrap .i64 y1.2.1) (IntKind.wrap .i64 y1.2.1)) then bif !(ltI 1048576 (IntKind.wrap .i64 y1.2.1)) then bif Nat.blt 0 ((List.replicate ((IntKind.wrap .i64 y1.2.1).toNat) (0:Ty.den TyE)).length) then bif Nat.ble (0+(List.replicate ((IntKind.wrap .i64 y1.2.1).toNat) (0:Ty.den TyE)).length) (List.replicate ((IntKind.wrap .i64 y1.2.1).toNat) (0:Ty.den TyE)).length then bif Nat.ble v0.length ((List.replicate ((IntKind.wrap .i64 y1.2.1).toNat) (0:Ty.den TyE)).length) then aB (CZ ((spl (List.replicate ((IntKind.wrap .i64 y1.2.1).toNat) (0:Ty.den TyE)) 0 v0),(v0.length:Int),())) λz2 =>
  some z2.1 else none else none else none else none else none else none
def B3:Code:=bY f131
abbrev LC:Env:=B1 [aR0]
theorem QV:dN tP LC:=aS ⟨aY6,trivial⟩
def HK:Code:=dC B3 0
def JF(id:Nat):Option cI:=bif Nat.beq id 8 then some ⟨kE,rC,CZ⟩ else none
theorem aAX:∀ x,dL tP LC 48 (aP f131) JF HK kE rC x=OE x:=by
 rintro⟨v7,v8,⟨⟩⟩
 kernel_rfl
theorem aDK:cJ tP 48 HK ⟨kE,rC,CZ⟩:=cC QV.callee aQ.mixed _ (aO (l:=[]) (by kernel_rfl) trivial) aAX
theorem aFH:bA B3=[HK]:=by kernel_rfl
theorem aIB:∀ x,bDW tP LC f131 (aP f131) JF B3 [.list TyE,.int .i64] 4 3 TyE x=qF x:=by
 rintro⟨v0,v1,⟨⟩⟩
 kernel_rfl
theorem aLY:aYH tP 131 [.list TyE,.int .i64] 3 TyE qF:=a6M aQ QV func131 (c:=B3) (by kernel_rfl) (keep:=aP f131) (lt:=JF) (t:=4) (by kernel_rfl) (aO aFH ⟨cB (i:=8) (by kernel_rfl) rfl aDK,trivial⟩) aIB
abbrev VT:Shr:=(131,bMW [.list TyE,.int .i64] 3 TyE qF)
theorem aHX:sT tP VT:=aY4 aLY
def sW(x:aM [.list TyL,.int .i64,.int .i64]):oK [.clo 130 [TyN,TyE,TyE]]:=match x with
 | (v0,v1,v2,()) =>
  some ((v0,v1,v2,()),())
abbrev KN:Ent:=⟨89,_,_,sW⟩
theorem M8:Ent.OK tP KN:=oI (aS oW) func89 (by kernel_rfl) (by rintro⟨v0,v1,v2,⟨⟩⟩; kernel_rfl)
abbrev lD:List (Nat×Kd):=[(0,.list TyL),(2,.int .i64),(6,.own 3 TyE),(7,.bown 28 3 TyE),(8,.bque 28 3 TyE),(9,.box 3 TyE),(31,.clo 130 [TyN,TyE,TyE])]
abbrev xO:List (Ex×List (Nat×Kd)):=[(.normal,[(0,.list TyL),(2,.int .i64),(6,.own 3 TyE),(7,.bown 28 3 TyE),(8,.bque 28 3 TyE)])]
def sX(x:Shape.den lD)(e:aM [.int .i64]):oS lD xO:=match x,e with
 | (v0,v2,v6,v7,v8,v9,v31,()),(e0,()) =>
  bif aE e0 v7.length then bif Nat.blt e0.toNat v7.length then bif ltI (v7.getD e0.toNat 0) 0 then
   bif aE v9 v7.length then bif Nat.blt v9.toNat v7.length then bif aE e0 v7.length then bif Nat.blt e0.toNat v7.length then bif Nat.ble [e0].length 1048576 then bif Nat.ble v8.length 1048576 then some (.inl (v0,v2,v6,(v7.set e0.toNat (aA .i64 ((v7.getD v9.toNat 0)+1))),(v8++[e0]),v9,(v31.1,v31.2.1,v31.2.2.1,()),())) else none else none else none else none else none else none
  else some (.inl (v0,v2,v6,v7,v8,v9,(v31.1,v31.2.1,v31.2.2.1,()),())) else none else none
def U1(x:Shape.den lD):TZ [TyN,TyE,TyE]:=match x with
 | (v0,v2,v6,v7,v8,v9,v31,())=>(v31.1,v31.2.1,v31.2.2.1,())
def DD(x:Shape.den lD):oX xO:=a2H lD xO (λx=>bNC (U1 x)) sX x
abbrev CK:List (Nat×Kd):=[(0,.list TyL),(2,.int .i64),(6,.own 3 TyE),(7,.bown 28 3 TyE),(8,.bque 28 3 TyE)]
abbrev HX:List (Ex×List (Nat×Kd)):=[(.exit 0,[(7,.bown 28 3 TyE)])]
def C6(x:Shape.den CK):oS CK HX:=match x with
 | (v0,v2,v6,v7,v8,()) =>
  bif ltI 0 (v8.length:Int) then
   bif aE 0 v8.length then bif Nat.blt 0 v8.length then bif Nat.ble 1 v8.length then bif Nat.ble v8.length v8.length then aB (sW (v0,(v8.getD 0 0),v2,())) λy4 =>
   aB (DD (v0,v2,v6,v7,((v8.drop 1).take (v8.length-1)),(v8.getD 0 0),(y4.1.1,y4.1.2.1,y4.1.2.2.1,()),())) λz5 =>
   some (.inl (z5.1,z5.2.1,z5.2.2.1,z5.2.2.2.1,z5.2.2.2.2.1,())) else none else none else none else none
  else some (.inr ((v7,())))
def KD(x:Shape.den CK):oX HX:=aV C6 (2^64) x
def LU(x:aM [.list TyL,.int .i64,.int .i64]):oK [.list TyE]:=match x with
 | (v0,v1,v2,()) =>
  aB (qF ([(-1)],(v0.length:Int),())) λy1 =>
  bif aE v1 y1.length then bif Nat.blt v1.toNat y1.length then aB (KD (v0,v2,[],(y1.set v1.toNat 0),[v1],())) λz6 =>
  some (z6.1,()) else none else none
def W5:Code:=bY f90
abbrev W8:Env:=RP [KN] [VT]
theorem X2:dN tP W8:=jH ⟨M8,trivial⟩ ⟨aHX,trivial⟩
def L0:Code:=inLoop (QF W5 0)
def iH:Code:=QF L0 0
def a1B:Code:=inLoop iH
def UJ(id:Nat):Option cI:=bif Nat.beq id 4 then some ⟨CK,HX,KD⟩ else none
def UD(id:Nat):Option cI:=bif Nat.beq id 9 then some ⟨lD,xO,DD⟩ else none
theorem aRX:bM a1B=9:=by kernel_rfl
theorem aD5:iH=.rangeFunc (aNR iH) (a1W iH) (II iH) (inLoop iH):=by kernel_rfl
theorem aSC:∀ y e,aST tP W8 51 (xD f90) UJ UD (a1W iH).toList (II iH) (inLoop iH) [.int .i64] lD xO y e=sX y e:=by
 rintro⟨v0,v2,v6,v7,v8,v9,v31,⟨⟩⟩ ⟨e0,⟨⟩⟩
 kernel_rfl
theorem aWQ:∀ x,a8H 130 [TyN,TyE,TyE] lD (aNR iH) x=some (U1 x):=by
 rintro⟨v0,v2,v6,v7,v8,v9,v31,⟨⟩⟩
 kernel_rfl
theorem aUS:H7 tP 51 false [] iH ⟨lD,xO,DD⟩:=aNV X2 aQ aD5 func130 (c:=bY f130) (by kernel_rfl) bMQ (by kernel_rfl) (nK (l:=[]) (by kernel_rfl) trivial) aWQ aSC
theorem aZG:dV L0=[iH]:=by kernel_rfl
theorem aSS:∀ x,TD tP W8 51 (xD f90) UJ UD false [] L0 CK HX x=C6 x:=by
 rintro⟨v0,v2,v6,v7,v8,⟨⟩⟩
 kernel_rfl
theorem aU5:H7 tP 51 false [] (.loop L0) ⟨CK,HX,KD⟩:=FI X2.callee aQ.mixed _ (nK aZG ⟨aF1 aD5 aRX rfl aUS,trivial⟩) aSS
theorem aWH:dV W5=[.loop L0]:=by kernel_rfl
theorem aZE:∀ x,a0L tP W8 f90 (xD f90) UJ UD W5 [.list TyL,.int .i64,.int .i64] [.list TyE] x=LU x:=by
 rintro⟨v0,v1,v2,⟨⟩⟩
 kernel_rfl
abbrev aGX:Ent:=⟨90,_,_,LU⟩
theorem aJM:Ent.OK tP aGX:=aJK aQ X2 func90 (c:=W5) (by kernel_rfl) (keep:=xD f90) (lt:=UJ) (rt:=UD) (nK aWH ⟨E7 (i:=4) (by kernel_rfl) rfl aU5,trivial⟩) aZE
end Go.PM
namespace Go.PM
open Go Go.RowKit Go.Proofs Go.Lz
theorem lI {i n:Nat} (h:i<n):ltI i n=true:=by rw[aF]; grind
theorem lN(n:Nat):ltI n n=false:=by rw[aF]; simp
theorem iO {i n:Nat}(h:i<n):aE i n=true:=by rw[aL]; grind
theorem bL {n:Nat}(h:n<=1048576):Nat.ble n 1048576=true:=Nat.ble_eq_true_of_le h
theorem bO {α:Type}(a:α):Nat.ble [a].length 1048576=true:=rfl
theorem bT {i n}(h:i<n):Nat.blt i n=true:=by simp_all
theorem tN(i:Nat):((i:Int)).toNat=i:=oN i
theorem wS {i n:Nat}(h:i<n)(hn:n<=1048576):aA .i64 (i+1)=((i+1:Nat)):=bP i (by omega)
theorem e00:eqI 0 0=true:=by decide
theorem bAH {τ:Type} p [DecidablePred p](g:Nat->τ):∀ m ,(∃ j,j<m/\p j/\(∀ i,i<j->¬ p i)/\((List.range m).findSome? λi=>if p i then some (g i) else none)=some (g j))\/((∀ i,i<m->¬ p i)/\((List.range m).findSome? λi=>if p i then some (g i) else none)=none)
 | 0=>.inr ⟨λi h=>by omega,rfl⟩
 | m+1=>by
  rw[List.range_succ,List.findSome?_append];rcases bAH p g m with ⟨j,h1,h2,h3,h4⟩|⟨h1,h2⟩
  ·grind
  grind
theorem ME {σ τ step N}(F:Nat->σ) p [DecidablePred p](g:Nat->τ) m z (hN:m<N)(h:∀ i,i<m->step (F i)=some (if p i then .inr (g i) else .inl (F (i+1))))(he:step (F m)=some (.inr z)) :
  (∃ j,j<m/\p j/\(∀ i,i<j->¬ p i)/\aV step N (F 0)=some (g j))\/((∀ i,i<m->¬ p i)/\aV step N (F 0)=some z):=by
 have key:=aPW F (λi=>if p i then some (g i) else none) m z hN (λi hi=>by
  grind) he
 rcases bAH p g m with ⟨j,h1,h2,h3,h4⟩|⟨h1,h2⟩
 ·grind
 grind
theorem Q4 {l:List Int}{x}:x∈l↔∃ i,i<l.length/\l.getD i 0=x:=by
 constructor
 ·intro h;obtain⟨i,hi,rfl⟩:=List.getElem_of_mem h;exact⟨i,hi,by grind⟩
 grind
theorem a4N(l:List Int) (x:Int) (hl:l.length<=1000000):pC (l,x,())=some (decide (x∈l),()):=by
 have key:=ME (step:=yI) (N:=2^64) (λt=>(l,x,(l.length:Int),(t:Int),())) (λi=>x=l.getD i 0) (λj=>.inl ((j:Int),())) l.length (.inr ()) (by omega) (λt ht=>?_) ?_
 ·rcases key with ⟨j,h1,h2,_,h4⟩|⟨h1,h2⟩
  ·have h4:yH (l,x,(l.length:Int),0,())=some (.inl ((j:Int),())):=h4;have e1:ltI (j:Int) 0=false:=by rw[aF]; exact oF (by omega)
   rw[oT (Q4.2 ⟨j,h1,h2.symm⟩)];simp only[pC,GG,h4,aC,rT,e1,Bool.not_false]
  ·have h2:yH (l,x,(l.length:Int),0,())=some (.inr ()):=h2;have e1:ltI (-1:Int) 0=true:=by decide
   rw[oF (λh=>by obtain⟨i,hi,e⟩:=Q4.1 h; exact h1 i hi e.symm)];simp only[pC,GG,h2,aC,bV,e1,Bool.not_true]
 ·have q4:=wS ht (by omega);simp only[yI,lI ht,iO ht,tN,q4,oC,bN,yJ];grind
 ·simp only[yI,lN,oD]
theorem bI2(a b:List Int) {t} (ht:t<a.length):shN (a.take (t+1)) b=shN (a.take t) b+if a.getD t 0∈b then 1 else 0:=by
 unfold shN;rw[List.take_succ_eq_append_getElem ht,List.countP_append];grind
theorem bTA a b:shN a b<=a.length:=List.countP_le_length
theorem bCO(a b:PL)(ha:a.2.length<=1000000)(hb:b.2.length<=1000000):HT (a,b,())=some ((shN a.2 b.2:Int),()):=by
 have key:=aK (step:=BR) (N:=2^64) (λt=>(b,(shN (a.2.take t) b.2:Int),a.2,(a.2.length:Int),(t:Int),())) a.2.length (((shN a.2 b.2:Int),())) (by omega) (λt ht=>?_) ?_
 ·have key:P3 (((b.1.1,b.1.2),b.2),0,a.2,(a.2.length:Int),0,())=some ((shN a.2 b.2:Int),()):=by
   have h0:(shN (a.2.take 0) b.2:Int)=0:=rfl;exact key
  simp only[HT,key,aC]
 ·have q4:=wS ht (by omega);have q5:=a4N b.2 (a.2.getD t 0) hb;have hle:=bTA (a.2.take t) b.2;rw[List.length_take]at hle;have q6:aA .i64 ((shN (a.2.take t) b.2:Int)+1)=((shN (a.2.take t) b.2+1:Nat):Int):=bP _ (by omega);rw[bI2 a.2 b.2 ht]
  by_cases c:a.2.getD t 0∈b.2
  ·rw[oT c]at q5;rw[if_pos c];simp only[BR,lI ht,iO ht,tN,q4,q5,q6,oC,aC]
  ·rw[oF c]at q5;rw[if_neg c];simp only[BR,lI ht,iO ht,tN,q4,q5,oC,oD,aC,Nat.add_zero]
 ·simp only[BR,lN,oD,List.take_length]
def nbP(P:List PL) (s:Int) (i k:Nat):Bool:=decide (k≠i)&&decide (s<=(shN (P.getD i ((0,0),[])).2 (P.getD k ((0,0),[])).2))
def nb(P:List PL)(s:Int)(i:Nat):List Nat:=(List.range P.length).filter (nbP P s i)
def aQZ(P:List PL):Prop:=P.length<=200/\∀ i,i<P.length->(P.getD i ((0,0),[])).2.length<=1000/\(P.getD i ((0,0),[])).2.Pairwise (·<·)
def evs(l:List Nat):List (aM [.int .i64]):=l.map λk:Nat=>((k:Int),())
theorem bKC {P}(hP:aQZ P) s {p}(hp:p<P.length):∀ m i,i+m=P.length->a3T P p s i m=some (evs ((List.range' i m).filter (nbP P s p)))
 | 0,i,_=>rfl
 | m+1,i,h=>by
  have ih:=bKC hP s hp m (i+1) (by omega);have q1:=bCO (P.getD p ((0,0),[])) (P.getD i ((0,0),[])) (by have:=(hP.2 p hp).1; omega) (by have:=(hP.2 i (by omega)).1; omega);rw[List.range'_succ];simp only[a3T,bN,aF,iO hp,tN,oC,q1,aC,ih,yJ]
  by_cases c:i=p
  ·rw[if_pos (by omega),List.filter_cons_of_neg (by simp[nbP,c])]
  ·rw[if_neg (by omega)]
   by_cases c2:(shN (P.getD p ((0,0),[])).2 (P.getD i ((0,0),[])).2:Int)<s
   ·rw[if_pos c2,List.filter_cons_of_neg (by simp only[nbP,oA,decide_eq_true_eq]; omega)]
   ·rw[if_neg c2,List.filter_cons_of_pos (by simp only[nbP,oA,decide_eq_true_eq]; omega)]; rfl
theorem bHU {P}(hP:aQZ P)(s:Int){p}(hp:p<P.length):bNC (P,(p:Int),s,())=some (evs (nb P s p)):=by
 have h1:=hP.1;simp only[bNC,bL (show P.length<=1048576 by omega),bKC hP s hp P.length 0 (by simp)];rw[<- List.range_eq_range']; rfl
abbrev qC(q:List Nat):List Int:=q.map λk:Nat=>k
def gL(nb:Nat->List Nat) (N:Nat):List (List Int):=(List.range N).map λi=>qC (nb i)
theorem BW {nb N}:(gL nb N).length=N:=by simp[gL]
end Go.PM
namespace Go.PM
open Go Go.RowKit
section
variable {P:Program} {cl:Callee} {n0:Nat->Prop} {nt:Nat} {wi w:World} {Gi G:Gd} {μi μ:Mp} {F:Frm} {H:Heap} {a:Act}
def a88(n0:Nat->Prop) (p:Nat):Nat->Prop:=λb=>n0 b/\b≠p
theorem aX.a88 (h:aX n0 G μ H w){p}(hp:∀ r k b,H[r]?=some (some k)->k.frozen=false->μ.loc r=some b->b≠p)(hrow:∀ j b,G.row j=some b->b≠p)(hs:p<w.heap.size):aX (a88 n0 p) G μ H w where
 blk r k b hr hb:=by
  obtain⟨c,h1,h2,h3,h4,h5⟩:=h.blk r k b hr hb;exact⟨c,h1,h2,h3,h4,λhf=>⟨⟨(h5 hf).1,hp r k b hr hf hb⟩,(h5 hf).2⟩⟩
 tags:=h.tags
 inj:=h.inj
 lt:=h.lt
 top:=h.top
 base b hb:=⟨h.base b hb,by omega⟩
 rows:=h.rows.aXW λj b hj hn=>⟨hn,hrow j b hj⟩
theorem aX.bPG {p}(h:aX (PM.a88 n0 p) G μ H w):aX n0 G μ H w where
 blk r k b hr hb:=by
  obtain⟨c,h1,h2,h3,h4,h5⟩:=h.blk r k b hr hb;exact⟨c,h1,h2,h3,h4,λhf=>⟨(h5 hf).1.1,(h5 hf).2⟩⟩
 tags:=h.tags
 inj:=h.inj
 lt:=h.lt
 top:=h.top
 base b hb:=(h.base b hb).1
 rows:=h.rows.aXW λj b hj hn=>hn.1
theorem Ext.bPG {p w' G' μ'}(e:Ext (PM.a88 n0 p) w G μ w' G' μ'):Ext n0 w G μ w' G' μ' :=
 {toMono:=e.toMono,os:=e.os,tape:=e.tape,output:=e.output,size:=e.size,old:=λb hb hn=>e.old b hb λh=>hn h.1,new:=λb hb=>(e.new b hb).imp id (·.1) }
theorem aXI(hcl:dS P cl) {ops:Array Oper} {Q:Exit->Act->World->Prop} {F':Frm} {H':Heap} {l2:List Oper}:∀ (l:List Oper) (F:Frm) (H:Heap) (a:Act) (w:World),TI P cl nt ops.toList l F H=some (F',H')->I n0 wi Gi μi nt F H a w ->
  (∀ a' w',I n0 wi Gi μi nt F' H' a' w'->wpList P ops Q l2 a' w')->wpList P ops Q (l++l2) a w
 | [],F,H,a,w,h,hI,hQ=>by
  simp only[TI,oJ,oP]at h;obtain⟨rfl,rfl⟩:=h;exact hQ a w hI
 | o::rest,F,H,a,w,h,hI,hQ=>by
  simp only[TI]at h;rw[List.cons_append];split at h
  ·rename_i v H1 c hs;rw[aG7]at h;split at h
   ·rename_i F1 hp;rw[NY,Bool.cond_self]at h;obtain⟨G,μ,e,hW,hF⟩:=hI;unfold wpList;rcases aEK hcl hs hW hF with ⟨h1,h2⟩|⟨h1,rfl,rfl⟩
    ·rw[if_pos h1];refine .inl (h2 _ _ λv' w' G' μ' e' hW' hv=>?_);exact aXI hcl rest F1 H1 _ _ h ⟨G',μ',e.trans e',hW',(hF.mono e'.toMono).aXJ hp hv⟩ hQ
    ·rw[h1,if_neg (by decide)];exact aXI hcl rest F1 H1 _ _ h ⟨G,μ,e,hW,hF.aXJ hp (by rw[VR])⟩ hQ
   ·cases h
  ·cases h
theorem I.fresh (hW:aX n0 G μ H w) (hF:fG w G μ nt F a):I n0 w G aH nt F H a w :=
 ⟨G,μ,⟨aPJ,rfl,rfl,rfl,oM _,λ_ _ _=>rfl,λ_ h=>.inl h⟩,hW,hF⟩
def b2W(w:World) (b:Nat) (L:List (ByteArray×Int)):Prop:=∃ es clk,w.heap[b]?=some (.map es clk)/\es.toList.map (λe=>(e.key,e.val))=L.map λp=>(Value.string p.1,Value.int .i64 p.2)
theorem bKT {t kt et:TypeId} {b clk:Nat} {es:Array MapEntry} {L:List (ByteArray×Int)} (u1:P.underlying t=some (.map kt et)) (u2:P.underlying kt=some .string) (hb:w.heap[b]?=some (.map es clk))
  (hk:es.toList.map (λe=>(e.key,e.val))=L.map λp=>(Value.string p.1,Value.int .i64 p.2)) {s:ByteArray} (hs:YH L s=false) (n:Int) :
  (Instr.mapUpdate t (.map (some b)) (.string s) (.int .i64 n)).run P w=.ok () (w.putObj b (.map (es.push { key:=.string s,val:=.int .i64 n,born:=clk }) (clk+1))):=by
 have hc:(Instr.checkKey false 10000 kt (.string s)).run P w=.ok () w:=MapKept.run_checkKey (k:=.string s) u2 trivial false 9999;rcases a1R (s:=s) 0 hk with ⟨_,_,f2⟩|⟨_,f1,_⟩
 ·simp[Instr.mapUpdate,run_underlying u1,MapKept.run_getObj_map hb,hc,MapKept.run_findKey u2 f2,MapKept.run_setObj_map _ hb,Result.andThen,World.putObj]
 ·rw[hs]at f1; cases f1
theorem bZI {b:Nat} (hW:aX (PM.a88 n0 b) G μ H w) (hn:n0 b) (hG:¬ G b) {es es':Array MapEntry} {clk clk':Nat} (hb:w.heap[b]?=some (.map es clk)) :
  Ext n0 w G aH (w.putObj b (.map es' clk')) G aH/\aX (PM.a88 n0 b) G μ H (w.putObj b (.map es' clk'))/\(∀ {F:Frm} {a:Act},fG w G μ nt F a->fG (w.putObj b (.map es' clk')) G μ nt F a)/\(w.putObj b (.map es' clk')).heap[b]?=some (.map es' clk'):=by
 have oth:∀ c,c≠b->(w.putObj b (.map es' clk')).heap[c]?=w.heap[c]?:=λc hc=>World.putObj_heap_other hc
 have hsz:(w.putObj b (.map es' clk')).heap.size=w.heap.size:=World.putObj_size;have room:∀ c n,Room w c n->Room (w.putObj b (.map es' clk')) c n:=λc n ⟨cs,t,fr,h1,h2⟩=>⟨cs,t,fr,by
  rw[oth c (by rintro rfl; rw[hb]at h1; cases h1)]; exact h1,h2⟩
 have e1:∀ μ,Ext n0 w G μ (w.putObj b (.map es' clk')) G μ:=λμ=>{
  good:=λc hc=>⟨hc,oth c (by rintro rfl; exact hG hc)⟩
  map:=λ_ _ h=>h
  len:=λ_ _ h=>h
  room:=room
  row:=λ_ _ h=>h
  os:=rfl
  tape:=rfl
  output:=rfl
  size:=by rw[hsz]; exact oM _
  old:=λc hc hnc=>oth c (by rintro rfl; exact hnc hn)
  new:=λc hc=>.inl hc }
 have hrow:∀ j c,G.row j=some c->c≠b:=λj c hj=>(hW.rows.sep j c hj).2.1.2
 have hblk:∀ r k c,H[r]?=some (some k)->μ.loc r=some c->c≠b:=λr k c hr hc=>by
  obtain⟨_,_,_,_,h5,h6⟩:=hW.blk r k c hr hc;cases hf:k.frozen with
  | true=>rintro rfl; exact hG (h5 hf)
  | false=>exact(h6 hf).1.2
 have hW2:=hW.bPG.keep (e1 μ) ⟨λ_=>rfl,λj c hj=>⟨oth c (hrow j c hj),id⟩⟩ (λr k c hr hc=>⟨oth c (hblk r k c hr hc),id⟩) (λc hc=>by rw[hsz]; exact hW.lt c hc);refine⟨e1 aH,hW2.a88 (λr k c hr _ hc=>hblk r k c hr hc) hrow (by rw[hsz]; exact gN hb),λhF=>hF.mono (e1 μ).toMono,?_⟩;exact World.putObj_heap_same (gN hb)
theorem bYY(hW:aX n0 G μ H w):Ext n0 w G aH (w.alloc (.map #[] 0)) G aH/\aX (PM.a88 n0 w.heap.size) G μ H (w.alloc (.map #[] 0))/\(∀ {F:Frm} {a:Act},fG w G μ nt F a->fG (w.alloc (.map #[] 0)) G μ nt F a)/\(w.alloc (.map #[] 0)).heap[w.heap.size]?=some (.map #[] 0)/\n0 w.heap.size/\¬ G w.heap.size:=by
 obtain⟨e,hW1⟩:=bKW hW (.map #[] 0);refine⟨⟨⟨e.good,λ_ _ h=>h,λ_ _ h=>h,e.room,e.row,λ_ _ _=>rfl⟩,e.os,e.tape,e.output,e.size,e.old,e.new⟩,hW1.a88 (λr k b hr _ hb=>?_) (λj b hj=>?_) ?_,λhF=>hF.mono e.toMono,(MapKept.heap_alloc w _).1,hW.base _ (oM _),λhg=>Nat.lt_irrefl _ (hW.lt _ hg)⟩
 ·have:=hW.vB hr hb; omega
 ·have:=(hW.rows.sep j b hj).1; omega
 ·show w.heap.size<(w.heap.push _).size;simp
theorem bH0 {b:Nat} {w':World} {G':Gd} {μ':Mp} (e:Ext (PM.a88 n0 b) w G aH w' G' μ') (hlt:b<w.heap.size) (hG:¬ G b):w'.heap[b]?=w.heap[b]?/\¬ G' b :=
 ⟨e.old b hlt λh=>h.2 rfl,λh=>(e.new b h).elim hG λh=>h.2 rfl⟩
def kS(sl:List Nat) (ex:Ex) (F:Frm) (H:Heap):Option (Ex×List PV×Heap):=some (ex,sl.map (cR F),H)
def kO(sl:List Nat)(F:Frm)(H:Heap):Option (List PV×Heap):=some (sl.map (cR F),H)
theorem bO7 F t:∀ sl:List Nat,cR (sl.zip (sl.map (cR F))) t=cR F t\/cR (sl.zip (sl.map (cR F))) t=.junk
 | []=>.inr rfl
 | s::sl=>by
  show cR ((s,cR F s)::sl.zip (sl.map (cR F))) t=cR F t\/cR ((s,cR F s)::sl.zip (sl.map (cR F))) t=.junk;rw[eY]
  by_cases hs:t=s
  ·grind
  ·rw[if_neg hs]; exact bO7 F t sl
theorem fG.J5 (h:fG w G μ nt F a)(sl:List Nat):fG w G μ nt (sl.zip (sl.map (cR F))) a:=⟨h.size,λt=>by
 rcases bO7 F t sl with h1|h1
 ·rw[h1]; exact h.slot t
 ·rw[h1,VR]; simp,h.defers⟩
theorem Ext.bWF {w' G' μ'}(e:Ext n0 w G aH w' G' μ'):Ext n0 w G aH w' G' aH :=
 ⟨⟨e.good,λ_ _ h=>h,λ_ _ h=>h,e.room,e.row,λ_ _ _=>rfl⟩,e.os,e.tape,e.output,e.size,e.old,e.new⟩
theorem a00 {E:Env} {keep:Nat} (hcl:dS P (gJ P E)) (hP:P.follows .mixedOrders=true) {c:Code} {sl:List Nat} {ex:Ex} {ps:List PV} {H':Heap} (hl:bA c=[]) (h:C1 P E nt keep (λ_=>none) c F H (kS sl)=some (ex,ps,H')) (hW:aX n0 G μ H w) (hF:fG w G μ nt F a) :
  c.wp P (λe a' w'=>e=ex.to/\∃ G' μ',Ext n0 w G aH w' G' aH/\aX n0 G' μ' H' w'/\fG w' G' μ' nt (sl.zip ps) a') a w:=by
 obtain⟨⟨ex1,F1,H1⟩,h1,h2⟩:=sZ hcl hP c _ _ _ _ (by rw[hl]; intro a ha; cases ha) h;simp only[kS,oJ,oP]at h1;obtain⟨rfl,rfl,rfl⟩:=h1;refine wp_mono (h2 n0 w G aH a w (λr=>⟨rfl,rfl⟩) (I.fresh hW hF)) ?_;rintro e a' w' ⟨rfl,G',μ',e',hW',hF'⟩;exact⟨rfl,G',μ',e'.bWF,hW',hF'.J5 sl⟩
theorem bP8 {E:Env} (hcl:dS P (gJ P E)) {ops:Array Oper} {l l2:List Oper} {sl:List Nat} {ps:List PV} {H':Heap} {Q:Exit->Act->World->Prop} (h:R7 P E nt ops.toList l F H (kO sl)=some (ps,H')) (hW:aX n0 G μ H w) (hF:fG w G μ nt F a)
  (hQ:∀ a' w' G' μ',Ext n0 w G aH w' G' aH->aX n0 G' μ' H' w'->fG w' G' μ' nt (sl.zip ps) a'->wpList P ops Q l2 a' w'):wpList P ops Q (l++l2) a w:=by
 obtain⟨F1,H1,h1,h2⟩:=IU h;simp only[kO,oJ,oP]at h2;obtain⟨rfl,rfl⟩:=h2;refine aXI hcl l F H a w h1 (I.fresh hW hF) λa' w' hI=>?_
 obtain⟨G',μ',e',hW',hF'⟩:=hI;exact hQ a' w' G' μ' e'.bWF hW' (hF'.J5 sl)
end
open Go Go.RowKit Go.Proofs Tryz
set_option maxHeartbeats 4000000
abbrev LLI:Ty:=.list (.list (.int .i64))
abbrev TmT:Ty:=.prod (.list (.int .i64)) (.prod LLI LLI)
abbrev GmT:Ty:=.prod TmT LLI
abbrev LaT:Ty:=.prod (.int .i64) LLI
abbrev FiT:Ty:=.prod GmT (.prod LaT .smap)
def sL:Code->Code
 | .seq x _=>x
 | c=>c
def sR:Code->Code
 | .seq _ y=>y
 | c=>c
def bB:Code->Code
 | .block _ c=>c
 | c=>c
def lL:Code->Code
 | .loop c=>c
 | c=>c
def rO:Code->Array Oper
 | .region _ ops _=>ops
 | _=>#[]
def cN:Code:=bY f86
def cN0:Code:=sL cN
def cN1:Code:=sL (sR cN)
def cN2:Code:=sL (sR (sR cN))
def cN3:Code:=sL (sL (sR (sR (sR cN))))
def cNb:Code:=lL (bB (sR (sL (sR (sR (sR cN))))))
def cN9:Code:=sL (sR (sR (sR (sR cN))))
def cN4:Code:=sL cNb
def cN5:Code:=sL (bB (sL (sR (sR cNb))))
def cN6:Code:=sL (sR (bB (sL (sR (sR cNb)))))
def cN7:Code:=sR (sR (bB (sL (sR (sR cNb)))))
def cN8:Code:=sR (sR (sR cNb))
def oN2:Array Oper:=rO cN2
def oN7:Array Oper:=rO cN7
theorem b1Z:cN=.seq cN0 (.seq cN1 (.seq cN2 (.seq (.seq cN3 (.block 0 (.loop cNb))) (.seq cN9 .ret)))):=by rfl
theorem bXM:cNb=.seq cN4 (.seq (.cond (.tmp 25) .skip (.exit 0)) (.seq (.block 1 (.seq cN5 (.seq cN6 cN7))) cN8)):=by rfl
theorem b0A:cN2=.region 2 oN2 false:=by kernel_rfl
theorem b0E:cN7=.region 7 oN7 false:=by kernel_rfl
abbrev EN:Env:=B1 [Y8,bD8]
theorem bH7:dN Tryz.prog EN:=aS ⟨KB,aZZ,trivial⟩
abbrev ntN:Nat:=f86.ntmps
abbrev kpN:Nat:=aP f86
abbrev iL(n:Int):PV:=.lit (.int .i64 n)
def HN1(g:GmT.den):Heap:=[some ⟨enc GmT g,38,false,false,none⟩,some ⟨(match N6 Tryz.prog 144 with|some z=>lits z.cells|none=>[]),144,false,false,none⟩]
def HN2(g:GmT.den)(la:LaT.den):Heap:=HN1 g++[some ⟨enc LaT la,105,false,false,none⟩]
def HN3(g:GmT.den)(la:LaT.den)(b:Nat):Heap:=HN2 g la++[some ⟨enc GmT g++(enc LaT la++[.lit (.map (some b))]),144,false,false,none⟩]
def HN9(g:GmT.den)(la:LaT.den)(b:Nat):Heap:=[some ⟨enc GmT g,38,false,false,none⟩,some ⟨enc GmT g++(enc LaT la++[.lit (.map (some b))]),144,false,false,none⟩,some ⟨enc LaT la,105,false,false,none⟩,some ⟨enc GmT g++(enc LaT la++[.lit (.map (some b))]),144,false,false,none⟩]
theorem b3W(g:GmT.den):C1 Tryz.prog EN ntN kpN (λ_=>none) cN0 (start kpN 0 [.agg (enc GmT g)]) [] (kS [1,2,3])=some (.normal,[.hptr 0 0,.hptr 1 0,iL 0],HN1 g):=by kernel_rfl
def FN1:Frm:=[(1,.hptr 0 0),(2,.hptr 1 0),(3,iL 0)]
theorem b3M(g:GmT.den):C1 Tryz.prog EN ntN kpN (λ_=>none) cN1 FN1 (HN1 g) (kS [1,2,4,5])=aB (iG ((g.1.1,(g.1.2.1,g.1.2.2)),())) λy=>some (.normal,[.hptr 0 0,.hptr 1 0,.hptr 2 0,iL y.2.1],HN2 g y.1):=by kernel_rfl
def FN2(e:Int):Frm:=[(1,.hptr 0 0),(2,.hptr 1 0),(4,.hptr 2 0),(5,iL e)]
theorem b3V(g:GmT.den)(la:LaT.den)(e:Int):R7 Tryz.prog EN ntN oN2.toList (oN2.toList.take 2) (FN2 e) (HN2 g la) (kO [1,2,5,17,18])=some ([.hptr 0 0,.hptr 1 0,iL e,.agg (enc GmT g),.agg (enc LaT la)],HN2 g la):=by kernel_rfl
def omk:Oper:=oN2.toList.getD 2 ⟨none,.nilCheck (.const undef),0,"",#[],none⟩
theorem b0J:oN2.toList=oN2.toList.take 2++(omk::oN2.toList.drop 3):=by rfl
theorem bML:omk.op=.makeMap 142 none/\omk.dst=some 19/\omk.guard=none:=⟨by kernel_rfl,by kernel_rfl,by kernel_rfl⟩
def b1V(g:GmT.den)(la:LaT.den)(e:Int)(b:Nat):Frm:=[(19,.lit (.map (some b))),(1,.hptr 0 0),(2,.hptr 1 0),(5,iL e),(17,.agg (enc GmT g)),(18,.agg (enc LaT la))]
theorem b1Y(g:GmT.den)(la:LaT.den)(e:Int)(b:Nat):R7 Tryz.prog EN ntN oN2.toList (oN2.toList.drop 3) (b1V g la e b) (HN2 g la) (kO [1,2,5,6])=some ([.hptr 0 0,.hptr 1 0,iL e,.hptr 3 0],HN3 g la b):=by kernel_rfl
def FN3(e:Int):Frm:=[(1,.hptr 0 0),(2,.hptr 1 0),(5,iL e),(6,.hptr 3 0)]
theorem b3D(g:GmT.den)(la:LaT.den)(e:Int)(b:Nat):C1 Tryz.prog EN ntN kpN (λ_=>none) cN3 (FN3 e) (HN3 g la b) (kS [2,5,6,22,23,24])=some (.normal,[.hptr 1 0,iL e,.hptr 3 0,zX (.list (.int .i64)) g.2 none,iL (g.2.length:Int),iL 0],HN3 g la b):=by kernel_rfl
def FN4(l:List (List Int))(e i:Int):Frm:=[(2,.hptr 1 0),(5,iL e),(6,.hptr 3 0),(22,zX (.list (.int .i64)) l none),(23,iL l.length),(24,iL i)]
theorem b1U(H:Heap)(l:List (List Int))(e i:Int):C1 Tryz.prog EN ntN kpN (λ_=>none) cN4 (FN4 l e i) H (kS [2,5,6,22,23,24,25])=some (.normal,[.hptr 1 0,iL e,.hptr 3 0,zX (.list (.int .i64)) l none,iL (l.length:Int),iL i,.lit (.bool (ltI i (l.length:Int)))],H):=by kernel_rfl
theorem b3G(H:Heap)(l:List (List Int))(e i:Int):C1 Tryz.prog EN ntN kpN (λ_=>none) cN5 (FN4 l e i) H (kS [2,5,6,22,23,24,7,8])=bif aE i l.length then some (.normal,[.hptr 1 0,iL e,.hptr 3 0,zX (.list (.int .i64)) l none,iL (l.length:Int),iL i,iL i,zX (.int .i64) (l.getD i.toNat []) none],H) else none:=by kernel_rfl
def FN5(l:List (List Int))(e i:Int)(r:List Int):Frm:=[(2,.hptr 1 0),(5,iL e),(6,.hptr 3 0),(22,zX (.list (.int .i64)) l none),(23,iL l.length),(24,iL i),(7,iL i),(8,zX (.int .i64) r none)]
theorem b3R(H:Heap)(l:List (List Int))(e i:Int)(r:List Int):C1 Tryz.prog EN ntN kpN (λ_=>none) cN6 (FN5 l e i r) H (kS [2,5,6,22,23,24,7,9])=aB (OI (r,true,())) λy=>some (.normal,[.hptr 1 0,iL e,.hptr 3 0,zX (.list (.int .i64)) l none,iL (l.length:Int),iL i,iL i,.lit (.string y.1)],H):=by kernel_rfl
def FN6(l:List (List Int))(e i:Int)(s:ByteArray):Frm:=[(2,.hptr 1 0),(5,iL e),(6,.hptr 3 0),(22,zX (.list (.int .i64)) l none),(23,iL l.length),(24,iL i),(7,iL i),(9,.lit (.string s))]
theorem b3K(g:GmT.den)(la:LaT.den)(b:Nat)(l:List (List Int))(e i:Int)(s:ByteArray):R7 Tryz.prog EN ntN oN7.toList (oN7.toList.take 4) (FN6 l e i s) (HN3 g la b) (kO [2,5,6,22,23,24,35,36,37])=some ([.hptr 1 0,iL e,.hptr 3 0,zX (.list (.int .i64)) l none,iL (l.length:Int),iL i,.lit (.map (some b)),.lit (.string s),iL i],HN3 g la b):=by kernel_rfl
def omu:Oper:=oN7.toList.getD 4 ⟨none,.nilCheck (.const undef),0,"",#[],none⟩
theorem b1C:oN7.toList=oN7.toList.take 4++[omu]:=by rfl
theorem bNB:omu.op=.mapUpdate 142 (.tmp 35) (.tmp 36) (.tmp 37)/\omu.dst=none/\omu.guard=none:=⟨by kernel_rfl,by kernel_rfl,by kernel_rfl⟩
theorem b3B(H:Heap)(l:List (List Int))(e i:Int):C1 Tryz.prog EN ntN kpN (λ_=>none) cN8 (FN4 l e i) H (kS [2,5,6,22,23,24])=some (.normal,[.hptr 1 0,iL e,.hptr 3 0,zX (.list (.int .i64)) l none,iL (l.length:Int),iL (aA .i64 (i+1))],H):=by kernel_rfl
def FN9(e:Int):Frm:=[(2,.hptr 1 0),(5,iL e),(6,.hptr 3 0)]
theorem b3O(g:GmT.den)(la:LaT.den)(b:Nat)(e:Int):C1 Tryz.prog EN ntN kpN (λ_=>none) cN9 (FN9 e) (HN3 g la b) (kS [2,3])=some (.normal,[.hptr 1 0,iL e],HN9 g la b):=by kernel_rfl
theorem b3P(g:GmT.den)(la:LaT.den)(b:Nat)(e:Int):yG Tryz.prog [(2,.hptr 1 0),(3,iL e)] (HN9 g la b) f86.results.toList=some [.agg (enc GmT g++(enc LaT la++[.lit (.map (some b))])),iL e]:=by kernel_rfl
theorem b3L:∃ kt et,Tryz.prog.underlying 142=some (.map kt et)/\Tryz.prog.underlying kt=some .string:=by
 have h:bAA Tryz.prog 142=true:=by kernel_rfl
 unfold bAA at h;split at h
 ·rename_i k e hk;split at h
  ·rename_i hs;exact⟨k,e,hk,hs⟩
  ·cases h
 ·cases h
end Go.PM
namespace Go.PM
open Go Go.RowKit Go.Proofs Tryz
set_option maxHeartbeats 4000000
def txs:List (List Int)->Nat->List (ByteArray×Int)->Option (List (ByteArray×Int))
 | [],_,L=>some L
 | r::l,i,L=>aB (OI (r,true,())) λy=>bif YH L y.1 then none else txs l (i+1) (L++[(y.1,(i:Int))])
def qS(x:aM [.agg GmT]):oK [.agg FiT,.int .i64]:=match x with
 | (g,())=>aB (iG ((g.1.1,(g.1.2.1,g.1.2.2)),())) λy=>bif Nat.ble g.2.length 1048576 then aB (txs g.2 0 []) λL=>some ((g,(y.1,L)),y.2.1,()) else none
def SN(n0:Nat->Prop) (w0:World) (G0:Gd) (b:Nat) (H:Heap) (F:Frm) (L:List (ByteArray×Int)) (a:Act) (w:World):Prop :=
 ∃ G μ,Ext n0 w0 G0 aH w G aH/\aX (a88 n0 b) G μ H w/\fG w G μ ntN F a/\b2W w b L/\n0 b/\¬ G b
section
variable {n0:Nat->Prop} {w0 w:World} {G0:Gd} {b:Nat} {H H':Heap} {F:Frm} {L:List (ByteArray×Int)} {a:Act}
theorem SN.J5 (h:SN n0 w0 G0 b H F L a w)(sl:List Nat):SN n0 w0 G0 b H (sl.zip (sl.map (cR F))) L a w:=by
 obtain⟨G,μ,E,hW,hF,m,hn,hG⟩:=h;exact⟨G,μ,E,hW,hF.J5 sl,m,hn,hG⟩
theorem SN.piece {c:Code}{sl:List Nat}{ex:Ex}{ps:List PV}(hl:bA c=[])(h:C1 Tryz.prog EN ntN kpN (λ_=>none) c F H (kS sl)=some (ex,ps,H'))(hS:SN n0 w0 G0 b H F L a w):c.wp Tryz.prog (λe a' w'=>e=ex.to/\SN n0 w0 G0 b H' (sl.zip ps) L a' w') a w:=by
 obtain⟨G,μ,E,hW,hF,⟨es,clk,m1,m2⟩,hn,hG⟩:=hS;refine wp_mono (a00 bH7.callee aQ.mixed hl h hW hF) ?_;rintro e a' w' ⟨rfl,G',μ',e',hW',hF'⟩;obtain⟨k1,k2⟩:=bH0 e' (gN m1) hG;exact⟨rfl,G',μ',E.trans e'.bPG,hW',hF',⟨es,clk,k1.trans m1,m2⟩,hn,k2⟩
theorem SN.ops {ops:Array Oper}{l l2:List Oper}{sl:List Nat}{ps:List PV}{Q:Exit->Act->World->Prop}(h:R7 Tryz.prog EN ntN ops.toList l F H (kO sl)=some (ps,H'))(hS:SN n0 w0 G0 b H F L a w)(hQ:∀ a' w',SN n0 w0 G0 b H' (sl.zip ps) L a' w'->wpList Tryz.prog ops Q l2 a' w'):wpList Tryz.prog ops Q (l++l2) a w:=by
 obtain⟨G,μ,E,hW,hF,⟨es,clk,m1,m2⟩,hn,hG⟩:=hS;refine bP8 bH7.callee h hW hF λa' w' G' μ' e' hW' hF'=>hQ a' w' ?_
 obtain⟨k1,k2⟩:=bH0 e' (gN m1) hG;exact⟨G',μ',E.trans e'.bPG,hW',hF',⟨es,clk,k1.trans m1,m2⟩,hn,k2⟩
theorem SN.lit {t v}(h:SN n0 w0 G0 b H F L a w)(hf:cR F t=.lit v):a.eval (.tmp t)=v:=by
 obtain⟨G,μ,E,hW,hF,m,hn,hG⟩:=h;have:=cT hF (.tmp t);rw[show ev F (.tmp t)=.lit v from hf,VR]at this;omega
theorem SN.put (h:SN n0 w0 G0 b H F L a w){s:ByteArray}{n:Int}(hs:YH L s=false)(h35:cR F 35=.lit (.map (some b)))(h36:cR F 36=.lit (.string s))(h37:cR F 37=iL n) :
  ∃ w',(execOp a.eval omu).run Tryz.prog w=.ok .skip w'/\SN n0 w0 G0 b H F (L++[(s,n)]) a w':=by
 have e1:=h.lit h35;have e2:=h.lit h36;have e3:=h.lit h37;obtain⟨G,μ,E,hW,hF,⟨es,clk,m1,m2⟩,hn,hG⟩:=h;obtain⟨kt,et,u1,u2⟩:=b3L;have hr:=bKT (P:=Tryz.prog) u1 u2 m1 m2 hs n;obtain⟨x1,x2,x3,x4⟩:=bZI (nt:=ntN) (es':=es.push { key:=.string s,val:=.int .i64 n,born:=clk }) (clk':=clk+1) hW hn hG m1;refine⟨_,?_,G,μ,E.trans x1,x2,x3 hF,⟨_,_,x4,?_⟩,hn,hG⟩
 ·simp[execOp,bNB.1,e1,e2,e3,hr]
 ·rw[Array.toList_push,List.map_append,m2,List.map_append]; rfl
theorem b1I {g:GmT.den} {la:LaT.den} {e:Int} {i:Nat} {r:List Int} {y:aM [.str,.int .i64]} (hi:i<g.2.length) (hlen:g.2.length<=1048576) (hr:g.2.getD i []=r) (hy:OI (r,true,())=some y) (hs:YH L y.1=false) {Q:Exit->Act->World->Prop}
  (hS:SN n0 w0 G0 b (HN3 g la b) (FN4 g.2 e i) L a w) (hQ:∀ a' w',SN n0 w0 G0 b (HN3 g la b) (FN4 g.2 e ((i+1:Nat):Int)) (L++[(y.1,(i:Int))]) a' w'->Q .normal a' w'):cNb.wp Tryz.prog Q a w:=by
 have hlt:ltI (i:Int) (g.2.length:Int)=true:=by rw[aF]; exact oT (by omega)
 have hix:aE (i:Int) g.2.length=true:=by rw[aL]; exact oT (by omega)
 rw[bXM];refine wp_seq (wp_mono (hS.piece (by kernel_rfl) (b1U _ _ _ _)) ?_);rintro e1 a1 w1 ⟨rfl,hS1⟩;refine wp_seq (wp_cond_true ?_ (wp_skip ?_))
 ·have:=hS1.lit (t:=25) (v:=.bool (ltI (i:Int) (g.2.length:Int))) rfl;rw[hlt]at this; exact this
 refine wp_seq (wp_block (wp_seq (wp_mono ((hS1.J5 [2,5,6,22,23,24]).piece (sl:=[2,5,6,22,23,24,7,8]) (ps:=[.hptr 1 0,iL e,.hptr 3 0,zX (.list (.int .i64)) g.2 none,iL (g.2.length:Int),iL i,iL i,zX (.int .i64) r none]) (H':=HN3 g la b) (ex:=.normal) (by kernel_rfl) ?_) ?_)))
 ·have:=b3G (HN3 g la b) g.2 e i;rw[hix,oC,oN,hr]at this;exact this
 rintro e2 a2 w2 ⟨rfl,hS2⟩;refine wp_seq (wp_mono (hS2.piece (sl:=[2,5,6,22,23,24,7,9]) (ps:=[.hptr 1 0,iL e,.hptr 3 0,zX (.list (.int .i64)) g.2 none,iL (g.2.length:Int),iL i,iL i,.lit (.string y.1)]) (H':=HN3 g la b) (ex:=.normal) (by kernel_rfl) ?_) ?_)
 ·have:=b3R (HN3 g la b) g.2 e i r;rw[hy]at this;exact this
 rintro e3 a3 w3 ⟨rfl,hS3⟩;show cN7.wp Tryz.prog _ a3 w3;rw[b0E];refine wp_region_list ?_;rw[b1C];refine hS3.ops (b3K g la b g.2 e i y.1) λa4 w4 hS4=>?_
 obtain⟨w5,hx,hS5⟩:=hS4.put hs rfl rfl rfl;unfold wpList;rw[if_pos (by simp[Region.wanted,bNB.2.2])];refine .inl ?_;unfold Oper.wp;rw[hx];rw[Oper.upon_skip,bNB.2.1];have hS6:SN n0 w0 G0 b (HN3 g la b) ([2,5,6,22,23,24].zip [.hptr 1 0,iL e,.hptr 3 0,zX (.list (.int .i64)) g.2 none,iL (g.2.length:Int),iL i]) (L++[(y.1,(i:Int))]) (a4.put none undef) w5:=by
  obtain⟨G,μ,E,hW,hF,m,hn,hG⟩:=hS5.J5 [2,5,6,22,23,24];exact⟨G,μ,E,hW,hF.aXJ (d:=none) (p:=.junk) rfl (by rw[VR]; trivial),m,hn,hG⟩
 show cN8.wp Tryz.prog Q (a4.put none undef) w5;refine wp_mono (hS6.piece (sl:=[2,5,6,22,23,24]) (ps:=[.hptr 1 0,iL e,.hptr 3 0,zX (.list (.int .i64)) g.2 none,iL (g.2.length:Int),iL ((i+1:Nat):Int)]) (H':=HN3 g la b) (ex:=.normal) (by kernel_rfl) ?_) ?_
 ·have:=b3B (HN3 g la b) g.2 e i;rw[wrap64 (by omega) (by omega)]at this;exact this
 rintro e7 a7 w7 ⟨rfl,hS7⟩;exact hQ a7 w7 hS7
theorem bWB {g:GmT.den} {la:LaT.den} {e:Int} (hlen:g.2.length<=1048576) {Lf:List (ByteArray×Int)} (hL:txs g.2 0 []=some Lf) {Q:Exit->Act->World->Prop}
  (hS:SN n0 w0 G0 b (HN3 g la b) (FN4 g.2 e 0) [] a w) (hQ:∀ a' w',SN n0 w0 G0 b (HN3 g la b) (FN9 e) Lf a' w'->Q .normal a' w'):(Code.block 0 (.loop cNb)).wp Tryz.prog Q a w:=by
 refine wp_block (wp_loop_ghost (λk a w=>∃ (rest:List (List Int)) (i:Nat) (L:List (ByteArray×Int)),k=rest.length/\txs rest i L=some Lf/\g.2.drop i=rest/\i<=g.2.length/\SN n0 w0 G0 b (HN3 g la b) (FN4 g.2 e i) L a w) g.2.length ⟨g.2,0,[],rfl,hL,rfl,Nat.zero_le _,hS⟩ ?_);rintro k a w ⟨rest,i,L,rfl,ht,hd,hi,hS⟩;cases rest with
 | nil =>
  have hge:g.2.length<=i:=List.drop_eq_nil_iff.1 hd;obtain rfl:=oB ht;have hlt:ltI (i:Int) (g.2.length:Int)=false:=by rw[aF]; exact oF (by omega)
  rw[bXM];refine wp_seq (wp_mono (hS.piece (by kernel_rfl) (b1U _ _ _ _)) ?_);rintro e1 a1 w1 ⟨rfl,hS1⟩;refine wp_seq (wp_cond_false ?_ (wp_exit ?_))
  ·have:=hS1.lit (t:=25) (v:=.bool (ltI (i:Int) (g.2.length:Int))) rfl;rw[hlt]at this; exact this
  ·exact hQ a1 w1 (hS1.J5 [2,5,6])
 | cons r rest =>
  have hlt:i<g.2.length:=by
   rcases oG i g.2.length with h|h
   ·exact h
   ·rw[List.drop_eq_nil_of_le h]at hd; cases hd
  have hdr:=List.drop_eq_getElem_cons hlt;rw[hd]at hdr;obtain⟨rfl,hd2⟩:=List.cons.inj hdr;simp only[txs]at ht;obtain⟨y,hy,ht⟩:=wA ht;cases hh:YH L y.1 with
  | true=>rw[hh]at ht; cases ht
  | false =>
   rw[hh,oD]at ht;refine b1I hlt hlen (by rw[oQ,List.getElem?_eq_getElem hlt]; rfl) hy hh hS λa' w' hS'=>?_
   exact⟨rest.length,by simp,rest,i+1,_,rfl,ht,hd2.symm,hlt,hS'⟩
end
theorem aT6:WA Tryz.prog 86 [.agg GmT] [.agg FiT,.int .i64] qS:=by
 rintro⟨g,⟨⟩⟩ z hz;unfold qS at hz;dsimp only at hz;obtain⟨y,hy,hz⟩:=wA hz;obtain⟨hlen,hz⟩:=aJ hz;have hlen:=oL hlen;obtain⟨L,hL,hz⟩:=wA hz;obtain rfl:=oB hz;intro w0 G us hlt hv;have hc:f86.body=some cN:=by kernel_rfl
 refine⟨enters func86 (by kernel_rfl) (by kernel_rfl) _ _,calls_of_wp func86 hc ?_⟩;have hW0:aX (RL w0) (Gd.of G) aH [] w0:=⟨λr k b h=>by simp at h,λr k g h=>by simp at h,λr s k l b h=>by simp at h,hlt,λ_ _=>⟨rfl,rfl⟩,λ_ h=>h,BU.none _ _ (λ_=>rfl) _ _ (λr k h=>by simp at h)⟩;have hF0:fG w0 (Gd.of G) aH ntN (start kpN 0 [.agg (enc GmT g)]) ⟨us++Array.replicate (ntN-us.size) undef,[]⟩:=E6 hv (by show 1<=ntN; exact oL (by kernel_rfl))
 suffices h:cN.wp Tryz.prog (λe a' w'=>e=.ret/\∃ b,SN (RL w0) w0 (Gd.of G) b (HN9 g y.1 b) [(2,.hptr 1 0),(3,iL y.2.1)] L a' w') ⟨us++Array.replicate (ntN-us.size) undef,[]⟩ w0 by
  refine wp_mono h ?_;rintro e a' w' ⟨rfl,b,G1,μ1,E,hW1,hF1,⟨es,clk,m1,m2⟩,hn,hG1⟩;obtain⟨ws,h3,h4⟩:=uB (P:=Tryz.prog) hW1 hF1 (b3P g y.1 b y.2.1);have hres:(results f86 a'.tmps).run Tryz.prog w'=.ok (if hh:ws.toArray.size=1 then ws.toArray[0] else .tuple ws.toArray) w':=by
   rw[J0,Array.mapM_eq_mapM_toList];simp only[Sem.run_bind,Sem.run_map,h3,Result.andThen_ok,Sem.run_pure]
  have hvr:=xE h4;refine⟨hF1.defers,_,hres,_,λc=>G1 c\/c=b,rfl,?_,?_,?_⟩
  ·exact {
    good:=λc hc=>⟨.inl (E.good c hc).1,(E.good c hc).2⟩
    map:=λ_ _ h=>h
    len:=λ_ _ h=>h
    sh:=λ_ _ h=>(by cases h)
    room:=E.room
    row:=λ_ _ h=>h
    os:=E.os
    tape:=E.tape
    output:=E.output
    size:=E.size
    old:=E.old
    new:=λc hc=>by
     rcases hc with hc|rfl
     ·exact E.new c hc
     ·exact .inr hn }
  ·rintro c (hc|rfl)
   ·exact hW1.lt c hc
   ·exact gN m1
  ·have hgood:∀ (ps:List PV) (vs:List Value),eM.noRefs ps=true->gP.noRows ps=true->VRs w' G1 μ1 ps vs->VRs w' (Gd.of λc=>G1 c\/c=b) aH ps vs:=λps vs n1 n2 h=>by
    have:=CC (G:=G1) (G':=Gd.of G1.ok) (λb h=>h) _ _ _ n2 (cZ _ _ n1 h);exact VRs.mono (a6L (g:=G1.ok) (G:=Gd.of λc=>G1 c\/c=b) (λc h=>.inl h) (μ:=aH)) _ _ this
   change VR w' G1 μ1 (.tuple [.agg (enc GmT g++(enc LaT y.1++[.lit (.map (some b))])),iL y.2.1]) _ at hvr;show VR w' (Gd.of λc=>G1 c\/c=b) aH (.tuple [.agg (enc GmT g++(enc LaT y.1++[.tm L])),iL y.2.1]) _;rw[VR]at hvr ⊢;obtain⟨vs,e1,e2⟩:=hvr;refine⟨vs,e1,?_⟩;rw[VRs]at e2 ⊢;obtain⟨x,xs,q1,q2,q3⟩:=e2;refine⟨x,xs,q1,?_,hgood _ _ rfl rfl q3⟩;rw[VR]at q2 ⊢;obtain⟨us2,r1,r2⟩:=q2;refine⟨us2,r1,?_⟩;have t1:=r2.take 6
   have t2:=r2.drop 6;have s1:(enc GmT g++(enc LaT y.1++[PV.lit (.map (some b))])).take 6=enc GmT g++enc LaT y.1:=rfl;have s2:(enc GmT g++(enc LaT y.1++[PV.lit (.map (some b))])).drop 6=[PV.lit (.map (some b))]:=rfl;rw[s1]at t1;rw[s2]at t2;have t3:=hgood _ _ rfl rfl t1;rw[<- List.take_append_drop 6 us2.toList];rw[<- List.append_assoc];refine VRs.append t3 ?_;rw[VRs]at t2 ⊢;obtain⟨v,vs3,p1,p2,p3⟩:=t2
   rw[VR]at p2;rw[VRs]at p3;subst p2;refine⟨_,vs3,p1,?_,by rw[VRs]; exact p3⟩;rw[VR];exact⟨b,es,clk,rfl,.inr rfl,m1,m2⟩
 rw[b1Z];refine wp_seq (wp_mono (a00 bH7.callee aQ.mixed (by kernel_rfl) (b3W g) hW0 hF0) ?_);rintro e1 a1 w1 ⟨rfl,G1,μ1,x1,hW1,hF1⟩;have h1:C1 Tryz.prog EN ntN kpN (λ_=>none) cN1 FN1 (HN1 g) (kS [1,2,4,5])=some (.normal,[.hptr 0 0,.hptr 1 0,.hptr 2 0,iL y.2.1],HN2 g y.1):=by rw[b3M,hy]; rfl
 refine wp_seq (wp_mono (a00 bH7.callee aQ.mixed (by kernel_rfl) h1 hW1 hF1) ?_);rintro e2 a2 w2 ⟨rfl,G2,μ2,x2,hW2,hF2⟩;refine wp_seq ?_;rw[b0A];refine wp_region_list ?_;rw[b0J];refine bP8 bH7.callee (b3V g y.1 y.2.1) hW2 hF2 λa3 w3 G3 μ3 x3 hW3 hF3=>?_
 unfold wpList;rw[if_pos (by simp[Region.wanted,bML.2.2])];refine .inl ?_;unfold Oper.wp;have hx:(execOp a3.eval omk).run Tryz.prog w3=.ok (.value (.map (some w3.heap.size))) (w3.alloc (.map #[] 0)):=by simp[execOp,bML.1,Instr.makeMap]
 rw[hx];rw[Oper.upon_value,bML.2.1];obtain⟨y1,y2,y3,y4,y5,y6⟩:=bYY (nt:=ntN) hW3;have hS:SN (RL w0) w0 (Gd.of G) w3.heap.size (HN2 g y.1) (b1V g y.1 y.2.1 w3.heap.size) [] (a3.put (some 19) (.map (some w3.heap.size))) (w3.alloc (.map #[] 0)) :=
  ⟨G3,μ3,((x1.trans x2).trans x3).trans y1,y2,(y3 hF3).aXJ (d:=some 19) (p:=.lit (.map (some w3.heap.size))) (by kernel_rfl) (by rw[VR]),⟨_,_,y4,rfl⟩,y5,y6⟩
 rw[<- List.append_nil (oN2.toList.drop 3)];refine hS.ops (b1Y g y.1 y.2.1 _) λa4 w4 hS4=>?_
 show (Code.seq (.seq cN3 (.block 0 (.loop cNb))) (.seq cN9 .ret)).wp Tryz.prog _ a4 w4;refine wp_seq (wp_seq (wp_mono (hS4.piece (by kernel_rfl) (b3D g y.1 y.2.1 _)) ?_));rintro e5 a5 w5 ⟨rfl,hS5⟩;refine bWB hlen hL hS5 λa6 w6 hS6=>?_
 show (Code.seq cN9 .ret).wp Tryz.prog _ a6 w6;refine wp_seq (wp_mono (hS6.piece (by kernel_rfl) (b3O g y.1 _ y.2.1)) ?_);rintro e7 a7 w7 ⟨rfl,hS7⟩;exact wp_ret ⟨rfl,_,hS7⟩
abbrev UQ:Ent:=⟨86,[.agg GmT],[.agg FiT,.int .i64],qS⟩
theorem YQ:Ent.OK Tryz.prog UQ:=aT6
end Go.PM
namespace Go.PM
open Go Go.RowKit Go.Proofs Tryz
abbrev b2Z:Shr:=(115,bWD)
theorem bY5:sT Tryz.prog b2Z:=λ_ _ _ h=>bXN (enters func115 (by kernel_rfl) (by kernel_rfl)) Tryz.slices_Sort_int Tryz.slices_Sort_int_none h
abbrev b1M:Shr:=(116,bAF)
theorem bX2:sT Tryz.prog b1M:=λ_ _ _ h=>bJE (enters func116 (by kernel_rfl) (by kernel_rfl)) (λl=>Lib.compact_length_le l) Tryz.slices_Compact_int Tryz.slices_Compact_int_empty h
set_option maxHeartbeats 4000000
def vV(x:aM [.agg TyU,.int .i64,.list TyE]):oK [.list TyE,.int .i64,.bool,.int .i64]:=match x with
 | (v0,v1,v2,()) =>
  aB (gW (v0.1.1,v2,())) λy1 =>
  bif eqI y1.2.1 0 then
   bif aE v1 v0.1.2.length then aB (aBB (y1.1,(v0.1.2.getD v1.toNat []),())) λy2 =>
   bif eqI y2.2.1 0 then
    aB (gD (v0.2.1,y2.1,())) λy3 =>
    bif !(eqI y3.2.1 0) then
     some ([],0,false,y3.2.1,())
    else aB (OI (y3.1,true,())) λy4 =>
    some (y3.1,(getM v0.2.2 y4.1),YH v0.2.2 y4.1,0,())
   else bif !(eqI y2.2.1 0) then
    some ([],0,false,y2.2.1,())
   else aB (OI (y2.1,true,())) λy5 =>
   some (y2.1,(getM v0.2.2 y5.1),YH v0.2.2 y5.1,0,()) else none
  else bif eqI y1.2.1 0 then
   aB (gD (v0.2.1,y1.1,())) λy6 =>
   bif !(eqI y6.2.1 0) then
    some ([],0,false,y6.2.1,())
   else aB (OI (y6.1,true,())) λy7 =>
   some (y6.1,(getM v0.2.2 y7.1),YH v0.2.2 y7.1,0,())
  else bif !(eqI y1.2.1 0) then
   some ([],0,false,y1.2.1,())
  else aB (OI (y1.1,true,())) λy8 =>
  some (y1.1,(getM v0.2.2 y8.1),YH v0.2.2 y8.1,0,())
abbrev QE:Ent:=⟨87,_,_,vV⟩
theorem VJ:Ent.OK tP QE:=oI (aS (oV GF (oV aR3 (oV aZZ (oV DU oW))))) func87 (by kernel_rfl) (by rintro⟨v0,v1,v2,⟨⟩⟩; kernel_rfl)
abbrev HS:List (Nat×Kd):=[(1,.box 41 TyJ),(5,.box 144 TyU),(7,.own 124 TyL),(8,.int .i64),(9,.list TyD),(10,.int .i64),(11,.bag 124 TyO 3 TyE none),(12,.bool),(34,.list TyC),(35,.int .i64),(36,.int .i64),(44,.int .i64),(45,.int .i64),(52,.list TyD),(53,.int .i64),(54,.int .i64)]
abbrev N4:List (Ex×List (Nat×Kd)):=[(.ret,[(2,.list TyL),(3,.int .i64)]),(.exit 4,[(1,.box 41 TyJ),(5,.box 144 TyU),(7,.own 124 TyL),(8,.int .i64),(9,.list TyD),(11,.bag 124 TyO 3 TyE none),(12,.bool),(34,.list TyC),(35,.int .i64),(36,.int .i64),(44,.int .i64),(45,.int .i64)])]
def B7(x:Shape.den HS):oS HS N4:=match x with
 | (v1,v5,v7,v8,v9,v10,v11,v12,v34,v35,v36,v44,v45,v52,v53,v54,()) =>
  bif ltI v54 v53 then
   bif aE v54 v52.length then aB (vV (v5,v10,(v52.getD v54.toNat []),())) λy4 =>
   bif !(eqI y4.2.2.2.1 0) then
    some (.inr (.inl ([],y4.2.2.2.1,())))
   else bif v12 then
    bif Nat.ble [y4.2.1].length 1048576 then bif Nat.ble v11.2.1.length 1048576 then some (.inl (v1,v5,v7,v8,v9,v10,(v11.1,((v11.2.1++[y4.2.1]),())),y4.2.2.1,v34,v35,v36,v44,v45,v52,v53,(aA .i64 (v54+1)),())) else none else none
   else bif Nat.ble [y4.2.1].length 1048576 then bif Nat.ble v11.2.1.length 1048576 then some (.inl (v1,v5,v7,v8,v9,v10,(v11.1,((v11.2.1++[y4.2.1]),())),false,v34,v35,v36,v44,v45,v52,v53,(aA .i64 (v54+1)),())) else none else none else none
  else some (.inr (.inr ((v1,v5,v7,v8,v9,(v11.1,(v11.2.1,())),v12,v34,v35,v36,v44,v45,()))))
def PQ(x:Shape.den HS):oX N4:=aV B7 (2^64) x
abbrev HR:List (Nat×Kd):=[(1,.box 41 TyJ),(5,.box 144 TyU),(7,.own 124 TyL),(8,.int .i64),(9,.list TyD),(34,.list TyC),(35,.int .i64),(36,.int .i64),(44,.int .i64),(45,.int .i64)]
abbrev N1:List (Ex×List (Nat×Kd)):=[(.ret,[(2,.list TyL),(3,.int .i64)]),(.exit 2,[(1,.box 41 TyJ),(5,.box 144 TyU),(7,.own 124 TyL),(34,.list TyC),(35,.int .i64),(36,.int .i64)])]
def B5(x:Shape.den HR):oS HR N1:=match x with
 | (v1,v5,v7,v8,v9,v34,v35,v36,v44,v45,()) =>
  bif ltI v45 v44 then
   aB (PQ (v1,v5,v7,v8,v9,v45,((v8,v45),([],())),true,v34,v35,v36,v44,v45,v9,(v9.length:Int),0,())) λz10 =>
   mN z10 (λa11=>some (.inr (.inl (a11.1,a11.2.1,())))) λb12 =>
   bif b12.2.2.2.2.2.2.1 then
    aB (bIV b12.2.2.2.2.2.1.2.1) λy13 =>
    aB (aS5 y13) λy14 =>
    bif Nat.ble [(b12.2.2.2.2.2.1.1,y14)].length 1048576 then bif Nat.ble b12.2.2.1.length 1048576 then some (.inl (b12.1,b12.2.1,(b12.2.2.1++[(b12.2.2.2.2.2.1.1,y14)]),b12.2.2.2.1,b12.2.2.2.2.1,b12.2.2.2.2.2.2.2.1,b12.2.2.2.2.2.2.2.2.1,b12.2.2.2.2.2.2.2.2.2.1,b12.2.2.2.2.2.2.2.2.2.2.1,(aA .i64 (b12.2.2.2.2.2.2.2.2.2.2.2.1+1)),())) else none else none
   else some (.inl (b12.1,b12.2.1,b12.2.2.1,b12.2.2.2.1,b12.2.2.2.2.1,b12.2.2.2.2.2.2.2.1,b12.2.2.2.2.2.2.2.2.1,b12.2.2.2.2.2.2.2.2.2.1,b12.2.2.2.2.2.2.2.2.2.2.1,(aA .i64 (b12.2.2.2.2.2.2.2.2.2.2.2.1+1)),()))
  else some (.inr (.inr ((v1,v5,v7,v34,v35,v36,()))))
def PO(x:Shape.den HR):oX N1:=aV B5 (2^64) x
abbrev HW:List (Nat×Kd):=[(1,.box 41 TyJ),(5,.box 144 TyU),(7,.own 124 TyL),(34,.list TyC),(35,.int .i64),(36,.int .i64)]
abbrev NX:List (Ex×List (Nat×Kd)):=[(.ret,[(2,.list TyL),(3,.int .i64)]),(.exit 0,[(7,.own 124 TyL)])]
def I1(x:Shape.den HW):oS HW NX:=match x with
 | (v1,v5,v7,v34,v35,v36,()) =>
  bif ltI v36 v35 then
   bif aE v36 v34.length then aB (PO (v1,v5,v7,v36,(v34.getD v36.toNat []),v34,v35,v36,(v1.1.2.length:Int),0,())) λz18 =>
   mN z18 (λa19=>some (.inr (.inl (a19.1,a19.2.1,())))) λb20 =>
   some (.inl (b20.1,b20.2.1,b20.2.2.1,b20.2.2.2.1,b20.2.2.2.2.1,(aA .i64 (b20.2.2.2.2.2.1+1)),())) else none
  else some (.inr (.inr ((v7,()))))
def PU(x:Shape.den HW):oX NX:=aV I1 (2^64) x
def gH(x:aM [.agg TyJ]):oK [.list TyL,.int .i64]:=match x with
 | (v0,()) =>
  aB (K4 (v0,())) λy1 =>
  bif !(eqI y1.1 0) then
   some ([],y1.1,())
  else aB (qS (v0.1,())) λy2 =>
  bif !(eqI y2.2.1 0) then
   some ([],y2.2.1,())
  else aB (PU (v0,y2.1,[],v0.2.1,(v0.2.1.length:Int),0,())) λz21 =>
  mN z21 (λa22=>some (a22.1,a22.2.1,())) λb23 =>
  bif ltI 200 (b23.1.length:Int) then
   some ([],4,())
  else some (b23.1,0,())
def aEN:Code:=bY f70
abbrev XX:Env:=RP [aIH,QE,UQ] [b2Z,b1M]
theorem UH:dN tP XX:=jH ⟨aKN,VJ,YQ,trivial⟩ ⟨bY5,bX2,trivial⟩
def Q3:Code:=inLoop (QF aEN 0)
def QI:Code:=inLoop (QF Q3 0)
def aIF:Code:=inLoop (QF QI 0)
def T8(id:Nat):Option cI:=bif Nat.beq id 17 then some ⟨HS,N4,PQ⟩ else bif Nat.beq id 12 then some ⟨HR,N1,PO⟩ else bif Nat.beq id 9 then some ⟨HW,NX,PU⟩ else none
def TV(id:Nat):Option cI:=none
theorem aW5:∀ x,TD tP XX 99 (xD f70) T8 TV false [] aIF HS N4 x=B7 x:=by
 rintro⟨v1,v5,v7,v8,v9,v10,v11,v12,v34,v35,v36,v44,v45,v52,v53,v54,⟨⟩⟩
 kernel_rfl
theorem aYG:H7 tP 99 false [] (.loop aIF) ⟨HS,N4,PQ⟩:=FI UH.callee aQ.mixed _ (nK (l:=[]) (by kernel_rfl) trivial) aW5
theorem a5J:dV QI=[.loop aIF]:=by kernel_rfl
theorem aWW:∀ x,TD tP XX 99 (xD f70) T8 TV false [] QI HR N1 x=B5 x:=by
 rintro⟨v1,v5,v7,v8,v9,v34,v35,v36,v44,v45,⟨⟩⟩
 kernel_rfl
theorem aYQ:H7 tP 99 false [] (.loop QI) ⟨HR,N1,PO⟩:=FI UH.callee aQ.mixed _ (nK a5J ⟨E7 (i:=17) (by kernel_rfl) rfl aYG,trivial⟩) aWW
theorem a5U:dV Q3=[.loop QI]:=by kernel_rfl
theorem aV2:∀ x,TD tP XX 99 (xD f70) T8 TV false [] Q3 HW NX x=I1 x:=by
 rintro⟨v1,v5,v7,v34,v35,v36,⟨⟩⟩
 kernel_rfl
theorem aZ3:H7 tP 99 false [] (.loop Q3) ⟨HW,NX,PU⟩:=FI UH.callee aQ.mixed _ (nK a5U ⟨E7 (i:=12) (by kernel_rfl) rfl aYQ,trivial⟩) aV2
theorem a2I:dV aEN=[.loop Q3]:=by kernel_rfl
theorem a5M:∀ x,a0L tP XX f70 (xD f70) T8 TV aEN [.agg TyJ] [.list TyL,.int .i64] x=gH x:=by
 rintro⟨v0,⟨⟩⟩
 kernel_rfl
abbrev aOX:Ent:=⟨70,_,_,gH⟩
theorem N5:Ent.OK tP aOX:=aJK aQ UH func70 (c:=aEN) (by kernel_rfl) (keep:=xD f70) (lt:=T8) (rt:=TV) (nK a2I ⟨E7 (i:=9) (by kernel_rfl) rfl aZ3,trivial⟩) a5M
end Go.PM
namespace Go.PM
open Go Go.RowKit Go.Proofs Tryz
set_option maxHeartbeats 4000000
def bG1 {t:Ty} (D:List t.den->Bool) (lt:List t.den->List t.den->Bool) (l:List (List t.den)):Option (List (List t.den)):=match l with
 | []=>some []
 | x::r=>aOV D lt (x::r)
def a6J(t:Ty)(ck:Kd)(D:List t.den->Bool)(lt:List t.den->List t.den->Bool)(args:List PV)(H:Heap):Option aV3:=match args with
 | [.own r sz,p]=>match iN H r with
  | some k=>match k.tag with
   | some g=>match KZ g.t (.list t) g.l with
    | some l=>match aUT ck p [] 0 with
     | some _=>bif Nat.beq sz 1&&!k.frozen then some ⟨List (List t.den),bG1 D lt l,λl'=>(.tuple [],H.set r (some ⟨aI (.list t) l',k.ty,k.grown,false,some ⟨.list t,l'⟩⟩))⟩ else none
     | none=>none
    | none=>none
   | none=>none
  | none=>none
 | _=>none
end Go.PM
namespace Go.PM
open Go Go.RowKit Go.Proofs Tryz
set_option maxHeartbeats 4000000
abbrev U5:List (Nat×Kd):=[(6,.own 63 TyO),(17,.list TyL),(18,.int .i64),(19,.int .i64)]
abbrev aHP:List (Ex×List (Nat×Kd)):=[(.exit 0,[(6,.own 63 TyO)])]
def IZ(x:Shape.den U5):oS U5 aHP:=match x with
 | (v6,v17,v18,v19,()) =>
  bif ltI v19 v18 then
   bif aE v19 v17.length then bif Nat.ble [((v17.getD v19.toNat ((0,0),[])).1.1,(v17.getD v19.toNat ((0,0),[])).1.2)].length 1048576 then bif Nat.ble v6.length 1048576 then some (.inl ((v6++[((v17.getD v19.toNat ((0,0),[])).1.1,(v17.getD v19.toNat ((0,0),[])).1.2)]),v17,v18,(aA .i64 (v19+1)),())) else none else none else none
  else some (.inr ((v6,())))
def QX(x:Shape.den U5):oX aHP:=aV IZ (2^64) x
def yU(x:aM [.agg TyJ]):oK [.list TyO,.int .i64]:=match x with
 | (v0,()) =>
  aB (gH (v0,())) λy1 =>
  bif !(eqI y1.2.1 0) then
   some ([],y1.2.1,())
  else aB (QX ([],y1.1,(y1.1.length:Int),0,())) λz2 =>
  some (z2.1,0,())
abbrev aQC:Ent:=⟨21,_,_,yU⟩
theorem UM:Ent.OK tP aQC:=oU (aS (oV N5 oW)) func21 6 (lp:=QX) rfl (by kernel_rfl) (by rintro⟨v6,v17,v18,v19,⟨⟩⟩; kernel_rfl) (by rintro⟨v0,⟨⟩⟩; kernel_rfl)
end Go.PM
namespace Go.PM
open Go Go.RowKit Go.Proofs Tryz
set_option maxHeartbeats 4000000
abbrev aY:List (Nat×Kd):=[(2,.bown 28 3 TyE),(4,.own 3 TyE),(6,.clo 130 [TyN,TyE,TyE])]
abbrev bJ:List (Ex×List (Nat×Kd)):=[(.normal,[(2,.bown 28 3 TyE)])]
def cQ(x:Shape.den aY)(e:aM [.int .i64]):oS aY bJ:=match x,e with
 | (v2,v4,v6,()),(e0,()) =>
  bif Nat.ble [e0].length 1048576 then bif Nat.ble v2.length 1048576 then some (.inl ((v2++[e0]),v4,(v6.1,v6.2.1,v6.2.2.1,()),())) else none else none
def gG(x:Shape.den aY):TZ [TyN,TyE,TyE]:=match x with
 | (v2,v4,v6,())=>(v6.1,v6.2.1,v6.2.2.1,())
def cM(x:Shape.den aY):oX bJ:=a2H aY bJ (λx=>bNC (gG x)) cQ x
def cW(x:aM [.nil0,.clo 130 [TyN,TyE,TyE]]):Option (List Int):=match x with
 | (v0,v1,()) =>
  aB (cM ([],[],(v1.1,v1.2.1,v1.2.2.1,()),())) λz1 =>
  some z1.1
def eA(x:aM [.clo 130 [TyN,TyE,TyE]]):Option (List Int):=match x with
 | (v0,()) =>
  aB (cW ((),(v0.1,v0.2.1,v0.2.2.1,()),())) λy1 =>
  some y1
abbrev XZ:List (Nat×Kd):=[(1,.box 41 TyJ),(4,.list TyL),(6,.own 28 TyD),(17,.int .i64),(18,.int .i64)]
abbrev aJW:List (Ex×List (Nat×Kd)):=[(.exit 0,[(6,.own 28 TyD)])]
def KL(x:Shape.den XZ):oS XZ aJW:=match x with
 | (v1,v4,v6,v17,v18,()) =>
  bif ltI v18 v17 then
   aB (sW (v4,v18,v1.2.2,())) λy4 =>
   aB (eA ((y4.1.1,y4.1.2.1,y4.1.2.2.1,()),())) λy5 =>
   bif Nat.ble [y5].length 1048576 then bif Nat.ble v6.length 1048576 then some (.inl (v1,v4,(v6++[y5]),v17,(aA .i64 (v18+1)),())) else none else none
  else some (.inr ((v6,())))
def S8(x:Shape.den XZ):oX aJW:=aV KL (2^64) x
def L4(x:aM [.agg TyJ]):oK [.list TyD,.int .i64]:=match x with
 | (v0,()) =>
  aB (gH (v0,())) λy1 =>
  bif !(eqI y1.2.1 0) then
   some ([],y1.2.1,())
  else aB (S8 (v0,y1.1,[],(y1.1.length:Int),0,())) λz6 =>
  some (z6.1,0,())
end Go.PM
namespace Go.PM
open Go Go.RowKit Go.Proofs Tryz
set_option maxHeartbeats 4000000
abbrev CF:List (Nat×Kd):=[(1,.box 41 TyJ),(4,.list TyL),(6,.own 28 TyD),(7,.own 4 .bool),(9,.own 3 TyE),(24,.int .i64),(25,.int .i64),(36,.list TyE),(37,.int .i64),(38,.int .i64)]
abbrev I5:List (Ex×List (Nat×Kd)):=[(.exit 2,[(1,.box 41 TyJ),(4,.list TyL),(6,.own 28 TyD),(7,.own 4 .bool),(9,.own 3 TyE),(24,.int .i64),(25,.int .i64)])]
def yO(x:Shape.den CF):oS CF I5:=match x with
 | (v1,v4,v6,v7,v9,v24,v25,v36,v37,v38,()) =>
  bif ltI v38 v37 then
   bif aE v38 v36.length then bif !(ltI (v36.getD v38.toNat 0) 0) then
    bif aE v38 v7.length then bif Nat.blt v38.toNat v7.length then bif Nat.ble [v38].length 1048576 then bif Nat.ble v9.length 1048576 then some (.inl (v1,v4,v6,(v7.set v38.toNat true),(v9++[v38]),v24,v25,v36,v37,(aA .i64 (v38+1)),())) else none else none else none else none
   else some (.inl (v1,v4,v6,v7,v9,v24,v25,v36,v37,(aA .i64 (v38+1)),())) else none
  else some (.inr ((v1,v4,v6,v7,v9,v24,v25,())))
def KG(x:Shape.den CF):oX I5:=aV yO (2^64) x
abbrev CA:List (Nat×Kd):=[(1,.box 41 TyJ),(4,.list TyL),(6,.own 28 TyD),(7,.own 4 .bool),(24,.int .i64),(25,.int .i64)]
abbrev H8:List (Ex×List (Nat×Kd)):=[(.exit 0,[(6,.own 28 TyD)])]
def yR(x:Shape.den CA):oS CA H8:=match x with
 | (v1,v4,v6,v7,v24,v25,()) =>
  bif ltI v25 v24 then
   bif aE v25 v7.length then bif Nat.blt v25.toNat v7.length then bif (v7.getD v25.toNat false) then
    some (.inl (v1,v4,v6,v7,v24,(aA .i64 (v25+1)),()))
   else aB (LU (v4,v25,v1.2.2,())) λy4 =>
   aB (KG (v1,v4,v6,v7,[],v24,v25,y4.1,(y4.1.length:Int),0,())) λz5 =>
   bif Nat.ble [z5.2.2.2.2.1].length 1048576 then bif Nat.ble z5.2.2.1.length 1048576 then some (.inl (z5.1,z5.2.1,(z5.2.2.1++[z5.2.2.2.2.1]),z5.2.2.2.1,z5.2.2.2.2.2.1,(aA .i64 (z5.2.2.2.2.2.2.1+1)),())) else none else none else none else none
  else some (.inr ((v6,())))
def yL(x:Shape.den CA):oX H8:=aV yR (2^64) x
def xN(x:aM [.agg TyJ]):oK [.list TyD,.int .i64]:=match x with
 | (v0,()) =>
  aB (gH (v0,())) λy1 =>
  bif !(eqI y1.2.1 0) then
   some ([],y1.2.1,())
  else bif !(ltI (y1.1.length:Int) 0) then bif !(ltI (y1.1.length:Int) (y1.1.length:Int)) then bif !(ltI 1048576 (y1.1.length:Int)) then aB (yL (v0,y1.1,[],(List.replicate ((y1.1.length:Int).toNat) (false:Ty.den .bool)),(y1.1.length:Int),0,())) λz6 =>
  some (z6.1,0,()) else none else none else none
def aSI:Code:=bY f48
abbrev aGF:Env:=B1 [aOX,aGX]
theorem XF:dN tP aGF:=aS ⟨N5,aJM,trivial⟩
def K9:Code:=dC aSI 0
def aAB:Code:=dC K9 0
def aCQ(id:Nat):Option cI:=bif Nat.beq id 12 then some ⟨CF,I5,KG⟩ else bif Nat.beq id 7 then some ⟨CA,H8,yL⟩ else none
theorem aQ4:∀ x,dL tP aGF 59 (aP f48) aCQ aAB CF I5 x=yO x:=by
 rintro⟨v1,v4,v6,v7,v9,v24,v25,v36,v37,v38,⟨⟩⟩
 kernel_rfl
theorem aUE:cJ tP 59 aAB ⟨CF,I5,KG⟩:=cC XF.callee aQ.mixed _ (aO (l:=[]) (by kernel_rfl) trivial) aQ4
theorem aQ7:∀ x,dL tP aGF 59 (aP f48) aCQ K9 CA H8 x=yR x:=by
 rintro⟨v1,v4,v6,v7,v24,v25,⟨⟩⟩
 kernel_rfl
theorem aZN:bA K9=[aAB]:=by kernel_rfl
theorem aUU:cJ tP 59 K9 ⟨CA,H8,yL⟩:=cC XF.callee aQ.mixed _ (aO aZN ⟨cB (i:=12) (by kernel_rfl) rfl aUE,trivial⟩) aQ7
abbrev W0:Ent:=⟨48,_,_,xN⟩
theorem X6:Ent.OK tP W0:=W4 aQ XF func48 (c:=aSI) (by kernel_rfl) (keep:=aP f48) (lt:=aCQ) (aO (l:=[K9]) (by kernel_rfl) ⟨cB (i:=7) (by kernel_rfl) rfl aUU,trivial⟩) (by rintro⟨v0,⟨⟩⟩; kernel_rfl)
end Go.PM
namespace Go.PM
open Go Go.RowKit Go.Proofs Go.Lz
section
variable {p:List Int} {A B l:List (List Int)} {qs:List (List (List Int))} {s:Int} {P:List PL}
theorem bC3(c:TZ [(.list (.prod (.prod (.int .i64) (.int .i64)) (.list (.int .i64)))),(.int .i64),(.int .i64)])(v4:List Int):∀ q (v:List Int),v.length+q.length<=1000000 ->
  I6 cQ (bN2 aY bJ) (evs q) (v,v4,c,())=some (v++qC q,())
 | [],v,_=>by
  show _=some (v++([]),());rw[List.append_nil]; rfl
 | n::q,v,h=>by
  have i1:Nat.ble v.length 1048576=true:=bL (by omega);have ih:=bC3 c v4 q (v++[(n:Int)]) (by grind);have step:cQ (v,v4,c,()) (n,())=some (.inl (v++[(n:Int)],v4,c,())):=by simp only[cQ,i1,bO,oC]
  show I6 _ _ (((n:Int),())::evs q) _=_;simp only[I6,step];grind
theorem aSK(hP:aQZ P) i:(nb P s i).length<=200:=by
 have h1:(nb P s i).length<=(List.range P.length).length:=List.length_filter_le _ _;rw[List.length_range]at h1;have:=hP.1;omega
theorem bNV(hP:aQZ P){i}(hi:i<P.length):eA ((P,(i:Int),s,()),())=some (qC (nb P s i)):=by
 have h1:=bC3 (P,i,s,()) [] (nb P s i) [] (by have:=aSK (s:=s) hP i; grind);have h2:cM ([],[],(P,i,s,()),())=some (qC (nb P s i),()):=by
  unfold cM a2H;simp only[gG,bHU hP s hi];grind
 simp only[eA,cW,h2,aC]
theorem bPK {nb N t}(ht:t<N):(gL nb N).take (t+1)=(gL nb N).take t++[qC (nb t)]:=by
 rw[List.take_succ_eq_append_getElem (by rw[BW]; omega)];simp[gL]
theorem a7G(hP:aQZ P)(ha:gH ((((p,(A,B)),l),(qs,s)),())=some (P,0,())):L4 ((((p,(A,B)),l),(qs,s)),())=some (gL (nb P s) P.length,0,()):=by
 have hN:=hP.1;have key:=aK (step:=KL) (N:=2^64) (λt=>((((p,(A,B)),l),(qs,s)),P,(gL (nb P s) P.length).take t,(P.length:Int),(t:Int),())) P.length (gL (nb P s) P.length,()) (by omega) (λt ht=>?_) ?_
 ·have key:S8 ((((p,(A,B)),l),(qs,s)),P,[],(P.length:Int),0,())=_:=key;simp only[L4,ha,aC,e00,Bool.not_true,oD,key]
 ·have l1:=bNV (s:=s) hP ht;have l2:Nat.ble ((gL (nb P s) P.length).take t).length 1048576=true:=bL (by grind);have l3:=wS ht (by omega);simp only[KL,lI ht,oC,sW,aC,l1,l2,l3,bO,bPK ht]
 ·have:(gL (nb P s) P.length).take P.length=gL (nb P s) P.length:=List.take_of_length_le (by rw[BW]; simp);simp only[KL,lN,oD,this]
theorem aTW(hN:P.length<=200)(ha:gH ((((p,(A,B)),l),(qs,s)),())=some (P,0,())):yU ((((p,(A,B)),l),(qs,s)),())=some (P.map (·.1),0,()):=by
 have key:=aK (step:=IZ) (N:=2^64) (λt=>((P.take t).map (·.1),P,(P.length:Int),(t:Int),())) P.length (P.map (·.1),()) (by omega) (λt ht=>?_) ?_
 ·have key:QX ([],P,(P.length:Int),0,())=_:=key;simp only[yU,ha,aC,e00,Bool.not_true,oD,key]
 ·have l2:Nat.ble ((P.take t).map (·.1)).length 1048576=true:=bL (by grind);have l3:=wS ht (by omega);have l4:(P.take (t+1)).map (·.1)=(P.take t).map (·.1)++[(P.getD t ((0,0),[])).1]:=by
   rw[List.take_succ_eq_append_getElem ht,List.map_append];grind
  simp only[IZ,lI ht,iO ht,tN,oC,l2,l3,bO,l4]
 ·simp only[IZ,lN,oD,List.take_length]
end
theorem a01:∀ f u acc,(aB6 f u acc).length<=f+acc.length
 | 0,u,acc=>by simp[aB6]
 | f+1,u,acc=>by
  rw[aB6];cases h:Nat.blt u 10 with
  | true=>grind
  | false =>
   have:=a01 f (u/10) (UInt8.ofNat (48+u%10)::acc);grind
theorem bMZ n:(IP n).data.toList.length<=21:=by
 cases n with
 | ofNat u =>
  show (aB6 20 u []).length<=21;have:=a01 20 u [];grind
 | negSucc u =>
  show (45::aB6 20 (u+1) []).length<=21;have:=a01 20 (u+1) [];grind
theorem bC4 sep:∀ l,(∀ x∈l,x.data.toList.length<=21)->(SK l sep).length<=l.length*(21+sep.length)
 | [],_=>by simp[SK]
 | [x],h=>by
  have:=h x (by simp);simp only[SK,List.length_singleton];omega
 | x::y::r,h=>by
  have h1:=h x (by simp);have h2:=bC4 sep (y::r) λz hz=>h z (by grind)
  rw[SK,oH,oH,List.length_cons,Nat.add_mul];omega
def aIS(r:List Int):ByteArray:=((ByteArray.mk #[91])++⟨(SK (r.map IP) [32]).toArray⟩)++(ByteArray.mk #[62])
theorem bO3 {r:List Int}(hl:r.length<=64)(hr:∀ a∈r,a.natAbs<=1000000000):OI (r,true,())=some (aIS r,0,())/\(aIS r).size<=10000:=by
 have hck:kH (r,())=some (0,()):=A9 r (by omega) hr;have hloop:aHZ (true,[],r,(r.length:Int),0,())=some (true,r.map IP,()):=by
  have hz:r.map IP=(r.take r.length).map IP:=by rw[List.take_length]
  rw[hz];refine aK (N:=2^64) (step:=XE) (λi=>(true,(r.take i).map IP,r,(r.length:Int),(i:Int),())) r.length _ (by omega) ?_ ?_
  ·intro i hi;have ha:=hr (r.getD i 0) (by rw[show r.getD i 0=r[i]by simp[oQ,hi]]; exact List.getElem_mem hi);have hit:EE (r.getD i 0,())=some (IP (r.getD i 0),()):=by
    unfold EE;dsimp only;rw[aF,aF,oF (by omega),oF (by omega)];rfl
   simp only[XE,aF,aL,eL,yJ,oN];rw[if_pos (by omega),if_pos (by omega),hit,aC,if_pos (by simp),if_pos (by simp; omega),bP i (by omega),List.take_succ_eq_append_getElem hi,List.map_append];grind
  ·simp only[XE,aF,yJ];grind
 have hj:(SK (r.map IP) [32]).length<=64*22:=by
  have h1:=bC4 [32] (r.map IP) λx hx=>by
   obtain⟨a,-,rfl⟩:=List.mem_map.1 hx;exact bMZ a
  grind
 have hjoin:TU (r.map IP,ByteArray.mk #[32],())=some (⟨(SK (r.map IP) [32]).toArray⟩,()):=by
  show (bif Nat.ble _ 1048576&&Nat.ble (SK (r.map IP) [32]).length 1048576 then _ else none)=_;rw[eL,eL,List.length_map,oT (by omega),oT (by omega)];rfl
 have hs1:(⟨(SK (r.map IP) [32]).toArray⟩:ByteArray).size<=1408:=hj;have hs2:((ByteArray.mk #[91])++⟨(SK (r.map IP) [32]).toArray⟩:ByteArray).size<=1409:=by
  rw[ByteArray.size_append];have:(ByteArray.mk #[91]).size=1:=rfl;omega
 have hs3:(ByteArray.mk #[62]).size=1:=rfl;have hs4:(ByteArray.mk #[91]).size=1:=rfl;refine⟨?_,?_⟩
 ·unfold OI;dsimp only;rw[hck,aC];rw[hloop,aC];rw[hjoin,aC];rw[eL,eL,oT (by rw[hs4]; show 1+(⟨(SK (r.map IP) [32]).toArray⟩:ByteArray).size<=_; omega),oT (by rw[hs3]; show ((ByteArray.mk #[91])++⟨(SK (r.map IP) [32]).toArray⟩:ByteArray).size+1<=_; omega)];rfl
 ·unfold aIS;rw[ByteArray.size_append];omega
theorem bLF:∀ (x x' t t':List UInt8),32 ∉ x->32 ∉ x'->x++32::t=x'++32::t'->x=x'/\t=t'
 | [],[],t,t',_,_,h=>⟨rfl,(List.cons.inj h).2⟩
 | [],b::x',t,t',_,h2,h=>absurd (List.cons.inj h).1 (λe=>h2 (by grind))
 | a::x,[],t,t',h1,_,h=>absurd (List.cons.inj h).1 (λe=>h1 (by grind))
 | a::x,b::x',t,t',h1,h2,h=>by
  obtain⟨e1,e2⟩:=List.cons.inj h;obtain⟨e3,e4⟩:=bLF x x' t t' (λk=>h1 (by grind)) (λk=>h2 (by grind)) e2;grind
theorem a6W:∀ f u acc,32 ∉ acc->32 ∉ aB6 f u acc
 | 0,u,acc,h=>by simpa[aB6]using h
 | f+1,u,acc,h=>by
  have h1:32≠UInt8.ofNat (48+u%10):=λe=>by
   have:=oZ UInt8.toNat e;rw[UInt8.toNat_ofNat']at this;grind
  rw[aB6];cases hb:Nat.blt u 10 with
  | true =>
   have h2:32≠UInt8.ofNat (48+u):=λe=>by
    have:=oZ UInt8.toNat e;rw[UInt8.toNat_ofNat']at this;change 32=_ at this;have:=gE hb;omega
   grind
  | false =>
   exact a6W f (u/10) _ (λhm=>(List.mem_cons.1 hm).elim h1 h)
theorem bU5 n:32 ∉ (IP n).data.toList:=by
 cases n with
 | ofNat u=>exact a6W 20 u [] (by simp)
 | negSucc u =>
  show 32 ∉ (45::aB6 20 (u+1) []);have:=a6W 20 (u+1) [] (by simp);grind
theorem bD9:∀ l l',l.length=l'.length->(∀ x∈l,32 ∉ x.data.toList)->(∀ x∈l',32 ∉ x.data.toList)->SK l [32]=SK l' [32]->l.map (·.data.toList)=l'.map (·.data.toList)
 | [],[],_,_,_,_=>rfl
 | [],_::_,h,_,_,_=>by grind
 | _::_,[],h,_,_,_=>by grind
 | [x],[y],_,_,_,h=>by simpa[SK]using h
 | [x],_::_::_,h,_,_,_=>by grind
 | _::_::_,[x],h,_,_,_=>by grind
 | x::y::l,x'::y'::l',h,h1,h2,e=>by
  obtain⟨e1,e2⟩:=bLF _ _ _ _ (h1 x (by simp)) (h2 x' (by simp)) e;have:=bD9 (y::l) (y'::l') (by grind) (λz hz=>h1 z (by grind)) (λz hz=>h2 z (by grind)) e2;grind
theorem a8I {r r'}(hl:r.length=r'.length)(hr:∀ a∈r,a.natAbs<=1000000000)(hr':∀ a∈r',a.natAbs<=1000000000)(h:aIS r=aIS r'):r=r':=by
 have h1:(aIS r).data.toList=(aIS r').data.toList:=by rw[h]
 have h2:=List.append_cancel_right (List.cons.inj h1).2;have sp:∀ (r:List Int),∀ x∈r.map IP,32 ∉ x.data.toList:=λr x hx=>by
  obtain⟨a,_,rfl⟩:=List.mem_map.1 hx;exact bU5 a
 have h3:=bD9 _ _ (by simpa using hl) (sp r) (sp r') h2;refine List.ext_getElem hl λi h4 h5=>?_
 have h6:(r.map ((λx:ByteArray=>x.data.toList)∘IP))[i]'(by simpa using h4)=(r'.map ((λx:ByteArray=>x.data.toList)∘IP))[i]'(by simpa using h5):=by grind
 rw[List.getElem_map,List.getElem_map]at h6;have b1:=hr _ (List.getElem_mem h4);have b2:=hr' _ (List.getElem_mem h5);have h7:IP r[i]=IP r'[i]:=by
  have :=Array.ext' h6;cases hx:IP r[i]; cases hy:IP r'[i];grind
 rw[aZ4 (by omega),aZ4 (by omega)]at h7;exact bVK h7
theorem aNG:∀ L s,YH L s=true↔∃ p∈L,p.1=s
 | [],s=>by simp[YH]
 | x::L,s=>by
  rw[YH];cases h:eqS x.1 s with
  | true =>
   exact⟨λ_=>⟨x,by simp,aZF.1 h⟩,λ_=>rfl⟩
  | false =>
   rw[oD,aNG L s];have hn:x.1≠s:=λe=>by rw[aZF.2 e]at h; grind
   grind
def Rw(r:Nat) (l:List (List Int)):Prop:=∀ a∈l,a.length=r/\∀ c∈a,c.natAbs<=1000000000
def aU2(l:List (List Int)) (n:Nat):List (ByteArray×Int):=(List.range n).map λi=>(aIS (l.getD i []),(i:Int))
section
variable {r:Nat} {l:List (List Int)}
theorem getD_at {i} hi:l.getD i []=l[i]:=by grind
theorem bD6 l n:aU2 l (n+1)=aU2 l n++[(aIS (l.getD n []),(n:Int))]:=by unfold aU2; rw[List.range_succ,List.map_append]; rfl
theorem bTP(hr4:r<=64)(hw:Rw r l)(hd:∀ i j,i<j->j<l.length->l.getD i []≠l.getD j []):∀ m i,i+m=l.length->txs (l.drop i) i (aU2 l i)=some (aU2 l l.length)
 | 0,i,h=>by
  obtain rfl:i=l.length:=by omega
  rw[List.drop_length]; rfl
 | m+1,i,h=>by
  have hi:i<l.length:=by omega
  have hm:=hw _ (List.getElem_mem hi);rw[List.drop_eq_getElem_cons hi];have ht:=(bO3 (r:=l[i]) (by omega) hm.2).1;have hn:YH (aU2 l i) (aIS l[i])=false:=by
   rw[Bool.eq_false_iff];intro hh;obtain⟨p,h1,h2⟩:=(aNG _ _).1 hh;obtain⟨j,hj,rfl⟩:=List.mem_map.1 h1;have hj:j<i:=List.mem_range.1 hj;have hmj:=hw _ (List.getElem_mem (show j<l.length by omega));rw[getD_at (by omega)]at h2;have:=a8I (by rw[hmj.1,hm.1]) hmj.2 hm.2 h2;grind
  simp only[txs,ht,aC,hn,oD];have:=bTP hr4 hw hd m (i+1) (by omega);rw[bD6,getD_at hi]at this;exact this
theorem bIJ(hw:Rw r l) {x:List Int} (hx:x.length=r/\∀ c∈x,c.natAbs<=1000000000):YH (aU2 l l.length) (aIS x)=decide (x∈l):=by
 by_cases h:x∈l
 ·rw[oT h];obtain⟨i,hi,rfl⟩:=List.getElem_of_mem h;exact(aNG _ _).2 ⟨_,List.mem_map.2 ⟨i,List.mem_range.2 hi,rfl⟩,by rw[getD_at hi]⟩
 ·rw[oF h,Bool.eq_false_iff];intro hh;obtain⟨p,h1,h2⟩:=(aNG _ _).1 hh;obtain⟨j,hj,rfl⟩:=List.mem_map.1 h1;have hj:j<l.length:=List.mem_range.1 hj;have hmj:=hw _ (List.getElem_mem hj);have h2:aIS (l.getD j [])=aIS x:=h2;rw[getD_at hj]at h2;have:=a8I (by rw[hmj.1,hx.1]) hmj.2 hx.2 h2;exact h (by rw[<- this]; exact List.getElem_mem hj)
theorem getM_none:∀ L s,YH L s=false->getM L s=0
 | [],s,_=>rfl
 | x::L,s,h=>by
  rw[YH]at h;rw[getM];cases he:eqS x.1 s with
  | true=>grind
  | false=>rw[he,oD]at h; exact getM_none L s h
theorem bI9:∀ L L' s,YH L s=false->getM (L++L') s=getM L' s
 | [],L',s,_=>rfl
 | x::L,L',s,h=>by
  rw[YH]at h;rw[List.cons_append,getM];cases he:eqS x.1 s with
  | true=>grind
  | false=>rw[he,oD]at h; exact bI9 L L' s h
end
def TY:List Int->List Int->List Int
 | a::l,b::m=>(a+b)::TY l m
 | _,_=>[]
theorem aBK:∀ {l m},l.length=m.length->(TY l m).length=l.length
 | [],[],_=>rfl
 | [],_::_,h=>by rfl
 | _::_,[],h=>by grind
 | a::l,b::m,h=>by simp[TY,aBK (by simpa using h)]
theorem bIW:∀ l m,l.length=m.length->∃ all,bCZ l m=some all/\∀ (v:List Int) (c:TZ [(.list (.int .i64)),(.list (.int .i64))]),(∀ a∈l,a.natAbs<=1000000000)->(∀ a∈m,a.natAbs<=1000000000)->v.length+l.length<=1000000 ->
  I6 T3 (bN2 EC RK) all ([],0,v,(c.1,c.2.1,()),())=some (v++TY l m,())
 | [],[],_=>⟨[],rfl,λv c _ _ _=>by
  show _=some (v++([]:List Int),());rw[List.append_nil]; rfl⟩
 | [],_::_,h=>by simp at h
 | _::_,[],h=>by simp at h
 | a::l,b::m,h=>by
  obtain⟨all,h1,h2⟩:=bIW l m (by simpa using h);refine⟨(a,b,())::all,by simp only[bCZ,h1,aC],λv c ha hb hv=>?_⟩;have e1:=ha a (by simp);have e2:=hb b (by simp);have e3:aA .i64 (a+b)=a+b:=wrap64 (by omega) (by omega);have e4:Nat.ble [a+b].length 1048576=true:=rfl;have e5:Nat.ble v.length 1048576=true:=Nat.ble_eq_true_of_le (by simp at hv; omega);have step:T3 ([],0,v,(c.1,c.2.1,()),()) (a,b,())=some (.inl ([],0,v++[a+b],(c.1,c.2.1,()),())):=by simp only[T3,e3,e4,e5,oC]
  have:=h2 (v++[a+b]) c (λz hz=>ha z (by simp[hz])) (λz hz=>hb z (by simp[hz])) (by simp at hv ⊢; omega);rw[TY];rw[List.append_assoc]at this;simp only[I6,step];exact this
theorem bLX l m (hl:l.length<=64)(h:l.length=m.length)(ha:∀ a∈l,a.natAbs<=1000000000)(hb:∀ a∈m,a.natAbs<=1000000000)(hs:∀ a∈TY l m,a.natAbs<=1000000000):aBB (l,m,())=some (TY l m,0,()):=by
 have e0:eqI 0 0=true:=by decide
 have c1:=A9 l (by omega) ha;have c2:=A9 m (by omega) hb;have c3:=A9 (TY l m) (by rw[aBK h]; omega) hs;have e1:eqI (l.length:Int) (m.length:Int)=true:=by rw[bN]; exact oT (by omega)
 have hboth:aTI (l,m,())=some (0,()):=by simp only[aTI,c1,c2,aC,e0,e1,Bool.not_true,oD]
 obtain⟨all,h1,h2⟩:=bIW l m h;have e2:ltI (l.length:Int) 0=false:=by rw[aF]; exact oF (by omega)
 have e3:ltI 1048576 (l.length:Int)=false:=by rw[aF]; exact oF (by omega)
 have hloop:OJ ([],0,[],(l,m,()),())=some (TY l m,()):=by
  have hp:a8E (l,m,())=some all:=by
   unfold a8E;dsimp only;rw[Nat.ble_eq_true_of_le (show l.length<=1048576 by omega),oC,h1]
  unfold OJ a2H;simp only[aPQ,hp];exact h2 [] (l,m,()) ha hb (by simp; omega)
 have hloop:OJ ([],0,(List.replicate 0 (0:Ty.den (.int .i64))),(l,m,()),())=some (TY l m,()):=hloop;simp only[aBB,hboth,aC,e0,Bool.not_true,oD,e2,e3,Bool.not_false,oC,aW6,hloop,aAZ,c3]
theorem HO r g x:(cl r g x).length=r:=by simp[cl,Vr]
theorem bZS {r g}(hg:0<g)(hg9:g<=1000000000){x}(hl:x.length=r)(hx:∀ a∈x,a.natAbs<=1000000000):∀ a∈cl r g x,a.natAbs<=1000000000:=λa ha=>by
 obtain⟨i,hi,rfl⟩:=List.mem_map.1 ha;unfold clV;split
 ·have h1:=Int.emod_nonneg (eK x 0) (show g≠0 by omega);have h2:=Int.emod_lt_of_pos (eK x 0) hg;omega
 ·unfold eK;grind
section
variable {ps:List Int} {n d r:Nat} {C K:Nat->V}
def rL(n r:Nat) (K:Nat->V) (note x:List Int):List Int:=cl r (K 0 0) (TY (tmp n r K x) note)
theorem bWT(h:RT ps n d r C K) (hn1:1<=n) (hr:1<=r) (hg:0<K 0 0) {notes} (hw:Rw r notes) {i:Nat} hi x (hl:x.length=n) (hx:∀ a∈x,a.natAbs<=1000000000)
  (hd:∀ i,i<r->(dot n (eK x) (K i)).natAbs<=1000000000) (hs:∀ a∈TY (tmp n r K x) notes[i],a.natAbs<=1000000000) :
  vV ((((ps,(Mr d n C,Mr r n K)),notes),(((r:Int),[Vr r (eV (K 0 0))]),aU2 notes notes.length)),(i:Int),x,())=some (rL n r K notes[i] x,getM (aU2 notes notes.length) (aIS (rL n r K notes[i] x)),decide (rL n r K notes[i] x∈notes),0,()):=by
 have n4:=h.n4;obtain⟨p,hk⟩:=h.hk;have r4:=(Hn.wR hk h.wk).1;have hb:=h.bk 0 (by omega) 0 (by omega);have e0:eqI 0 0=true:=by decide
 have hm:=hw _ (List.getElem_mem hi);have htl:(tmp n r K x).length=r:=by simp[tmp,Vr]
 have t1:=aM9 h x hl hx hd;have e1:aE (i:Int) notes.length=true:=by rw[aL]; exact oT (by omega)
 have e2:notes.getD ((i:Int)).toNat []=notes[i]:=by rw[oN]; exact getD_at hi
 have t2:=bLX (tmp n r K x) notes[i] (by omega) (by rw[htl,hm.1]) (λa ha=>by
  obtain⟨j,hj,rfl⟩:=List.mem_map.1 ha;exact hd j (List.mem_range.1 hj)) hm.2 hs
 have hal:(TY (tmp n r K x) notes[i]).length=r:=by rw[aBK (by rw[htl,hm.1]),htl]
 have t3:=UB hr (by omega) hg (by omega) (TY (tmp n r K x) notes[i]) hal hs;have hcl:=bZS hg (by omega) hal hs;have t4:=(bO3 (r:=rL n r K notes[i] x) (by unfold rL; rw[HO]; omega) hcl).1;have t5:=bIJ hw (x:=rL n r K notes[i] x) ⟨HO _ _ _,hcl⟩;unfold rL at t4 t5 ⊢;simp only[vV,t1,aC,e0,oC,e1,e2,t2,t3,Bool.not_true,oD,t4,t5]
end
theorem bSU {p L s}(h:p.1=s):getM (p::L) s=p.2:=by rw[getM,aZF.2 h,oC]
theorem bCD:∀ L L' s,YH L s=true->getM (L++L') s=getM L s
 | [],L',s,h=>by cases h
 | x::L,L',s,h=>by
  rw[YH]at h;rw[List.cons_append,getM,getM];cases he:eqS x.1 s with
  | true=>rfl
  | false=>rw[he,oD]at h; exact bCD L L' s h
section
variable {r:Nat} {l:List (List Int)}
theorem bCX(hw:Rw r l)(hd:∀ i j,i<j->j<l.length->l.getD i []≠l.getD j []){i} hi:∀ m,i<m->m<=l.length->getM (aU2 l m) (aIS l[i])=i
 | 0,h,_=>by omega
 | m+1,h,hm=>by
  rw[bD6];rcases oG i m with h1|h1
  ·have hh:YH (aU2 l m) (aIS l[i])=true:=(aNG _ _).2 ⟨(aIS (l.getD i []),(i:Int)),List.mem_map.2 ⟨i,List.mem_range.2 h1,rfl⟩,by show aIS (l.getD i [])=_; rw[getD_at hi]⟩;rw[bCD _ _ _ hh];exact bCX hw hd hi m h1 (by omega)
  ·obtain rfl:i=m:=by omega
   have hn:YH (aU2 l i) (aIS l[i])=false:=by
    rw[Bool.eq_false_iff];intro hh;obtain⟨p,h1,h2⟩:=(aNG _ _).1 hh;obtain⟨j,hj,rfl⟩:=List.mem_map.1 h1;have hj:j<i:=List.mem_range.1 hj;have hmj:=hw _ (List.getElem_mem (show j<l.length by omega));have hmi:=hw _ (List.getElem_mem hi);have h2:aIS (l.getD j [])=aIS l[i]:=h2;rw[getD_at (by omega)]at h2;have:=a8I (by rw[hmj.1,hmi.1]) hmj.2 hmi.2 h2;grind
   rw[bI9 _ _ _ hn];exact bSU (by rw[getD_at hi])
theorem bYI(hw:Rw r l)(hd:∀ i j,i<j->j<l.length->l.getD i []≠l.getD j []){i:Nat} hi:getM (aU2 l l.length) (aIS l[i])=i:=bCX hw hd hi _ hi (oM _)
end
section
variable {ps:List Int} {n d r:Nat} {C K:Nat->V}
theorem bHR(h:RT ps n d r C K) (hn1:1<=n) (hr:1<=r) (hg:0<K 0 0) {l:List (List Int)} (hw:Rw r l) (hL:l.length<=1048576) (hd:∀ i j,i<j->j<l.length->l.getD i []≠l.getD j []) :
  qS (((ps,(Mr d n C,Mr r n K)),l),())=some ((((ps,(Mr d n C,Mr r n K)),l),(((r:Int),[Vr r (eV (K 0 0))]),aU2 l l.length)),0,()):=by
 have n4:=h.n4;obtain⟨p,hk⟩:=h.hk;have r4:=(Hn.wR hk h.wk).1;have t1:=U0 h hn1 hr hg;have t2:txs l 0 []=some (aU2 l l.length):=bTP (by omega) hw hd l.length 0 (by omega);have e1:Nat.ble l.length 1048576=true:=Nat.ble_eq_true_of_le hL;simp only[qS,t1,aC,e1,oC,t2]
end
section
variable {ps:List Int} {n d r:Nat} {C K:Nat->V}
theorem a3Y(hr4:r<=64)(x:List Int)(hl:x.length=r)(hx:∀ a∈x,a.natAbs<=1000000000):xM ((ps,(Mr d n C,Mr r n K)),x,())=some (0,()):=by
 have c1:=A9 x (by omega) hx;have e0:eqI 0 0=true:=by rfl
 have e1:eqI x.length ((Mr r n K).length)=true:=by rw[bN]; exact oT (by simp[Mr,hl])
 simp only[xM,c1,aC,e0,e1,Bool.not_true,oD]
end
section
variable {ps:List Int} {n d r:Nat} {C K:Nat->V}
theorem bBS(h:RT ps n d r C K)(hn1:1<=n)(hr:1<=r)(hg:0<K 0 0){l}(hw:Rw r l)(h0:0<l.length)(h60:l.length<=60)(hcl:∀ a∈l,cl r (K 0 0) a=a)(hs:∀ i,i+1<l.length->0<cmpL (l.getD (i+1) []) (l.getD i [])) :
  C7 (((ps,(Mr d n C,Mr r n K)),l),())=some (0,()):=by
 have n4:=h.n4;obtain⟨p,hk⟩:=h.hk;have r4:=(Hn.wR hk h.wk).1;have hb:=h.bk 0 (by omega) 0 (by omega);have e0:eqI 0 0=true:=by decide
 have t1:=U0 h hn1 hr hg;have e1:eqI (l.length:Int) 0=false:=by rw[bN]; exact oF (by omega)
 have e2:ltI 60 (l.length:Int)=false:=by rw[aF]; exact oF (by omega)
 have hloop:JD (((ps,(Mr d n C,Mr r n K)),l),((r:Int),[Vr r (eV (K 0 0))]),l,(l.length:Int),0,())=some (((List.range l.length).findSome? λi=>(none:Option (AQ DL))).getD (.inr ())):=by
  refine aPW (N:=2^64) (step:=uK) (λi=>(((ps,(Mr d n C,Mr r n K)),l),((r:Int),[Vr r (eV (K 0 0))]),l,(l.length:Int),(i:Int),())) (λi=>none) l.length (.inr ()) (by omega) ?_ ?_
  ·intro i hi;have hm:=List.getElem_mem hi;have hwm:=hw _ hm;have q1:ltI (i:Int) (l.length:Int)=true:=by rw[aF]; exact oT (by omega)
   have q2:aE (i:Int) l.length=true:=by rw[aL]; exact oT (by omega)
   have q3:l.getD ((i:Int)).toNat []=l[i]:=by rw[oN]; exact getD_at hi
   have q4:=a3Y (ps:=ps) (n:=n) (d:=d) (C:=C) (K:=K) (by omega) l[i] hwm.1 hwm.2;have q5:=UB hr (by omega) hg (by omega) l[i] hwm.1 hwm.2;rw[hcl _ hm]at q5;have q6:kJ (l[i],l[i],())=some (true,()):=by
    have:=aTL l[i] l[i] (by omega);rw[oT rfl]at this;simp only[kJ,this,aC]
   have q7:=bP i (by omega)
   by_cases hi0:i=0
   ·subst hi0;have q8:ltI 0 ((0:Nat):Int)=false:=by decide
    simp only[uK,q1,q2,q3,q4,q5,q6,q7,q8,aC,e0,oC,Bool.not_true,oD]
   ·have q8:ltI 0 (i:Int)=true:=by rw[aF]; exact oT (by omega)
    have q9:aA .i64 ((i:Int)-1)=((i-1:Nat):Int):=by rw[wrap64 (by omega) (by omega)]; omega
    have q10:aE (((i-1:Nat):Int)) l.length=true:=by rw[aL]; exact oT (by omega)
    have q11:l.getD (((i-1:Nat):Int)).toNat []=l[i-1]'(by omega):=by rw[oN]; exact getD_at (by omega)
    have hwp:=hw _ (List.getElem_mem (show i-1<l.length by omega));have q12:=aDB l[i] (l[i-1]'(by omega)) (by omega) (by omega);have hs':=hs (i-1) (by omega);rw[show i-1+1=i by omega,getD_at hi,getD_at (show i-1<l.length by omega)]at hs';have q13:ltI 0 (cmpL l[i] (l[i-1]'(by omega)))=true:=by rw[aF]; exact oT hs'
    simp only[uK,q1,q2,q3,q4,q5,q6,q7,q8,q9,q10,q11,q12,q13,aC,e0,oC,Bool.not_true,oD]
  ·have q1:ltI (l.length:Int) (l.length:Int)=false:=by rw[aF]; exact oF (by omega)
   simp only[uK,q1,oD]
 rw[show ((List.range l.length).findSome? λi=>(none:Option (AQ DL)))=none from List.findSome?_eq_none_iff.2 (λ_ _=>rfl),Option.getD_none]at hloop;simp only[C7,t1,aC,e0,e1,e2,Bool.not_true,oD,hloop,bV]
end
section
variable {ps:List Int} {n d r:Nat} {C K:Nat->V}
theorem aN9(hp:BD (ps,())=some (0,()))(hl:ps.length=n)(hn:n<=64)(rows:List (List Int))(hk:rows.length<1048576)(hlen:∀ x∈rows,x.length=n)(hr:∀ x∈rows,∀ a∈x,a.natAbs<=1000):rK (ps,rows,())=some (0,()):=by
 have e0:eqI 0 0=true:=by decide
 have inner:∀ (k:Int) (x:List Int),x.length<1048576->(∀ a∈x,a.natAbs<=1000)->lH (ps,rows,(rows.length:Int),k,x,(x.length:Int),0,())=some (.inr (ps,rows,(rows.length:Int),k,())):=λk x hx ha=>by
  refine aK (step:=fU) (N:=2^64) (λt=>(ps,rows,(rows.length:Int),k,x,(x.length:Int),(t:Int),())) x.length (.inr (ps,rows,(rows.length:Int),k,())) (by omega) (λt ht=>?_) ?_
  ·have q1:ltI (t:Int) (x.length:Int)=true:=by rw[aF]; exact oT (by omega)
   have q2:aE (t:Int) x.length=true:=by rw[aL]; exact oT (by omega)
   have q3:x.getD ((t:Int)).toNat 0=x[t]:=by rw[oN]; simp[List.getD,ht]
   have b:=ha x[t] (List.getElem_mem ht);have q4:ltI 1000 x[t]=false:=by rw[aF]; exact oF (by omega)
   have q5:ltI x[t] (-1000)=false:=by rw[aF]; exact oF (by omega)
   have q6:=bP t (by omega);simp only[fU,q1,q2,q3,q4,q5,q6,oC,oD]
  ·have q1:ltI (x.length:Int) (x.length:Int)=false:=by rw[aF]; exact oF (by omega)
   simp only[fU,q1,oD]
 have key:lR (ps,rows,(rows.length:Int),0,())=some (.inr ()):=by
  refine aK (step:=fQ) (N:=2^64) (λt=>(ps,rows,(rows.length:Int),(t:Int),())) rows.length (.inr ()) (by omega) (λt ht=>?_) ?_
  ·have q1:ltI (t:Int) (rows.length:Int)=true:=by rw[aF]; exact oT (by omega)
   have q2:aE (t:Int) rows.length=true:=by rw[aL]; exact oT (by omega)
   have q3:rows.getD ((t:Int)).toNat []=rows[t]:=by rw[oN]; exact getD_at ht
   have hm:=List.getElem_mem ht;have q4:eqI (rows[t].length:Int) (ps.length:Int)=true:=by rw[bN,hlen _ hm,hl]; exact oT rfl
   have q5:=inner (t:Int) rows[t] (by rw[hlen _ hm]; omega) (hr _ hm);have q6:=bP t (by omega);simp only[fQ,q1,q2,q3,q4,q5,q6,aC,bV,Bool.not_true,oC,oD]
  ·have q1:ltI (rows.length:Int) (rows.length:Int)=false:=by rw[aF]; exact oF (by omega)
   simp only[fQ,q1,oD]
 simp only[rK,hp,key,aC,e0,bV,Bool.not_true,oD]
theorem bRA {l:List (List Int)} (hgm:C7 (((ps,(Mr d n C,Mr r n K)),l),())=some (0,())) (hp:BD (ps,())=some (0,())) (hl:ps.length=n) (hn:n<=64) {qs:List (List (List Int))} {s:Int} (h0:0<qs.length) (h12:qs.length<=12)
  (hq:∀ c∈qs,0<c.length/\c.length<=8/\∀ x∈c,x.length=n/\∀ a∈x,a.natAbs<=1000) (hs1:1<=s) (hs8:s<=8):K4 ((((ps,(Mr d n C,Mr r n K)),l),(qs,s)),())=some (0,()):=by
 have e0:eqI 0 0=true:=by decide
 have e1:eqI (qs.length:Int) 0=false:=by rw[bN]; exact oF (by omega)
 have e2:ltI 12 (qs.length:Int)=false:=by rw[aF]; exact oF (by omega)
 have e3:ltI s 1=false:=by rw[aF]; exact oF (by omega)
 have e4:ltI 8 s=false:=by rw[aF]; exact oF (by omega)
 have key:TB ((((ps,(Mr d n C,Mr r n K)),l),(qs,s)),qs,(qs.length:Int),0,())=some (.inr ((((ps,(Mr d n C,Mr r n K)),l),(qs,s)),())):=by
  refine aK (step:=KK) (N:=2^64) (λt=>((((ps,(Mr d n C,Mr r n K)),l),(qs,s)),qs,(qs.length:Int),(t:Int),())) qs.length (.inr ((((ps,(Mr d n C,Mr r n K)),l),(qs,s)),())) (by omega) (λt ht=>?_) ?_
  ·have q1:ltI (t:Int) (qs.length:Int)=true:=by rw[aF]; exact oT (by omega)
   have q2:aE (t:Int) qs.length=true:=by rw[aL]; exact oT (by omega)
   have q3:qs.getD ((t:Int)).toNat []=qs[t]:=by rw[oN]; simp[List.getD,ht]
   obtain⟨g1,g2,g3⟩:=hq _ (List.getElem_mem ht);have q4:eqI (qs[t].length:Int) 0=false:=by rw[bN]; exact oF (by omega)
   have q5:ltI 8 (qs[t].length:Int)=false:=by rw[aF]; exact oF (by omega)
   have q6:=aN9 hp hl hn qs[t] (by omega) (λx hx=>(g3 x hx).1) (λx hx=>(g3 x hx).2);have q7:=bP t (by omega);simp only[KK,q1,q2,q3,q4,q5,q6,q7,e0,aC,Bool.not_true,oC,oD]
  ·have q1:ltI (qs.length:Int) (qs.length:Int)=false:=by rw[aF]; exact oF (by omega)
   simp only[KK,q1,oD]
 simp only[K4,hgm,aC,e0,e1,e2,e3,e4,key,bV,Bool.not_true,oD]
end
section
variable {ps:List Int} {n d r:Nat} {C K:Nat->V}
def tcl(n r:Nat) (K:Nat->V) (x:List Int):List Int:=cl r (K 0 0) (tmp n r K x)
end
end Go.PM
namespace Go.PM
open Go Go.RowKit Go.Proofs
end Go.PM
