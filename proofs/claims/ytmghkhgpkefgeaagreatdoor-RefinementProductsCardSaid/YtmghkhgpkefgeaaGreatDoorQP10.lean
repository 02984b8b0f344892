/- Texts of one proof, joined (10). -/
import Derived.Test.YtmghkhgpkefgeaaGreatDoorQP9
set_option linter.unusedSimpArgs false
set_option linter.unusedVariables false
set_option maxRecDepth 100000
noncomputable section
namespace Go.PM
open Go Go.RowKit Go.Proofs Go.Lz
def gE(e:Nat):Nat->Nat
 | 0=>e
 | d+1=>19*gE e d^6
def gT(k e d:Nat):Nat:=if d+1<k then 9*gE e d^5 else gE e d
theorem bBJ {e:Nat}(h:1<=e):∀ d,1<=gE e d
 | 0=>h
 | d+1=>Nat.mul_pos O (Nat.pow_pos (bBJ h d))
theorem a8Z(e:Nat):∀ d,19*gE e d^5=(19*e^5)^6^d
 | 0=>by simp[gE]
 | d+1=>by
  have h:=a8Z e d;rw[Nat.pow_succ 6 d,Nat.pow_mul,<- h,gE];generalize gE e d=x;rw[Nat.mul_pow,Nat.mul_pow,<- Nat.pow_mul,<- Nat.pow_mul];have:(19:Nat)^6=19*19^5:=O
  rw[this,Nat.mul_assoc]
theorem bF4 {x N:Nat}(h:x^5<=10^(5*N)):x<=10^N:=by
 refine Classical.byContradiction λhn=>?_
 have h1:(10^N)^5<x^5:=Nat.pow_lt_pow_left Z O;rw[<- Nat.pow_mul,Nat.mul_comm]at h1;omega
theorem bAQ {T N:Nat}(h:T<=10^N):Lib.nDigits (T+1)<=N+1:=by
 refine HI (k:=N) ?_;rw[Nat.pow_succ];have:1<=10^N:=Nat.pow_pos O;omega
theorem bF5 {e X k n:Nat}(h1:1<=e)(hX:19*e^5<=10^X)(hd:∀ d,d+1<k->2*(X*6^d+1)<=400000)(hl:∀ d,d+1=k->∃ N,X*6^d<=5*N/\2*(N+1)<=400000):Bds k n (gE e) (gT k e):=by
 have hp:=bBJ h1;have hlaw:∀ d,19*gE e d^5<=10^(X*6^d):=λd=>by
  rw[a8Z,Nat.pow_mul];exact Nat.pow_le_pow_left hX _
 have h56:∀ d,gE e d<=gE e d^5:=λd=>by
  have:=Nat.pow_le_pow_right (hp d) (show 1<=5 by omega);rwa[Nat.pow_one]at this
 have e9:qN=400000:=rfl;refine⟨λd hk _=>⟨hp d,?_,λh=>?_,?_⟩,λd hk _=>?_⟩
 ·unfold gT; split
  ·have:=h56 d; omega
  ·exact oM _
 ·simp only[gT,h,if_true]; exact oM _
 ·by_cases h:d+1<k
  ·have h2:gT k e d<=10^(X*6^d):=by
    simp only[gT,h,if_true];have:=hlaw d; omega
   have h3:=bAQ h2;have h4:=hd d h;omega
  ·have h2:gT k e d=gE e d:=by simp only[gT,h,if_false]
   obtain⟨N,n1,n2⟩:=hl d Z;have h3:gE e d<=10^N:=bF4 (oR (by have:=hlaw d; omega) (Nat.pow_le_pow_right O n1));have h4:=bAQ h3;rw[h2]; omega
 ·have h2:gT k e d<=9*gE e d^5:=by
   unfold gT; split
   ·exact oM _
   ·have:=h56 d; omega
  rw[gE];have hp:=hp d;generalize gE e d=x at *;have h3:(x+1)*gT k e d<=(x+x)*(9*x^5):=Nat.mul_le_mul Z h2;have e1:(x+x)*(9*x^5)=18*x^6:=W
  have e2:x^1<=x^6:=Nat.pow_le_pow_right hp O;rw[Nat.pow_one]at e2;omega
theorem bG0 {k n:Nat}(hk:k<=7):Bds k n (gE 8748) (gT k 8748):=by
 refine bF5 (X:=21) O O (λd hd=>?_) λd hd=>?_
 ·have:6^d<=6^5:=Nat.pow_le_pow_right O Z;have e:(6^5:Nat)=7776:=O
  omega
 ·refine⟨195956,?_,by decide⟩;have:6^d<=6^6:=Nat.pow_le_pow_right O Z;have e:(6^6:Nat)=46656:=O
  omega
theorem bG3 {k n:Nat}(hk:k<=8):Bds k n (gE 1) (gT k 1):=by
 refine bF5 (X:=2) O O (λd hd=>?_) λd hd=>?_
 ·have:6^d<=6^6:=Nat.pow_le_pow_right O Z;have e:(6^6:Nat)=46656:=O
  omega
 ·refine⟨111975,?_,by decide⟩;have:6^d<=6^7:=Nat.pow_le_pow_right O Z;have e:(6^7:Nat)=279936:=O
  omega
section
variable {d n d':Nat} {A B:Nat->V} {p q:Nat->Nat}
theorem aZ8(v1:Int)(R:List (List Int))(hd:d<=12)(hn:n<=12)(bA:Big d n A 1000000000) :
  vW ((v1,R),(0,([],())),(n:Int),[],Mr d n A,(d:Int),0,[],())=some ((v1,R),(0,([],())),(n:Int),(List.range d).map (λi=>(i,0,n+n)),(List.range d).map (λi=>Zr (n+n) (wI d n A B i)),()):=by
 have key:=aU (step:=qW) (N:=2^64)
  (λt=>((v1,R),(0,([],())),(n:Int),(List.range t).map (λi=>(i,0,n+n)),Mr d n A,(d:Int),(t:Int),(List.range t).map (λi=>Zr (n+n) (wI d n A B i)),())) d ((v1,R),(0,([],())),(n:Int),(List.range d).map (λi=>(i,0,n+n)),(List.range d).map (λi=>Zr (n+n) (wI d n A B i)),()) Z (λt ht=>?_) ?_
 ·exact key
 ·have e1:ltI (t:Int) (d:Int)=true:=by rw[aE]; exact oT Z
  have e2:aF (t:Int) d=true:=by rw[aL]; exact oT Z
  have e3:((t:Nat):Int).toNat=t:=oN _;have e5:=aRK (Vr n (A t)) (by rw[pL]; omega) λa ha=>by have:=aLO (λx hx=>bA t ht x hx) a ha; omega
  rw[aKX]at e5;have e6:=aPW (Zr n (A t)) (Zr n (A t)) (by rw[pO]; omega) (by rw[pO]; omega);have e7:Zr n (A t)++Zr n (A t)=Zr (n+n) (wI d n A B t):=by
   rw[aVV,aPD ht]
   congr 1
   ·unfold Zr;refine List.map_congr_left λi hi=>?_
    have:i<n:=List.mem_range.1 hi;simp only[this,if_true]
   ·unfold Zr;refine List.map_congr_left λi _=>?_
    have h1:¬ n+i<n:=Z
    have h2:n+i-n=i:=Z
    simp only[h1,if_false,h2]
  have e8:((List.range t).map (λi=>Zr (n+n) (wI d n A B i))).length=t:=ze
  have e9:(Zr (n+n) (wI d n A B t)).length=n+n:=pO _ _;have e10:Nat.ble [(t,0,n+n)].length 1048576=true:=rfl;have e11:Nat.ble ((List.range t).map (λi=>(i,0,n+n))).length 1048576=true:=by rw[dO,List.length_map,List.length_range]; exact oT Z
  have e12:=bO t Z;have e13:(List.range t).map (λi=>(i,0,n+n))++[(t,0,n+n)]=(List.range (t+1)).map (λi=>(i,0,n+n)):=by rw[List.range_succ,List.map_append]; rfl
  have e14:(List.range t).map (λi=>Zr (n+n) (wI d n A B i))++[Zr (n+n) (wI d n A B t)]=(List.range (t+1)).map (λi=>Zr (n+n) (wI d n A B i)):=by rw[List.range_succ,List.map_append]; rfl
  simp only[qW,e1,cN,e2,e3,aBX A ht,e5,aD,e6,e7,e8,e9,e10,e11,e12,e13,e14,oC]
 ·have e1:ltI (d:Int) (d:Int)=false:=by rw[aE]; exact oF Z
  simp only[qW,e1,oD]
theorem aZ4(hd:d<=12)(hd':d'<=12)(hn:n<=12)(wB:Wd d' n B)(bB:Big d' n B 1000000000) :
  vU ((0,([],())),(n:Int),(List.range d).map (λi=>(i,0,n+n)),Mr d' n B,(d':Int),0,(List.range d).map (λi=>Zr (n+n) (wI d n A B i)),())=some ((0,([],())),(n:Int),(List.range (d+d')).map (λi=>(i,0,n+n)),(List.range (d+d')).map (λi=>Zr (n+n) (wI d n A B i)),()):=by
 have key:=aU (step:=rF) (N:=2^64)
  (λt=>((0,([],())),(n:Int),(List.range (d+t)).map (λi=>(i,0,n+n)),Mr d' n B,(d':Int),(t:Int),(List.range (d+t)).map (λi=>Zr (n+n) (wI d n A B i)),())) d' ((0,([],())),(n:Int),(List.range (d+d')).map (λi=>(i,0,n+n)),(List.range (d+d')).map (λi=>Zr (n+n) (wI d n A B i)),()) Z (λt ht=>?_) ?_
 ·exact key
 ·have e1:ltI (t:Int) (d':Int)=true:=by rw[aE]; exact oT Z
  have e2:aF (t:Int) d'=true:=by rw[aL]; exact oT Z
  have e3:((t:Nat):Int).toNat=t:=oN _;have e5:=aRK (Vr n (B t)) (by rw[pL]; omega) λa ha=>by have:=aLO (λx hx=>bB t ht x hx) a ha; omega
  rw[aKX]at e5;have e6:=aPW (Zr n (B t)) (Zr n (λ_=>0)) (by rw[pO]; omega) (by rw[pO]; omega);have e7:Zr n (B t)++Zr n (λ_=>0)=Zr (n+n) (wI d n A B (d+t)):=by
   rw[aVV,aMO]
   congr 1
   unfold Zr;refine List.map_congr_left λi _=>?_
   show Zn 0=Zn (B t (n+i));rw[wB t ht (n+i) Z]
  have e8:((List.range (d+t)).map (λi=>Zr (n+n) (wI d n A B i))).length=d+t:=R
  have e9:(Zr (n+n) (wI d n A B (d+t))).length=n+n:=pO _ _;have e10:Nat.ble [(d+t,0,n+n)].length 1048576=true:=rfl;have e11:Nat.ble ((List.range (d+t)).map (λi=>(i,0,n+n))).length 1048576=true:=by rw[dO,List.length_map,List.length_range]; exact oT Z
  have e12:=bO t Z;have e13:(List.range (d+t)).map (λi=>(i,0,n+n))++[(d+t,0,n+n)]=(List.range (d+(t+1))).map (λi=>(i,0,n+n)):=by rw[show d+(t+1)=(d+t)+1 by omega,List.range_succ,List.map_append]; rfl
  have e14:(List.range (d+t)).map (λi=>Zr (n+n) (wI d n A B i))++[Zr (n+n) (wI d n A B (d+t))]=(List.range (d+(t+1))).map (λi=>Zr (n+n) (wI d n A B i)):=by rw[show d+(t+1)=(d+t)+1 by omega,List.range_succ,List.map_append]; rfl
  simp only[rF,e1,cN,e2,e3,aBX B ht,e5,aD,aYG (show n<1048576 by omega),e6,e7,e8,e9,e10,e11,e12,e13,e14,oC]
 ·have e1:ltI (d':Int) (d':Int)=false:=by rw[aE]; exact oF Z
  simp only[rF,e1,oD]
theorem aJS(hA:Hn d A p) (hB:Hn d' B q) (hn:n<=4) (wA:Wd d n A) (wB:Wd d' n B) (bA:Big d n A 1000000000) (bB:Big d' n B 1000000000) {E T:Nat->Nat} (hEA:Big d n A (E 0)) (hEB:Big d' n B (E 0)) (hb:Bds (d+d') (n+n) E T)
  {t:Nat} {I:Nat->V} {c:Nat->Nat} (hI:Hn t I c) (hs:∀ v,Sp t I v↔Sp d A v/\Sp d' B v) (bI:Big t n I 1000000000) :
  nG (((n:Int),Mr d n A),((n:Int),Mr d' n B),())=some (((n:Int),Mr t n I),0,())/\∃ s J c',Hn s J c'/\Same (d+d') (yO d A B) s J/\s+t=d+d':=by
 have hd:=(Hn.dR hA wA).1;have hd':=(Hn.dR hB wB).1;have cb:=aJ9 hA hB Z wA wB bA bB;have e0:eqI 0 0=true:=O
 have l0:=aZ8 (d:=d) (n:=n) (A:=A) (B:=B) (n:Int) (Mr d' n B) Z Z bA;have l1:=aZ4 (d:=d) (d':=d') (n:=n) (A:=A) (B:=B) Z Z Z wB bB;have hL:gI 0 (d+d') (n+n) ((List.range (d+d')).map (λi=>(i,0,n+n))) ((List.range (d+d')).map (λi=>Zr (n+n) (wI d n A B i))) (λi=>i) (wI d n A B) :=
  ⟨rfl,λi hi=>⟨[],rfl,by rw[List.getElem?_map,List.getElem?_range hi]; rfl⟩,λi j _ _ e=>e⟩
 obtain⟨m1,A1,J1,W,w,u,g1,g2,g3,g4,g5,g6,g7⟩:=aE4 (show d+d'<1048576 by omega) (show n+n<1048576 by omega) hL (bFH wA wB) (bEB wB hEA hEB) hb;have hwd:Wd w (n+n) W:=λi hi x hx=>g6 i Z x hx
 have hw1:w=d+d':=by
  have h1:=(bED (n:=n) hA.ind hB.ind wB wA).aLQ (M:=W) λi hi=>⟨1,by decide,by
   have:=(g5 _).1 (Sp.mem hi);simpa using this⟩
  omega
 obtain⟨j,b1,b2,b3⟩:=Hn.split g4 n;obtain⟨c1,c2,c3,c4⟩:=a3H wA wB g4 g5 b1 b2 b3;have hsame:Same (w-j) (λi y=>W (j+i) (n+y)) t I:=λv=>(c2 v).trans (hs v).symm
 obtain⟨f1,_,f3⟩:=Hn.unique hI c1 hsame.symm;have hL2:=g3.take g2;have hbl:=aEJ (k:=n) (n:=n) Z (show w<1048576 by omega) hL2 g4 hwd b1 b2 b3;have hL3:=hL2.behind (k:=n) (n:=n) b1;have hwK:Wd (w-j) n (λi y=>W (j+i) (n+y)):=λi hi x hx=>hwd (j+i) Z (n+x) Z
 have bK:Big (w-j) n (λi y=>W (j+i) (n+y)) (10^dg 9 0):=λi hi x hx=>by
  rw[show (10^dg 9 0:Nat)=1000000000 by decide];have:=f3 i Z;have:=congrFun this x;show (W (j+i) (n+x)).natAbs<=_;rw[<- this];exact bI i Z x hx
 obtain⟨m2,A2,J2,K,r,p2,k1,k2,k3,k4,k5,k6,k7⟩:=aE4 (show w-j<1048576 by omega) (show n<1048576 by omega) hL3 hwK (E:=λd=>10^dg 9 d) (T:=λd=>10^(5*dg 9 d+1)) bK (a1S (.inr hn) O);obtain⟨q1,_,q3⟩:=Hn.unique hI k4 (hsame.symm.trans k5);subst q1;have hsh:=QR k3 k2 Z Z (λi hi x hx=>by rw[<- q3 i hi]; exact bI i hi x hx) (n:Int);have e2:(List.range t).map (λi=>Vr n (K i))=Mr t n I:=by
  refine List.map_congr_left λi hi=>?_
  rw[q3 i (List.mem_range.1 hi)]
 rw[e2]at hsh;refine⟨?_,j,_,u,c3,c4,by omega⟩;have e3:aB .i64 (2*(n:Int))=((n+n:Nat):Int):=by rw[wrap64 Z Z]; omega
 have hlen:((Mr d n A).length:Int)=(d:Int):=by rw[cN]
 have hlen':((Mr d' n B).length:Int)=(d':Int):=by rw[cN]
 have hbb:dH () (m1.take w,(n:Int),(n:Int),()) A1=some (m2.take t,A2):=by simp only[dH,hbl,aD,k1]
 simp only[nG,cb,aD,e0,Bool.not_true,oD,hlen,l0,hlen',l1,e3,g1,hbb,hsh]
end
theorem aQY {d n:Nat}{M:Nat->V}:∀ r∈Mr d n M,r.length=n:=λr hr=>by
 obtain⟨i,_,rfl⟩:=aDX hr;exact pL _ _
theorem aYQ {d n E:Nat}{M:Nat->V}(h:Big d n M E):∀ r∈Mr d n M,∀ a∈r,a.natAbs<=E:=λr hr a ha=>by
 obtain⟨i,hi,rfl⟩:=aDX hr;exact aLO (λx hx=>h i hi x hx) a ha
theorem aIS {d n:Nat}{M:Nat->V}(hw:Wd d n M):Same (Mr d n M).length (KQ (Mr d n M)) d M:=by
 rw[cN];exact Same.congr λi hi=>aOV hw hi
theorem bAB {n r:Nat} {C K:Nat->V} {q:Nat->Nat} (hC:Hn n C q) (hw:Wd n n C) (hr:r=0) (hI:dG n r K n C):Big n n C 1:=by
 have hlt:=(Hn.dR hC hw).2;have hun:∀ x,x<n->Sp n C (un x):=λx hx=>(hI _).2 ⟨λc hc=>E9 Z,λy hy=>by omega⟩
 obtain⟨_,_,_,hall,_⟩:=a4U n n q hC.inc hlt;have hp:∀ j,j<n->C j (q j)=1:=λj hj=>by
  have h1:=hC.a13 (hun (q j) (hlt j hj)) j hj λl hl=>E9 (by have:=hC.inc l j hl hj; omega)
  rw[M5]at h1;have h2:=hC.pos j hj;have h3:=Int.le_of_dvd O h1;omega
 intro i hi x hx;rcases hall x hx with ⟨j,hj,rfl⟩|⟨l,hl,_⟩
 ·rcases Nat.lt_trichotomy i j with g|g|g
  ·have:=hC.red i j g hj;have:=hp j hj;omega
  ·subst g; rw[hp i hi]; decide
  ·rw[hC.low i hi _ (hC.inc j i g hi)]; decide
 ·omega
section
variable {ps:List Int} {n d r d' r':Nat} {C K C' K':Nat->V}
theorem RS.ne (h:RS ps n d r C K):r+d=n:=by
 obtain⟨q,hq⟩:=h.hc;obtain⟨p,hp⟩:=h.hk;exact a8M hq h.wc h.n4 h.bc hp h.ker
end
section
variable {n m r k f g:Nat} {e:Nat->Nat} {K F:Nat->V} {B:Nat->Nat}
theorem a32(e:Nat->Nat)(m:Nat)(u v:V)(t:Int):cpv e m (λx=>u x+t*v x)=λx=>cpv e m u x+t*cpv e m v x:=by
 funext x
 unfold cpv;split
 ·rfl
 ·simp
theorem aYF(e:Nat->Nat)(m:Nat):cpv e m (λ_=>0)=λ_=>0:=by
 funext x
 unfold cpv;split <;> rfl
theorem a9A(e:Nat->Nat)(m:Nat)(v:V)(t:Int):cpv e m (λx=>t*v x)=λx=>t*cpv e m v x:=by
 funext x
 unfold cpv;split
 ·rfl
 ·simp
theorem Sp.cpv {v:V} (h:Sp r K v):Sp r (λi=>Go.PM.cpv e m (K i)) (Go.PM.cpv e m v):=by
 induction h with
 | zero=>rw[aYF]; exact .zero
 | add j t hj _ ih=>rw[a32]; exact Sp.add j t hj ih
theorem Sp.bE9 {y:V}(h:Sp r (λi=>Go.PM.cpv e m (K i)) y):∃ v,Sp r K v/\Go.PM.cpv e m v=y:=by
 induction h with
 | zero=>exact⟨_,.zero,aYF e m⟩
 | add j t hj _ ih =>
  obtain⟨v,h1,h2⟩:=ih;exact⟨_,Sp.add j t hj h1,by rw[a32,h2]⟩
theorem bEV {E:Nat}{v:V}(h:∀ x,(v x).natAbs<=E):∀ x,(cpv e m v x).natAbs<=E:=λx=>by
 unfold cpv;split
 ·exact h _
 ·simp
theorem Fam.cpv (h:Fam r K k F B):Fam r (λi=>Go.PM.cpv e m (K i)) k (λj=>Go.PM.cpv e m (F j)) B where
 mem:=λj hj=>Sp.cpv (h.mem j hj)
 span:=by
  obtain⟨D,h0,h1⟩:=h.span;refine⟨D,h0,λv hv=>?_⟩;obtain⟨u,u1,u2⟩:=Sp.bE9 hv;have:=Sp.cpv (e:=e) (m:=m) (h1 u u1);rw[a9A,u2]at this;exact this
 le:=λj hj=>bEV (h.le j hj)
 g1:=h.g1
 g2:=h.g2
 g3:=h.g3
 g4:=h.g4
theorem bAW(Y F:Nat->V)(B:Nat->Nat):Fam 0 Y 0 F B where
 mem:=λj hj=>absurd hj (Nat.not_lt_zero _)
 span:=⟨1,by decide,λv hv=>by
  cases hv with
  | zero=>exact .zero
  | add j _ hj _=>exact absurd hj (Nat.not_lt_zero _)⟩
 le:=λj hj=>absurd hj (Nat.not_lt_zero _)
 g1:=λj hj=>absurd hj (Nat.not_lt_zero _)
 g2:=λj _ hj=>absurd hj (Nat.not_lt_zero _)
 g3:=λj _ _ hj=>absurd hj (Nat.not_lt_zero _)
 g4:=λj _ _ _ hj=>absurd hj (Nat.not_lt_zero _)
theorem En.le' {G:Nat->Nat}(h:En G g n m e):m<=n:=by
 have:∀ j,j<m->j<=e j:=by
  intro j
  induction j with
  | zero=>intro _; omega
  | succ j ih=>intro hj; have:=h.inc j (j+1) Z hj; have:=ih Z; omega
 rcases Nat.eq_zero_or_pos m with q|q
 ·omega
 ·have h1:=this (m-1) Z;have h2:=h.lt (m-1) Z;omega
theorem bF8 {ps:List Int} {d:Nat} {C:Nat->V} {G:Nat->Nat} (h:RS ps n d r C K) (he:En G g n m e) :
  ∃ s L l a K2 c f H p,Hn s L l/\dG m r (λi=>cpv e m (K i)) s L/\Hn a K2 c/\dG m s L a K2/\dG m a K2 s L/\Wd s m L/\Wd a m K2/\Big s m L 1000000000/\Big a m K2 1000000000 /\
   Hn f H p/\Same r (λi=>cpv e m (K i)) f H/\Wd f m H/\Big f m H 1000000000/\dG m f H s L:=by
 have n4:=h.n4;have m4:m<=4:=oR he.le' n4;obtain⟨kq,hk⟩:=h.hk;have r4:r<=4:=oR (Hn.dR hk h.wk).1 n4;have wP:Wd r m (λi=>cpv e m (K i)):=λi _ x hx=>PB hx
 have bP:Big r m (λi=>cpv e m (K i)) 8748:=λi hi x hx=>by
  show (cpv e m (K i) x).natAbs<=8748;rw[vG hx]; exact h.k8 i hi _ (he.lt x hx)
 obtain⟨k,F,B,k4,fm⟩:=h.fk;have fm2:=Fam.cpv (e:=e) (m:=m) fm;have fm0:=bAW (λ_ _=>0) (λ_ _=>0) (λ_=>0);have w0:Wd 0 m (λ_ _=>(0:Int)):=λi hi=>absurd hi (Nat.not_lt_zero _)
 obtain⟨s,L,l,_,a1,a2,a3⟩:=aQF Z m4 wP bP O (D:=4) O O;have bL0:=Y8 (k:=r) (E:=8748) (D:=4) m4 Z wP bP O O O a1 a2;have s4:=(Hn.dR a1 a3).1;obtain⟨a,K2,c,_,b1,b2,b3⟩:=aQF Z m4 a3 (E:=10^18) (λi hi x _=>oR (bL0 i hi x) O) O (D:=18) (oM _) O;obtain⟨f,H,p,f1,f2,f3,f4⟩:=UD (k:=r) (n:=m) (.inl r4) Z Z wP (D:=4) (λi hi x hx=>oR (bP i hi x hx) O) O
 have hsm0:Same r (λi=>cpv e m (K i)) (r+0) (yO r (λi=>cpv e m (K i)) (λ_ _=>0)):=Same.congr λj hj=>by rw[NW _ _ hj]
 have a2':dG m (r+0) (yO r (λi=>cpv e m (K i)) (λ_ _=>0)) s L:=a2.of_same hsm0;obtain⟨q1,q2,q3,_⟩:=a8K m4 k4 (Nat.zero_le _) fm2 fm0 wP w0 a1 a2' b1 b2;refine⟨s,L,l,a,K2,c,f,H,p,a1,a2,b1,b2,dG.back wP a2 b2,a3,b3,q1,q2,f2,f3,f4,?_,a2.of_same f3⟩;obtain⟨f5,hlt⟩:=Hn.dR f2 f4
 by_cases f33:f<=3
 ·obtain⟨D,h0,hsp⟩:=fm2.bG9 fm0;have hmem:=fm2.bHA fm0;have hch:=f2.chain (k:=k+0) (M:=yO k (λj=>cpv e m (F j)) (λ_ _=>0)) λj hj=>⟨D,h0,hsp _ ((hsm0 _).1 ((f3 _).2 (Sp.mem hj)))⟩
  have main:=Hn.aNO f2 ((aYB (aBW (p:=p) Z hch (fm2.a4G fm0) (bHD fm2 fm0 f33))).mono λv hv=>(f3 v).1 ((hsm0 _).2 (Sp.trans hmem hv)));exact λi hi x _=>oR (main i hi x) (bFX f f33)
 ·have hd:d=0:=by
   have:=h.ne;have:=he.le';omega
  subst hd;have hfull:dG m 0 (λ_ _=>0) f H:=λy=>by
   constructor
   ·intro hy;exact⟨λc hc=>Sp.iA (λj hj=>f4 j hj c hc) hy,λx hx=>absurd hx (Nat.not_lt_zero _)⟩
   ·intro hy;have h1:Sp r K (exv e m y):=(h.ker _).2 ⟨λc hc=>he.sZ (.inl hc) _,λx hx=>absurd hx (Nat.not_lt_zero _)⟩;have h2:=Sp.cpv (e:=e) (m:=m) h1;rw[he.Y3 hy.1]at h2;exact(f3 _).1 h2
  exact λi hi x hx=>oR (aX3 m4 rfl f2 hfull i hi x hx) O
end
theorem aW1 {ps:List Int} {n:Nat} {G γ γ':Nat->Nat} (hp:aS (ps,())=some (0,())) (hl:ps.length=n) (hn:n<=12) (rows:List (List Int)) (hk:rows.length<=12) (hlen:∀ r∈rows,r.length=n) (hr:∀ r∈rows,∀ a∈r,a.natAbs<=1000000000)
  (hG:Gr G γ rows.length (KQ rows)) (hγ:∀ g,cnt γ g rows.length<=4) (hc:∀ g,cnt G g n<=4)
  {d r t:Nat} {M K S:Nat->V} {c p s:Nat->Nat} (hM:Hn d M c) (hsm:Same rows.length (KQ rows) d M) (bM:Big d n M 1000000000) (hGM:Gr G γ' d M) (hK:Hn r K p) (hI:dG n d M r K) (bK:Big r n K 1000000000) (hS:Hn t S s) (hI2:dG n r K t S) (bS:Big t n S 1000000000) :
  sN (ps,rows,())=some (Mr t n S,Mr r n K,0,()):=by
 have e0:eqI 0 0=true:=O
 have e1:((ps.length:Nat):Int)=(n:Int):=by rw[hl]
 have g1:=bF2 rows hk hn hlen hr hG hγ hM hsm bM;have wM:Wd d n M:=Hn.width hsm (a4B rows hlen);have s1:=aRL hM hn hGM hc wM bM hK hI bK hS hI2 bS;have s2:=aGA hM hn hGM hc wM bM hK hI bK;simp only[sN,hp,aD,e0,Bool.not_true,oD,e1,g1,s1,s2]
theorem a9U {ps:List Int}{rows A B:List (List Int)}(hp:aS (ps,())=some (0,()))(hl:ps.length<=12)(h:sN (ps,rows,())=some (A,B,0,())):cE (ps,rows,())=some ((ps,(A,B)),0,()):=by
 have e0:eqI 0 0=true:=O
 simp only[cE,h,aD,e0,Bool.not_true,oD,aJX (aQS hp) (show ps.length<=1048576 by omega)]
theorem bGA {ps:List Int}{rows A B:List (List Int)}(hp:aS (ps,())=some (0,()))(hl:ps.length<=12)(h:sN (ps,rows,())=some (A,B,0,())):uL (ps,rows,())=some ((ps,(B,A)),0,()):=by
 have e0:eqI 0 0=true:=O
 simp only[uL,h,aD,e0,Bool.not_true,oD,aJX (aQS hp) (show ps.length<=1048576 by omega)]
theorem bEE {ps qs:List Int} {n n0 d r0:Nat} {C0 K0:Nat->V} {G e:Nat->Nat} (h:RT ps n0 d r0 C0 K0) (hq:aS (qs,())=some (0,())) (hl:qs.length=n) (hn:n<=12) (he:En G 0 n n0 e) (hs:∀ x y,x<n->y<n->G x=G y->G x≠0->x=y) :
  ∃ r K,RG qs n d r G (λ_=>0) (λi=>exv e n0 (C0 i)) K/\cE (qs,Mr d n (λi=>exv e n0 (C0 i)),())=some ((qs,(Mr d n (λi=>exv e n0 (C0 i)),Mr r n K)),0,()):=by
 obtain⟨c0,hc⟩:=h.hc;obtain⟨p0,hk⟩:=h.hk;obtain⟨r,K,p,k1,k2,k3,k4,k5⟩:=bC8 he h.n4 hn hs hc h.wc h.bc hk h.wk h.bk h.ker h.ker2;have hx:=he.aYR hc h.wc;have wX:Wd d n (λi=>exv e n0 (C0 i)):=he.a4E;have bX:=he.aD6 h.bc;have gX:Gr G (λ_=>0) d (λi=>exv e n0 (C0 i)):=he.bDS;have d4:=(Hn.dR hc h.wc).1;have n4:=h.n4;have fX:=a5L he h.n4 hs;refine⟨r,K,⟨hq,hl,hn,gX,fX,⟨_,hx⟩,⟨_,k1⟩,wX,k3,bX,k4,k2,k5⟩,?_⟩;refine a9U hq Z (aW1 hq hl hn _ (by rw[cN]; omega) aQY (aYQ bX) (γ:=λ_=>0) (λi hi x hx=>?_) (λg=>?_) fX hx (aIS wX) bX gX k1 k2 k4 hx k5 bX)
 ·rw[cN]at hi;rw[aOV wX hi]at hx;exact gX i hi x hx
 ·rw[cN,aE9];split <;> omega
theorem En.bFM {G e:Nat->Nat} {g n m:Nat} (he:En G g n m e):Hn m (λj=>un (e j)) e:=by
 refine⟨he.inc,λi hi x hx=>E9 Z,λi hi=>by show 0<un (e i) (e i); rw[M5]; decide,λi j a b=>?_⟩;show 0<=un (e i) (e j)/\un (e i) (e j)<un (e j) (e j);have:=he.inc i j a b;rw[E9 Z,M5];decide
theorem bDO {G e:Nat->Nat}{g n m:Nat}(he:En G g n m e)(v:V):Sp m (λj=>un (e j)) v↔∀ x,n<=x\/G x≠g->v x=0:=by
 constructor
 ·intro h x hx;refine Sp.iA (λj hj=>E9 λq=>?_) h;have h1:=he.lt j hj;have h2:=he.at_ j hj;subst q;rcases hx with hx|hx
  ·omega
  ·exact hx h2
 ·intro h;rw[<- he.a7X h];have key:∀ k,k<=m->Sp m (λj=>un (e j)) (exv e k (cpv e m v)):=by
   intro k
   induction k with
   | zero=>intro _; exact .zero
   | succ k ih =>
    intro hk;refine cast (oZ _ ?_) (Sp.add k (cpv e m v k) (show k<m by omega) (ih Z))
    funext x
    show exv e k (cpv e m v) x+cpv e m v k*un (e k) x=if e k=x then cpv e m v k else exv e k (cpv e m v) x
    by_cases q:e k=x
    ·subst q;rw[if_pos rfl,M5,aW4 λl hl=>by have:=he.inc l k hl Z; omega];simp
    ·rw[if_neg q,E9 (λq'=>q q'.symm)];simp
  exact key m (oM _)
theorem En.a96 {G e:Nat->Nat}{g n m d:Nat}{C0:Nat->V}(h:En G g n m e){v:V}(hv:Sp d C0 v):Sp d (λi=>exv e m (C0 i)) (exv e m v):=by
 have hz:∀ x (u:V),(n<=x\/G x≠g)->exv e m u x=0:=λx u hx=>h.sZ hx u
 have ha:∀ x,¬(n<=x\/G x≠g)->∃ l,l<m/\e l=x:=λx hx=>h.sur x Z (Classical.byContradiction λq=>hx (.inr q))
 induction hv with
 | zero =>
  have:exv e m (λ_=>0)=λ_=>0:=by
   funext x
   by_cases hx:n<=x\/G x≠g
   ·exact hz x _ hx
   ·obtain⟨l,h1,h2⟩:=ha x hx;rw[<- h2,h.RW h1]
  rw[this]; exact .zero
 | add j t hj _ ih =>
  refine cast (oZ _ ?_) (Sp.add j t hj ih)
  funext x
  by_cases hx:n<=x\/G x≠g
  ·show exv e m _ x+t*exv e m (C0 j) x=exv e m _ x;rw[hz x _ hx,hz x _ hx,hz x _ hx]; simp
  ·obtain⟨l,h1,h2⟩:=ha x hx;show exv e m _ x+t*exv e m (C0 j) x=exv e m _ x;rw[<- h2,h.RW h1,h.RW h1,h.RW h1]
theorem a90 {ps qs:List Int} {n m d r g:Nat} {C K:Nat->V} {G e:Nat->Nat} (h:RS ps n d r C K) (hq:aS (qs,())=some (0,())) (hl:qs.length=m) (he:En G g n m e) :
  ∃ s a L K2,RT qs m s a L K2/\vK ((n:Int),Mr m n (λj=>un (e j)),())=some (((n:Int),Mr m n (λj=>un (e j))),0,()) /\
   nG (((n:Int),Mr d n C),((n:Int),Mr m n (λj=>un (e j))),())=some (((n:Int),Mr s n (λi=>exv e m (L i))),0,()) /\
   cE (qs,Mr s m L,())=some ((qs,(Mr s m L,Mr a m K2)),0,()) /\
   uL (qs,Mr r m (λi=>cpv e m (K i)),())=some ((qs,(Mr s m L,Mr a m K2)),0,())/\(∀ i,i<s->cpv e m (exv e m (L i))=L i):=by
 obtain⟨s,L,l,a,K2,c,f,H,p,a1,a2,b1,b2,b3,w1,w2,q1,q2,f1,f2,f3,f4,f5⟩:=bF8 h he;have n4:=h.n4;have m4:m<=4:=oR he.le' n4;have s4:=(Hn.dR a1 w1).1;have f44:=(Hn.dR f1 f3).1;obtain⟨hcq,hc⟩:=h.hc;obtain⟨hkq,hk⟩:=h.hk;have d4:=(Hn.dR hc h.wc).1;have r4:=(Hn.dR hk h.wk).1;have hU:=he.bFM;have wU:Wd m n (λj=>un (e j)):=λj hj x hx=>E9 (by have:=he.lt j hj; omega)
 have bU:Big m n (λj=>un (e j)) 1:=λj hj x hx=>by
  show (un (e j) x).natAbs<=1;unfold un;split <;> decide
 have bU9:Big m n (λj=>un (e j)) 1000000000:=λj hj x hx=>oR (bU j hj x hx) O
 have gr0:∀ (k:Nat) (M:Nat->V),Gr (λ_=>0) (λ_=>0) k M:=λk M i _ x _=>rfl
 have c0:∀ k,k<=4->∀ g,cnt (λ_=>0) g k<=4:=λk hk g=>by rw[aE9]; split <;> omega
 have hP:Wd r m (λi=>cpv e m (K i)):=λi _ x hx=>PB hx
 have bP:Big r m (λi=>cpv e m (K i)) 1000000000:=λi hi x hx=>by
  show (cpv e m (K i) x).natAbs<=_;rw[vG hx]; exact h.bk i hi _ (he.lt x hx)
 have hcp:∀ i,i<s->cpv e m (exv e m (L i))=L i:=λi hi=>he.Y3 (w1 i hi)
 have hs:∀ v,Sp s (λi=>exv e m (L i)) v↔Sp d C v/\Sp m (λj=>un (e j)) v:=λv=>by
  rw[bDO he];constructor
  ·intro hv;have hz:∀ x,n<=x\/G x≠g->v x=0:=λx hx=>Sp.iA (λj hj=>he.sZ hx _) hv
   refine⟨(h.ker2 v).2 ⟨λx hx=>hz x (.inl hx),λi hi=>?_⟩,hz⟩;have h1:=Sp.cpv (e:=e) (m:=m) hv;have h2:Sp s L (cpv e m v):=(Same.congr hcp _).1 h1;have h3:=((a2 _).1 h2).2 i hi;rw[he.dot λx _ hgx=>by rw[hz x (.inr hgx)]; simp];exact h3
  ·rintro⟨hv,hz⟩;have h2:Sp s L (cpv e m v):=(a2 _).2 ⟨λx hx=>PB hx,λi hi=>by
    have h3:=((h.ker2 v).1 hv).2 i hi;rw[he.dot λx _ hgx=>by rw[hz x (.inr hgx)]; simp]at h3;exact h3⟩
   have h4:=he.a96 h2;rwa[he.a7X hz]at h4
 have g2:=bF2 (G:=λ_=>0) (γ:=λ_=>0) (Mr m n (λj=>un (e j))) (by rw[cN]; omega) Z aQY (aYQ bU9) (gr0 _ _) (by rw[cN]; exact c0 m m4) hU (aIS wU) bU9;have hI:nG (((n:Int),Mr d n C),((n:Int),Mr m n (λj=>un (e j))),())=some (((n:Int),Mr s n (λi=>exv e m (L i))),0,()):=by
  by_cases h7:d+m<=7
  ·exact(aJS hc hU n4 h.wc wU h.bc bU9 (E:=gE 8748) h.c8 (λj hj x hx=>oR (bU j hj x hx) (show 1<=gE 8748 0 by decide)) (bG0 h7) (he.aYR a1 w1) hs (he.aD6 q1)).1
  ·have m5:=he.le';have a1':d=n:=Z
   have a2':m=n:=Z
   have r0:r=0:=by have:=h.ne; omega
   subst a1';exact(aJS hc hU n4 h.wc wU h.bc bU9 (E:=gE 1) (bAB hc h.wc r0 h.ker2) bU (bG3 Z) (he.aYR a1 w1) hs (he.aD6 q1)).1
 have hF:=aW1 (G:=λ_=>0) (γ:=λ_=>0) (γ':=λ_=>0) hq hl Z (Mr s m L) (by rw[cN]; omega) aQY (aYQ q1) (gr0 _ _) (by rw[cN]; exact c0 s Z) (c0 m m4) a1 (aIS w1) q1 (gr0 _ _) b1 b2 q2 a1 b3 q1;have hF2:=aW1 (G:=λ_=>0) (γ:=λ_=>0) (γ':=λ_=>0) hq hl Z (Mr r m (λi=>cpv e m (K i))) (by rw[cN]; omega) aQY (aYQ bP) (gr0 _ _) (by rw[cN]; exact c0 r Z) (c0 m m4) f1 ((aIS hP).trans f2) f4 (gr0 _ _) a1 f5 q1 b1 b2 q2
 exact⟨s,a,L,K2,⟨hq,hl,m4,⟨l,a1⟩,⟨c,b1⟩,w1,w2,q1,q2,b2,b3⟩,g2,hI,a9U hq Z hF,bGA hq Z hF2,hcp⟩
section
variable {n m m' d d' r r' s:Nat} {e e':Nat->Nat} {G:Nat->Nat} {C C' K K':Nat->V}
def Two(n m m':Nat) (e e':Nat->Nat) (d:Nat) (C:Nat->V) (d':Nat) (C':Nat->V) (v:V):Prop:=(∀ x,n<=x->v x=0)/\Sp d C (cpv e m v)/\Sp d' C' (cpv e' m' v)
theorem aVG {g g':Nat}(h0:En G g n m e)(h1:En G g' n m' e')(hg:g≠g')(v:V):cpv e m (exv e' m' v)=λ_=>0:=by
 funext j
 by_cases hj:j<m
 ·rw[vG hj,h1.sZ (.inr (by rw[h0.at_ j hj]; exact hg))]
 ·rw[PB Z]
abbrev exa(m m':Nat) (e e':Nat->Nat) (d:Nat) (C C':Nat->V):Nat->V:=yO d (λi=>exv e m (C i)) (λi=>exv e' m' (C' i))
theorem aII {i:Nat}(h:i<d):exa m m' e e' d C C' i=exv e m (C i):=NW _ _ h
theorem bC1(i:Nat):exa m m' e e' d C C' (d+i)=exv e' m' (C' i):=aOT _ _
theorem aLZ {i:Nat}(h:¬ i<d):exa m m' e e' d C C' i=exv e' m' (C' (i-d)):=by simp[yO,h]
theorem a8S(h0:En G 0 n m e)(h1:En G 1 n m' e'):Wd (d+d') n (exa m m' e e' d C C'):=λi hi x hx=>by
 by_cases q:i<d
 ·rw[aII q]; exact h0.sZ (.inl hx) _
 ·rw[aLZ q]; exact h1.sZ (.inl hx) _
theorem bCX(h0:En G 0 n m e)(h1:En G 1 n m' e'){E:Nat}(b:Big d m C E)(b':Big d' m' C' E):Big (d+d') n (exa m m' e e' d C C') E:=λi hi x hx=>by
 by_cases q:i<d
 ·rw[aII q]; exact h0.aD6 b i q x hx
 ·rw[aLZ q]; exact h1.aD6 b' (i-d) Z x hx
theorem a8H(h0:En G 0 n m e)(h1:En G 1 n m' e'):Gr G (λi=>if i<d then 0 else 1) (d+d') (exa m m' e e' d C C'):=λi hi x hx=>by
 show G x=if i<d then 0 else 1
 by_cases q:i<d
 ·rw[aII q]at hx;rw[if_pos q];exact Classical.byContradiction λg=>hx (h0.sZ (.inr g) _)
 ·rw[aLZ q]at hx;rw[if_neg q];exact Classical.byContradiction λg=>hx (h1.sZ (.inr g) _)
theorem bBT {γ:Nat->Nat}{g t:Nat}(hg:γ t≠g):cnt γ g (t+1)=cnt γ g t:=by
 show cnt γ g t+ind γ g t=_;unfold ind;rw[if_neg hg]; rfl
theorem a43(d d':Nat)(h:d<=4)(h':d'<=4)(g:Nat):cnt (λi=>if i<d then 0 else 1) g (d+d')<=4:=by
 have key:∀ k,cnt (λi=>if i<d then 0 else 1) g k<=if g=0 then min k d else k-d:=by
  intro k
  induction k with
  | zero=>exact Nat.zero_le _
  | succ k ih =>
   by_cases hg:(if k<d then 0 else 1)=g
   ·have:cnt (λi=>if i<d then 0 else 1) g (k+1)=cnt (λi=>if i<d then 0 else 1) g k+1:=by
     show _+ind _ g k=_;unfold ind;rw[if_pos hg]; rfl
    rw[this];split at hg <;> subst hg <;> simp only[if_true,if_false,Nat.one_ne_zero]at ih ⊢ <;> omega
   ·rw[bBT (γ:=λi=>if i<d then 0 else 1) hg]
    by_cases g0:g=0
    ·rw[if_pos g0]at ih ⊢; omega
    ·rw[if_neg g0]at ih ⊢; omega
 have:=key (d+d');split at this <;> omega
theorem a9P(h0:En G 0 n m e)(h1:En G 1 n m' e')(hG:∀ x,x<n->G x=0\/G x=1){v:V}(hz:∀ x,n<=x->v x=0):(λx=>exv e m (cpv e m v) x+exv e' m' (cpv e' m' v) x)=v:=by
 funext x
 by_cases hx:n<=x
 ·rw[h0.sZ (.inl hx),h1.sZ (.inl hx),hz x hx]; rfl
 ·rcases hG x Z with g|g
  ·obtain⟨l,l1,l2⟩:=h0.sur x Z g;rw[h1.sZ (.inr Z),<- l2,h0.RW l1,vG l1]; simp
  ·obtain⟨l,l1,l2⟩:=h1.sur x Z g;rw[h0.sZ (.inr Z),<- l2,h1.RW l1,vG l1]; simp
theorem a16(h0:En G 0 n m e)(h1:En G 1 n m' e')(hG:∀ x,x<n->G x=0\/G x=1)(wC:Wd d m C)(wC':Wd d' m' C')(v:V):Sp (d+d') (exa m m' e e' d C C') v↔Two n m m' e e' d C d' C' v:=by
 constructor
 ·intro hv;refine⟨λx hx=>Sp.iA (λj hj=>a8S h0 h1 j hj x hx) hv,?_,?_⟩
  ·refine Sp.trans (λj hj=>?_) (Sp.cpv (e:=e) (m:=m) hv)
   by_cases q:j<d
   ·rw[aII q,h0.Y3 (wC j q)]; exact Sp.mem q
   ·rw[aLZ q,aVG h0 h1 O]; exact .zero
  ·refine Sp.trans (λj hj=>?_) (Sp.cpv (e:=e') (m:=m') hv)
   by_cases q:j<d
   ·rw[aII q,aVG h1 h0 O]; exact .zero
   ·rw[aLZ q,h1.Y3 (wC' (j-d) Z)]; exact Sp.mem Z
 ·rintro⟨hz,h2,h3⟩;have:=Sp.sum (aLJ (k':=d') (M':=λi=>exv e' m' (C' i)) (h0.a96 h2)) (aG8 (k:=d) (M:=λi=>exv e m (C i)) (h1.a96 h3));rwa[a9P h0 h1 hG hz]at this
theorem a5K(h0:En G 0 n m e)(h1:En G 1 n m' e')(wC:Wd d m C)(wC':Wd d' m' C')(hI:dG m d C r K)(hI':dG m' d' C' r' K')(v:V):Ker n (d+d') (exa m m' e e' d C C') v↔Two n m m' e e' r K r' K' v:=by
 have dA:∀ i,i<d->dot n v (exv e m (C i))=dot m (cpv e m v) (C i):=λi hi=>by rw[h0.dot λx _ hg=>by rw[h0.sZ (.inr hg)]; simp,h0.Y3 (wC i hi)]
 have dB:∀ i,i<d'->dot n v (exv e' m' (C' i))=dot m' (cpv e' m' v) (C' i):=λi hi=>by rw[h1.dot λx _ hg=>by rw[h1.sZ (.inr hg)]; simp,h1.Y3 (wC' i hi)]
 constructor
 ·rintro⟨hz,hk⟩;refine⟨hz,(hI _).2 ⟨λx hx=>PB hx,λi hi=>?_⟩,(hI' _).2 ⟨λx hx=>PB hx,λi hi=>?_⟩⟩
  ·have h2:=hk i Z;rw[aII hi,dA i hi]at h2;exact h2
  ·have h2:=hk (d+i) Z;rw[bC1,dB i hi]at h2;exact h2
 ·rintro⟨hz,h2,h3⟩;refine⟨hz,λx hx=>?_⟩
  by_cases q:x<d
  ·rw[aII q,dA x q]; exact((hI _).1 h2).2 x q
  ·rw[aLZ q,dB (x-d) Z]; exact((hI' _).1 h3).2 _ Z
theorem a30 {g k kk:Nat} {q c0 ee:Nat->Nat} {J D:Nat->V} (he:En G g n k ee) (hJ:Hn s J q) (wJ:Wd s n J) (gJ:Gr G (λi=>G (q i)) s J) (hD:Hn kk D c0) (wD:Wd kk k D) (bD:Big kk k D 1000000000)
  (h1:∀ v,Sp s J v->Sp kk D (cpv ee k v)) (h2:∀ v,Sp kk D v->Sp s J (exv ee k v)):∀ i,i<s->G (q i)=g->∀ x,x<n->G x=g->(J i x).natAbs<=1000000000:=λi hi hg x hx hgx=>by
 obtain⟨e2,he2⟩:=aHV (λi=>G (q i)) g s;obtain⟨j,j1,j2⟩:=he2.sur i hi hg;obtain⟨w,hw⟩:=bBR hJ wJ he he2;obtain⟨u1,_,u3⟩:=Hn.unique hD hw λv=>by
  constructor
  ·intro hv;have h3:=Sp.cp gJ he he2 (h2 v hv);rwa[he.Y3 (λx hx=>Sp.iA (λj hj=>wD j hj x hx) hv)]at h3
  ·intro hv;exact Sp.trans (λj hj=>h1 _ (Sp.mem (he2.lt j hj))) hv
 obtain⟨l,l1,l2⟩:=he.sur x hx hgx;have b:=bD j Z l l1;rw[u3 j Z,vG l1,l2,j2]at b;exact b
theorem aYS(h0:En G 0 n m e)(h1:En G 1 n m' e')(hG:∀ x,x<n->G x=0\/G x=1)(hn:n<=12){c c':Nat->Nat}(hC:Hn d C c)(wC:Wd d m C)(bC:Big d m C 1000000000)(hC':Hn d' C' c')(wC':Wd d' m' C')(bC':Big d' m' C' 1000000000)(d4:d<=4)(d4':d'<=4) :
  ∃ s J q,Hn s J q/\Same (d+d') (exa m m' e e' d C C') s J/\Wd s n J/\Big s n J 1000000000/\Gr G (λi=>G (q i)) s J:=by
 obtain⟨s,J,q,_,j1,j2,j3⟩:=aNI (D:=9) Z Z (a8H h0 h1 (d:=d) (d':=d') (C:=C) (C':=C')) (a43 d d' d4 d4') (a8S h0 h1) (by rw[<- p9]; exact bCX h0 h1 bC bC') O;have hT:∀ v,Sp s J v↔Two n m m' e e' d C d' C' v:=λv=>(j2 v).symm.trans (a16 h0 h1 hG wC wC' v)
 have gJ:Gr G (λi=>G (q i)) s J:=a9J j1 λy g hy=>(hT _).2 (by
  obtain⟨a1,a2,a3⟩:=(hT y).1 hy;have c0:∀ (ee:Nat->Nat) (k g':Nat),En G g' n k ee->cpv ee k (prj G g y)=if g'=g then cpv ee k y else λ_=>0:=λee k g' he=>by
   split
   next q=>
    funext j
    by_cases hj:j<k
    ·rw[vG hj,vG hj]; unfold prj; rw[if_pos (by rw[he.at_ j hj,q])]
    ·rw[PB Z,PB Z]
   next q=>
    funext j
    by_cases hj:j<k
    ·rw[vG hj]; unfold prj; rw[if_neg (by rw[he.at_ j hj]; exact q)]
    ·rw[PB Z]
  refine⟨λx hx=>by unfold prj; rw[a1 x hx]; split <;> rfl,?_,?_⟩
  ·rw[c0 e m 0 h0]; split
   ·exact a2
   ·exact .zero
  ·rw[c0 e' m' 1 h1]; split
   ·exact a3
   ·exact .zero)
 refine⟨s,J,q,j1,j2,j3,λi hi x hx=>?_,gJ⟩
 by_cases hgx:G x=G (q i)
 ·rcases hG x hx with g|g
  ·exact a30 h0 j1 j3 gJ hC wC bC (λv hv=>((hT v).1 hv).2.1) (λv hv=>(hT _).2 ⟨λx hx=>h0.sZ (.inl hx) _,by rw[h0.Y3 (λx hx=>Sp.iA (λj hj=>wC j hj x hx) hv)]; exact hv,by rw[aVG h1 h0 O]; exact .zero⟩) i hi Z x hx g
  ·exact a30 h1 j1 j3 gJ hC' wC' bC' (λv hv=>((hT v).1 hv).2.2) (λv hv=>(hT _).2 ⟨λx hx=>h1.sZ (.inl hx) _,by rw[aVG h0 h1 O]; exact .zero,by rw[h1.Y3 (λx hx=>Sp.iA (λj hj=>wC' j hj x hx) hv)]; exact hv⟩) i hi Z x hx g
 ·rw[gJ.at_ hi hgx]; simp
end
section
variable {n m m' d d' r r' s:Nat} {e e':Nat->Nat} {G γ:Nat->Nat} {A B C C' K K':Nat->V} {p q:Nat->Nat}
theorem bFV(hA:Hn d A p) (hB:Hn d' B q) (hn:n<=12) (wA:Wd d n A) (wB:Wd d' n B) (bA:Big d n A 1000000000) (bB:Big d' n B 1000000000) (hG:Gr G γ (d+d') (yO d A B)) (hγ:∀ g,cnt γ g (d+d')<=4) {s:Nat} {J:Nat->V} {c:Nat->Nat} (hJ:Hn s J c) (hs:Same (d+d') (yO d A B) s J) (bJ:Big s n J 1000000000) :
  ES (((n:Int),Mr d n A),((n:Int),Mr d' n B),())=some (((n:Int),Mr s n J),0,()):=by
 have hd:=(Hn.dR hA wA).1;have hd':=(Hn.dR hB wB).1;have cb:=aJ9 hA hB Z wA wB bA bB;have e0:eqI 0 0=true:=O
 have l1:=aPV (d:=d) (n:=n) (M:=A) [] Z Z bA;have l2:=aPV (d:=d') (n:=n) (M:=B) ([]++(List.range d).map (λi=>Zr n (A i))) Z Z bB;have e1:([]++(List.range d).map (λi=>Zr n (A i))).length=d:=R
 have hL:gI 0 (d+d') n ((List.range d).map (λi=>(([]:List (List ByteArray)).length+i,0,n))++(List.range d').map (λi=>(([]++(List.range d).map (λi=>Zr n (A i))).length+i,0,n))) ([]++(List.range d).map (λi=>Zr n (A i))++(List.range d').map (λi=>Zr n (B i))) (λi=>i) (yO d A B):=by
  refine⟨?_,λi hi=>⟨[],rfl,?_⟩,λi j _ _ e=>e⟩
  ·rw[e1,List.range_add,List.map_append,List.map_map]
   congr 1
   refine List.map_congr_left λi _=>?_
   simp
  ·rw[List.nil_append,List.nil_append]
   by_cases g:i<d
   ·rw[List.getElem?_append_left (by simpa using g),List.getElem?_map,List.getElem?_range g,NW A B g]; rfl
   ·have e:yO d A B i=B (i-d):=by simp[yO,g]
    rw[List.getElem?_append_right (by simp; omega),List.getElem?_map,List.length_map,List.length_range,List.getElem?_range Z,e]; rfl
 obtain⟨m',A',J',M',t,u,g1,g2,g3,g4,g5,g6⟩:=aQ3 (show d+d'<1048576 by omega) (show n<1048576 by omega) hL (wA.yO wB) hG hγ (by show Big (d+d') n (yO d A B) (10^dg 9 0); rw[show (10^dg 9 0:Nat)=1000000000 by decide]; exact bA.yO bB) (a9E (D:=9) O);obtain⟨f1,_,f3⟩:=Hn.unique hJ g4 (hs.symm.trans g5);subst f1;have hk:=(Hn.dR hJ λi hi x hx=>by rw[f3 i hi]; exact g6 i Z x hx).1;have hsh:=QR g3 g2 Z Z (λi hi x hx=>by rw[<- f3 i hi]; exact bJ i hi x hx) (n:Int)
 have e2:(List.range s).map (λi=>Vr n (M' i))=Mr s n J:=by
  refine List.map_congr_left λi hi=>?_
  rw[f3 i (List.mem_range.1 hi)]
 rw[e2]at hsh;have b1:Nat.ble ((List.range d').map (λi=>(([]++(List.range d).map (λi=>Zr n (A i))).length+i,0,n))).length 1048576=true:=by rw[dO,List.length_map,List.length_range]; exact oT Z
 have b2:Nat.ble ((List.range d).map (λi=>(([]:List (List ByteArray)).length+i,0,n))).length 1048576=true:=by rw[dO,List.length_map,List.length_range]; exact oT Z
 simp only[ES,cb,aD,e0,Bool.not_true,oD,l1,l2,b1,b2,oC,g1,hsh]
theorem bB6 {pa pb qs:List Int} (ha:RT pa m d r C K) (hb:RT pb m' d' r' C' K') (hq:aS (qs,())=some (0,())) (hl:qs.length=n) (hn:n<=12) (h0:En G 0 n m e) (h1:En G 1 n m' e') (hG:∀ x,x<n->G x=0\/G x=1) :
  ∃ s z J Z,ES (((n:Int),Mr d n (λi=>exv e m (C i))),((n:Int),Mr d' n (λi=>exv e' m' (C' i))),())=some (((n:Int),Mr s n J),0,())/\s<=12/\z<=12 /\
   cE (qs,Mr s n J,())=some ((qs,(Mr s n J,Mr z n Z)),0,()):=by
 obtain⟨c,hc⟩:=ha.hc;obtain⟨c',hc'⟩:=hb.hc;obtain⟨k,hk⟩:=ha.hk;obtain⟨k',hk'⟩:=hb.hk;have m4:=ha.n4;have m4':=hb.n4;have d4:=(Hn.dR hc ha.wc).1;have d4':=(Hn.dR hc' hb.wc).1;have r4:=(Hn.dR hk ha.wk).1;have r4':=(Hn.dR hk' hb.wk).1;obtain⟨s,J,j,j1,j2,j3,j4,j5⟩:=aYS h0 h1 hG hn hc ha.wc ha.bc hc' hb.wc hb.bc za za;obtain⟨z,Z,y,z1,z2,z3,z4,z5⟩:=aYS h0 h1 hG hn hk ha.wk ha.bk hk' hb.wk hb.bk za za
 have i1:dG n s J z Z:=dG.of_same j2 λv=>((z2 v).symm.trans (a16 h0 h1 hG ha.wk hb.wk v)).trans (a5K h0 h1 ha.wc hb.wc ha.ker hb.ker v).symm
 have i2:dG n z Z s J:=dG.of_same z2 λv=>((j2 v).symm.trans (a16 h0 h1 hG ha.wc hb.wc v)).trans (a5K h0 h1 ha.wk hb.wk ha.ker2 hb.ker2 v).symm
 have s12:=(Hn.dR j1 j3).1;have z12:=(Hn.dR z1 z3).1;have hS:=bFV (h0.aYR hc ha.wc) (h1.aYR hc' hb.wc) hn h0.a4E h1.a4E (h0.aD6 ha.bc) (h1.aD6 hb.bc) (a8H h0 h1) (a43 d d' za za) j1 j2 j4;have hc4:∀ g,cnt G g n<=4:=λg=>by
  rcases(show g=0\/g=1\/(g≠0/\g≠1)by omega)with rfl|rfl|⟨g1,g2⟩
  ·rw[<- h0.cnt]; exact m4
  ·rw[<- h1.cnt]; exact m4'
  ·obtain⟨ee,he⟩:=aHV G g n;refine Classical.byContradiction λq=>?_
   have a1:=he.at_ 0 za;have a2:=he.lt 0 za;rcases hG _ a2 with g3|g3 <;> omega
 have hj:∀ g,cnt (λi=>G (j i)) g s<=4:=λg=>oR (aWJ g j1.inc (Hn.dR j1 j3).2) (hc4 g)
 refine⟨s,z,J,Z,hS,by omega,by omega,a9U hq za (aW1 hq hl hn (Mr s n J) (by rw[cN]; omega) aQY (aYQ j4) (γ:=λi=>G (j i)) (λi hi x hx=>?_) (by rw[cN]; exact hj) hc4 j1 (aIS j3) j4 j5 z1 i1 z4 j1 i2 j4)⟩;rw[cN]at hi;rw[aOV j3 hi]at hx;exact j5 i hi x hx
end
theorem ZG {σ τ:Type} {step:σ->Option (σ⊕τ)} {N:Nat} (s:Nat->σ) (k:Nat) (good:Nat->Prop) (P:τ->Prop) (hk:k<N)
  (h:∀ t,t<k->(∀ u,u<t->good u)->(step (s t)=some (.inl (s (t+1)))/\good t)\/∃ e,step (s t)=some (.inr e)/\P e)
  (he:(∀ t,t<k->good t)->∃ e,step (s k)=some (.inr e)/\P e):∃ e,bF step N (s 0)=some e/\P e:=by
 have aux:∀ m j N,j+m=k->m<N->(∀ u,u<j->good u)->∃ e,bF step N (s j)=some e/\P e:=by
  intro m
  induction m with
  | zero =>
   intro j N hj hN hg;obtain rfl:j=k:=Z
   obtain⟨N,rfl⟩:∃ M,N=M+1:=⟨N-1,by omega⟩;obtain⟨e,h1,h2⟩:=he hg;exact⟨e,by rw[cZ,h1],h2⟩
  | succ m ih =>
   intro j N hj hN hg;obtain⟨N,rfl⟩:∃ M,N=M+1:=⟨N-1,by omega⟩;rcases h j Z hg with ⟨h1,h2⟩|⟨e,h1,h2⟩
   ·obtain⟨e,g1,g2⟩:=ih (j+1) N Z Z λu hu=>by
     by_cases e:u=j
     ·subst e; exact h2
     ·exact hg u Z
    exact⟨e,by rw[cZ,h1]; exact g1,g2⟩
   ·exact⟨e,by rw[cZ,h1],h2⟩
 exact aux k 0 N Z hk λu hu=>Z
section
variable {k n:Nat} {M:Nat->V}
end
theorem aSW:((List.range 96).all λk=>(zH (((k:Nat):Int)+2,())).isSome)=true:=Y
theorem aYZ(x:Int):∃ b,zH (x,())=some (b,()):=by
 by_cases h2:x<2
 ·have e1:ltI x 2=true:=by rw[aE]; exact oT h2
  exact⟨false,by simp only[zH,e1,oC]⟩
 ·by_cases h9:97<x
  ·have e1:ltI x 2=false:=by rw[aE]; exact oF h2
   have e2:ltI 97 x=true:=by rw[aE]; exact oT h9
   exact⟨false,by simp only[zH,e1,e2,oC,oD]⟩
  ·have h:=List.all_eq_true.1 aSW (x-2).toNat (List.mem_range.2 Z);have e:(((x-2).toNat:Nat):Int)+2=x:=Z
   rw[e]at h;cases hx:zH (x,())with
   | none=>rw[hx]at h; cases h
   | some y=>obtain⟨b,⟨⟩⟩:=y; exact⟨b,rfl⟩
theorem aHS(q:List Int)(hl:q.length<1048576):∃ w,aS (q,())=some (w,())/\(w=0->0<q.length/\q.length<=6/\∀ t,t+1<q.length->q.getD t 0<q.getD (t+1) 0):=by
 by_cases h0:q.length=0
 ·have e1:eqI (q.length:Int) 0=true:=by rw[eG]; exact oT Z
  exact⟨13,by simp only[aS,e1,oC],λh=>by cases h⟩
 have e1:eqI (q.length:Int) 0=false:=by rw[eG]; exact oF Z
 by_cases h6:6<q.length
 ·have e2:ltI 6 (q.length:Int)=true:=by rw[aE]; exact oT Z
  exact⟨4,by simp only[aS,e1,e2,oC,oD],λh=>by cases h⟩
 have e2:ltI 6 (q.length:Int)=false:=by rw[aE]; exact oF Z
 obtain⟨e,k1,k2⟩:=ZG (step:=sJ) (N:=2^64) (λt=>(q,q,(q.length:Int),(t:Int),())) q.length (λt=>0<t->q.getD (t-1) 0<q.getD t 0)
  (λe=>(∃ w:Int,w≠0/\e=.inl (w,()))\/(e=.inr ()/\∀ t,t<q.length->0<t->q.getD (t-1) 0<q.getD t 0)) Z (λt ht _=>by
  have a1:ltI (t:Int) (q.length:Int)=true:=by rw[aE]; exact oT Z
  have a2:aF (t:Int) q.length=true:=by rw[aL]; exact oT Z
  have a3:((t:Nat):Int).toNat=t:=oN _;have a4:=bO t Z;obtain⟨b,hb⟩:=aYZ (q.getD t 0);cases b with
  | false=>exact .inr ⟨.inl (25,()),by simp only[sJ,a1,a2,a3,hb,aD,oC,oD],.inl ⟨25,by decide,rfl⟩⟩
  | true =>
   by_cases g:0<t
   ·have a5:ltI 0 (t:Int)=true:=by rw[aE]; exact oT Z
    have a6:aB .i64 ((t:Int)-1)=((t-1:Nat):Int):=by rw[wrap64 Z Z]; omega
    have a7:aF ((t-1:Nat):Int) q.length=true:=by rw[aL]; exact oT Z
    have a8:((t-1:Nat):Int).toNat=t-1:=oN _
    by_cases g2:q.getD (t-1) 0<q.getD t 0
    ·have a9:ltI (q.getD (t-1) 0) (q.getD t 0)=true:=by rw[aE]; exact oT g2
     exact .inl ⟨by simp only[sJ,a1,a2,a3,hb,a5,a6,a7,a8,a9,a4,aD,oC,Bool.not_true,oD],λ_=>g2⟩
    ·have a9:ltI (q.getD (t-1) 0) (q.getD t 0)=false:=by rw[aE]; exact oF g2
     exact .inr ⟨.inl (6,()),by simp only[sJ,a1,a2,a3,hb,a5,a6,a7,a8,a9,aD,oC,Bool.not_false],.inl ⟨6,by decide,rfl⟩⟩
   ·have a5:ltI 0 (t:Int)=false:=by rw[aE]; exact oF Z
    exact .inl ⟨by simp only[sJ,a1,a2,a3,hb,a5,a4,aD,oC,oD],λh=>absurd h g⟩) (λhg=>by
  have a1:ltI (q.length:Int) (q.length:Int)=false:=by rw[aE]; exact oF Z
  exact⟨.inr (),by simp only[sJ,a1,oD],.inr ⟨rfl,hg⟩⟩)
 have key:NP (q,q,(q.length:Int),0,())=some e:=k1;rcases k2 with ⟨w,hw,rfl⟩|⟨rfl,k2⟩
 ·exact⟨w,by simp only[aS,e1,e2,oD,key,aD,CU],λh=>absurd h hw⟩
 ·exact⟨0,by simp only[aS,e1,e2,oD,key,aD,gB],λ_=>⟨by omega,by omega,λt ht=>k2 (t+1) ht Z⟩⟩
def Up(q:List Int):Prop:=∀ i j,i<j->j<q.length->q.getD i 0<q.getD j 0
theorem Up.of {q:List Int}(h:∀ t,t+1<q.length->q.getD t 0<q.getD (t+1) 0):Up q:=λi j hij hj=>by
 obtain⟨k,rfl⟩:∃ k,j=i+1+k:=⟨j-(i+1),by omega⟩
 induction k with
 | zero=>exact h i hj
 | succ k ih =>
  have h1:=ih Z Z;have h2:=h (i+1+k) hj;have h3:i+1+(k+1)=i+1+k+1:=Z
  rw[h3];omega
theorem O9 {q:List Int}(h:aS (q,())=some (0,()))(hl:q.length<1048576):q.length<=6/\Up q:=by
 obtain⟨w,h1,h2⟩:=aHS q hl;rw[h1]at h;obtain rfl:w=0:=by simpa using h
 obtain⟨_,h3,h4⟩:=h2 rfl;exact⟨h3,Up.of h4⟩
theorem Up.inj {q:List Int}(h:Up q){i j:Nat}(hi:i<q.length)(hj:j<q.length)(e:q.getD i 0=q.getD j 0):i=j:=by
 rcases Nat.lt_trichotomy i j with g|g|g
 ·have:=h i j g hj; omega
 ·exact g
 ·have:=h j i g hi; omega
def ixP(a b:List Int) (l:Nat):Nat:=b.idxOf (a.getD l 0)
def gP(a b:List Int)(x:Nat):Nat:=if b.getD x 0∈a then 0 else x+1
theorem yN {a:List Int}{l:Nat}(h:l<a.length):a.getD l 0∈a:=by
 have:a.getD l 0=a[l]:=by simp[List.getD,h]
 rw[this]; exact List.getElem_mem h
theorem ZE {a:List Int}{x:Int}(h:x∈a):∃ l,l<a.length/\a.getD l 0=x:=by
 obtain⟨l,h1,h2⟩:=List.getElem_of_mem h;exact⟨l,h1,by simp[List.getD,h1,h2]⟩
theorem HK {b:List Int}{x:Int}(h:x∈b):b.idxOf x<b.length/\b.getD (b.idxOf x) 0=x:=by
 have h1:=List.idxOf_lt_length_iff.2 h;exact⟨h1,by simp[List.getD,h1]⟩
theorem aRQ {a b:List Int}(ha:Up a)(hb:Up b)(hs:∀ n∈a,n∈b):En (gP a b) 0 b.length a.length (ixP a b):=by
 have hx:∀ l,l<a.length->ixP a b l<b.length/\b.getD (ixP a b l) 0=a.getD l 0:=λl hl=>HK (hs _ (yN hl))
 refine⟨λi j hij hj=>?_,λl hl=>(hx l hl).1,λl hl=>?_,λx hxb hg=>?_⟩
 ·have h1:=hx i Z;have h2:=hx j hj;have h3:=ha i j hij hj;rcases Nat.lt_trichotomy (ixP a b i) (ixP a b j)with g|g|g
  ·exact g
  ·rw[g]at h1; omega
  ·have:=hb _ _ g h1.1; omega
 ·unfold gP;rw[(hx l hl).2,if_pos (yN hl)]
 ·unfold gP at hg;have hm:b.getD x 0∈a:=Classical.byContradiction λq=>by rw[if_neg q]at hg; omega
  obtain⟨l,h1,h2⟩:=ZE hm;refine⟨l,h1,hb.inj (hx l h1).1 hxb ?_⟩;rw[(hx l h1).2,h2]
theorem bEC {a b:List Int}:∀ x y,x<b.length->y<b.length->gP a b x=gP a b y->gP a b x≠0->x=y:=λx y _ _ h1 h2=>by
 unfold gP at h1 h2;split at h1
 next g=> rw[if_pos g]at h2; exact absurd rfl h2
 ·split at h1 <;> omega
theorem En.to {G e:Nat->Nat} {g n m l:Nat} (h:En G g n m e) (hl:l<m):En G g (e l) l e :=
 ⟨λi j a b=>h.inc i j a Z,λi hi=>h.inc i l hi hl,λi hi=>h.at_ i Z,λx hx hg=>by
  obtain⟨j,h1,h2⟩:=h.sur x (by have:=h.lt l hl; omega) hg;refine⟨j,?_,h2⟩;rcases Nat.lt_trichotomy j l with q|q|q
  ·exact q
  ·subst q; omega
  ·have:=h.inc l j q h1; omega⟩
theorem En.a8Y {G e:Nat->Nat}{g n m t:Nat}(h:En G g n m e)(ht:t<n)(hg:G t=g):Go.PM.cnt G g t<m/\e (Go.PM.cnt G g t)=t/\Go.PM.cnt G g (t+1)=Go.PM.cnt G g t+1:=by
 obtain⟨l,h1,h2⟩:=h.sur t ht hg;have h3:=(h.to h1).cnt;rw[h2]at h3;refine⟨by omega,by rw[<- h3]; exact h2,?_⟩;show Go.PM.cnt G g t+ind G g t=_;unfold ind;rw[if_pos hg]
theorem bAX {G:Nat->Nat}{g t:Nat}(hg:G t≠g):cnt G g (t+1)=cnt G g t:=by
 show cnt G g t+ind G g t=_;unfold ind;rw[if_neg hg]; rfl
theorem aLY(q:List Int)(x:Int)(hl:q.length<1048576):(x ∉ q/\eV (q,x,())=some (-1,()))\/∃ i,i<q.length/\q.getD i 0=x/\eV (q,x,())=some ((i:Int),()):=by
 obtain⟨e,h1,h2⟩:=ZG (step:=gK) (N:=2^64) (λt=>(q,x,(q.length:Int),(t:Int),())) q.length (λt=>q.getD t 0≠x) (λe=>(∃ i:Nat,i<q.length/\q.getD i 0=x/\e=.inl ((i:Int),()))\/(e=.inr ()/\x ∉ q)) Z (λt ht _=>by
  have e1:ltI (t:Int) (q.length:Int)=true:=by rw[aE]; exact oT Z
  have e2:aF (t:Int) q.length=true:=by rw[aL]; exact oT Z
  have e3:((t:Nat):Int).toNat=t:=oN _;have e4:=bO t Z
  by_cases g:q.getD t 0=x
  ·have e5:eqI x (q.getD t 0)=true:=by rw[eG]; exact oT g.symm
   exact .inr ⟨.inl ((t:Int),()),by simp only[gK,e1,e2,e3,e5,oC],.inl ⟨t,ht,g,rfl⟩⟩
  ·have e5:eqI x (q.getD t 0)=false:=by rw[eG]; exact oF λh=>g h.symm
   exact .inl ⟨by simp only[gK,e1,e2,e3,e4,e5,oC,oD],g⟩) (λhg=>by
  have e1:ltI (q.length:Int) (q.length:Int)=false:=by rw[aE]; exact oF Z
  exact⟨.inr (),by simp only[gK,e1,oD],.inr ⟨rfl,λhx=>by
   obtain⟨l,l1,l2⟩:=ZE hx;exact hg l l1 l2⟩⟩)
 have key:rV (q,x,(q.length:Int),0,())=some e:=h1;rcases h2 with ⟨i,a1,a2,rfl⟩|⟨rfl,h2⟩
 ·exact .inr ⟨i,a1,a2,by simp only[eV,key,aD,CU]⟩
 ·exact .inl ⟨h2,by simp only[eV,key,aD,gB]⟩
theorem RQ(q:List Int)(x:Int)(hl:q.length<1048576):cG (q,x,())=some (decide (x∈q),()):=by
 rcases aLY q x hl with ⟨h1,h2⟩|⟨i,h1,h2,h3⟩
 ·have e2:ltI (-1) 0=true:=O
  simp only[cG,h2,aD,e2,Bool.not_true,oF h1]
 ·have e2:ltI (i:Int) 0=false:=by rw[aE]; exact oF Z
  have h4:x∈q:=h2 ▸ yN h1;simp only[cG,h3,aD,e2,Bool.not_false,oT h4]
theorem a09 {q:List Int}{x:Int}(hl:q.length<1048576)(h:x ∉ q):JQ (q,x,())=some (0,false,()):=by
 rcases aLY q x hl with ⟨h1,h2⟩|⟨i,h1,h2,h3⟩
 ·simp only[JQ,h2,aD];rfl
 ·exact absurd (h2 ▸ yN h1) h
theorem aT2 {q:List Int}{x:Int}(hl:q.length<1048576)(hu:Up q)(h:x∈q):JQ (q,x,())=some ((q.idxOf x:Int),true,()):=by
 rcases aLY q x hl with ⟨h1,h2⟩|⟨i,h1,h2,h3⟩
 ·exact absurd h h1
 ·have e2:ltI (i:Int) 0=false:=by rw[aE]; exact oF Z
  have e4:i=q.idxOf x:=hu.inj h1 (HK h).1 (h2.trans (HK h).2.symm);subst e4;simp only[JQ,h3,aD,e2,Bool.not_false];rw[if_neg (show ¬ ((q.idxOf x:Nat):Int)<0 by omega)]
theorem cfw(p q:List Int)(hp:p.length<1048576)(hq:q.length<1048576):fD (p,(q,()),())=some (!decide (∀ n∈p,n∈q),()):=by
 obtain⟨e,h1,h2⟩:=ZG (step:=eI) (N:=2^64) (λt=>(p,(q,()),(p.length:Int),(t:Int),())) p.length (λt=>p.getD t 0∈q) (λe=>(∃ i:Nat,e=.inl ((i:Int),())/\¬ ∀ n∈p,n∈q)\/(e=.inr ()/\∀ n∈p,n∈q)) Z (λt ht _=>by
  have e1:ltI (t:Int) (p.length:Int)=true:=by rw[aE]; exact oT Z
  have e2:aF (t:Int) p.length=true:=by rw[aL]; exact oT Z
  have e3:((t:Nat):Int).toNat=t:=oN _;have e4:=bO t Z;have e5:=RQ q (p.getD t 0) hq
  by_cases g:p.getD t 0∈q
  ·rw[oT g]at e5;exact .inl ⟨by simp only[eI,e1,e2,e3,e4,JJ,e5,aD,oC,oD],g⟩
  ·rw[oF g]at e5;exact .inr ⟨.inl ((t:Int),()),by simp only[eI,e1,e2,e3,e4,JJ,e5,aD,oC,oD],.inl ⟨t,rfl,λh=>g (h _ (yN ht))⟩⟩) (λhg=>by
  have e1:ltI (p.length:Int) (p.length:Int)=false:=by rw[aE]; exact oF Z
  exact⟨.inr (),by simp only[eI,e1,oD],.inr ⟨rfl,λn hn=>by
   obtain⟨l,l1,l2⟩:=ZE hn;rw[<- l2]; exact hg l l1⟩⟩)
 have key:nA (p,(q,()),(p.length:Int),0,())=some e:=h1;rcases h2 with ⟨i,rfl,h2⟩|⟨rfl,h2⟩
 ·have e2:ltI (i:Int) 0=false:=by rw[aE]; exact oF Z
  rw[oF h2];simp only[fD,lJ,key,aD,CU,e2]
 ·have e2:ltI (-1) 0=true:=O
  rw[oT h2];simp only[fD,lJ,key,aD,gB,e2]
theorem aRM {p q:List Int}(hp:aS (p,())=some (0,()))(hq:aS (q,())=some (0,()))(lp:p.length<1048576)(lq:q.length<1048576):LA (p,q,())=some (decide (∀ n∈p,n∈q),0,()):=by
 have e0:eqI 0 0=true:=O
 have h:=cfw p q lp lq;simp only[LA,aBD,hp,hq,aD,e0,Bool.not_true,oD,h];cases decide (∀ n∈p,n∈q) <;> rfl
section
variable {ps qs:List Int} {n d r:Nat} {C K:Nat->V}
theorem aE1(h:RT ps n d r C K):eP ([(ps,(Mr d n C,Mr r n K))],())=some (0,()) :=
 aTR [(ps,(Mr d n C,Mr r n K))] (by show 1<_; omega) (λi hi=>by
  obtain rfl:i=0:=by have hi:i<1:=hi; omega
  exact h.check) (λi hi=>by
  obtain rfl:i=0:=by have hi:i<1:=hi; omega
  exact h.aIF) λi hi=>by
  obtain rfl:i=0:=by have hi:i<1:=hi; omega
  rfl
theorem bC4(h:RT ps n d r C K)(lq:qs.length<1048576):∃ w,aS (qs,())=some (w,())/\sU ((ps,(Mr d n C,Mr r n K)),qs,(),())=some (if w≠0 then w else if ∀ n∈ps,n∈qs then 0 else 25,()):=by
 obtain⟨w,hw,_⟩:=aHS qs lq;have e0:eqI 0 0=true:=O
 have k1:=aE1 h;refine⟨w,hw,?_⟩
 by_cases g:w=0
 ·subst g;have h3:=aRM h.pr hw h.aIF lq
  by_cases g2:∀ n∈ps,n∈qs
  ·rw[oT g2]at h3;rw[if_neg R,if_pos g2];simp only[sU,k1,aD,e0,Bool.not_true,oD,hw,h3,oC]
  ·rw[oF g2]at h3;rw[if_neg R,if_neg g2];simp only[sU,k1,aD,e0,Bool.not_true,oD,hw,h3]
 ·have ew:eqI w 0=false:=by rw[eG]; exact oF g
  rw[if_pos g];simp only[sU,k1,aD,e0,Bool.not_true,oD,hw,ew,Bool.not_false,oC]
theorem bCE(h:RT ps n d r C K)(lq:qs.length<1048576):∃ w,aS (qs,())=some (w,())/\sT ((ps,(Mr d n C,Mr r n K)),qs,(),())=some (if w≠0 then w else if ∀ n∈qs,n∈ps then 0 else 25,()):=by
 obtain⟨w,hw,_⟩:=aHS qs lq;have e0:eqI 0 0=true:=O
 have k1:=aE1 h;refine⟨w,hw,?_⟩
 by_cases g:w=0
 ·subst g;have h3:=aRM hw h.pr lq h.aIF
  by_cases g2:∀ n∈qs,n∈ps
  ·rw[oT g2]at h3;rw[if_neg R,if_pos g2];simp only[sT,wG,k1,aD,e0,Bool.not_true,oD,hw,h3,oC]
  ·rw[oF g2]at h3;rw[if_neg R,if_neg g2];simp only[sT,wG,k1,aD,e0,Bool.not_true,oD,hw,h3]
 ·have ew:eqI w 0=false:=by rw[eG]; exact oF g
  rw[if_pos g];simp only[sT,k1,aD,e0,Bool.not_true,oD,hw,ew,Bool.not_false,oC]
end
theorem a2G {n i:Nat}{u:V}{a:Int}(h:i<n):(Vr n u).set i a=Vr n (λx=>if i=x then a else u x):=by
 refine List.ext_getElem (by simp[Vr]) λj h1 h2=>?_
 rw[List.getElem_set];simp[Vr]
theorem aWI(n:Nat):List.replicate n (0:Int)=Vr n (λ_=>0):=by
 refine List.ext_getElem (by simp[Vr]) λj h1 h2=>?_
 simp[Vr]
theorem Y6 {n:Nat}{u v:V}(h:∀ x,x<n->u x=v x):Vr n u=Vr n v:=List.map_congr_left λx hx=>h x (List.mem_range.1 hx)
section
variable {ps qs:List Int}
theorem bDF(hp:ps.length<1000)(hq:qs.length<1000)(uq:Up qs)(hs:∀ n∈ps,n∈qs)(v:V):tR (ps,qs,Vr ps.length v,())=some (Vr qs.length (exv (ixP ps qs) ps.length v),()):=by
 have key:=aU (step:=iY) (N:=2^64) (λt=>(ps,qs,Vr qs.length (exv (ixP ps qs) t v),Vr ps.length v,(ps.length:Int),(t:Int),())) ps.length (Vr qs.length (exv (ixP ps qs) ps.length v),()) Z (λt ht=>?_) ?_
 ·have key:zU (ps,qs,Vr qs.length (λ_=>0),Vr ps.length v,(ps.length:Int),0,())=_:=key;have a1:ltI (qs.length:Int) 0=false:=by rw[aE]; exact oF Z
  have a2:ltI (qs.length:Int) (qs.length:Int)=false:=by rw[aE]; exact oF Z
  have a3:ltI 1048576 (qs.length:Int)=false:=by rw[aE]; exact oF Z
  have a4:List.replicate (((qs.length:Nat):Int).toNat) (0:Ty.den (.int .i64))=Vr qs.length (λ_=>0):=by rw[oN]; exact aWI _
  simp only[tR,a1,a2,a3,Bool.not_false,oC,a4,pL,key,aD]
 ·have e1:ltI (t:Int) (ps.length:Int)=true:=by rw[aE]; exact oT Z
  have e2:aF (t:Int) ps.length=true:=by rw[aL]; exact oT Z
  have e3:((t:Nat):Int).toNat=t:=oN _;have e4:=bO t Z;have hm:=hs _ (yN ht);have e5:=aT2 (show qs.length<1048576 by omega) uq hm;have hi:=(HK hm).1;have e6:aF ((qs.idxOf (ps.getD t 0):Nat):Int) qs.length=true:=by rw[aL]; exact oT Z
  have e7:((qs.idxOf (ps.getD t 0):Nat):Int).toNat=qs.idxOf (ps.getD t 0):=oN _;have e8:Nat.blt (qs.idxOf (ps.getD t 0)) qs.length=true:=by rw[b9]; exact oT hi
  have e9:(Vr qs.length (exv (ixP ps qs) t v)).set (qs.idxOf (ps.getD t 0)) (v t)=Vr qs.length (exv (ixP ps qs) (t+1) v):=a2G hi;simp only[iY,e1,pL,e2,e3,e5,aD,e6,e7,e8,aH8 v ht,e9,e4,oC]
 ·have e1:ltI (ps.length:Int) (ps.length:Int)=false:=by rw[aE]; exact oF Z
  simp only[iY,e1,oD]
theorem bCN(hp:ps.length<1000)(hq:qs.length<1000)(up:Up ps)(uq:Up qs)(hs:∀ n∈qs,n∈ps)(v:V):tR (ps,qs,Vr ps.length v,())=some (Vr qs.length (cpv (ixP qs ps) qs.length v),()):=by
 have he:=aRQ uq up hs;have key:=aU (step:=iY) (N:=2^64) (λt=>(ps,qs,Vr qs.length (λl=>if ixP qs ps l<t then v (ixP qs ps l) else 0),Vr ps.length v,(ps.length:Int),(t:Int),())) ps.length (Vr qs.length (cpv (ixP qs ps) qs.length v),()) Z (λt ht=>?_) ?_
 ·have key:zU (ps,qs,Vr qs.length (λl=>if ixP qs ps l<0 then v (ixP qs ps l) else 0),Vr ps.length v,(ps.length:Int),0,())=_:=key;have a0:Vr qs.length (λl=>if ixP qs ps l<0 then v (ixP qs ps l) else 0)=Vr qs.length (λ_=>0):=Y6 λx _=>if_neg (Nat.not_lt_zero _)
  rw[a0]at key;have a1:ltI (qs.length:Int) 0=false:=by rw[aE]; exact oF Z
  have a2:ltI (qs.length:Int) (qs.length:Int)=false:=by rw[aE]; exact oF Z
  have a3:ltI 1048576 (qs.length:Int)=false:=by rw[aE]; exact oF Z
  have a4:List.replicate (((qs.length:Nat):Int).toNat) (0:Ty.den (.int .i64))=Vr qs.length (λ_=>0):=by rw[oN]; exact aWI _
  simp only[tR,a1,a2,a3,Bool.not_false,oC,a4,pL,key,aD]
 ·have e1:ltI (t:Int) (ps.length:Int)=true:=by rw[aE]; exact oT Z
  have e2:aF (t:Int) ps.length=true:=by rw[aL]; exact oT Z
  have e3:((t:Nat):Int).toNat=t:=oN _;have e4:=bO t Z
  by_cases hm:ps.getD t 0∈qs
  ·have e5:=aT2 (show qs.length<1048576 by omega) uq hm;have hi:=HK hm;have ht2:ixP qs ps (qs.idxOf (ps.getD t 0))=t:=by
    unfold ixP;rw[hi.2];exact up.inj (HK (yN ht)).1 ht (HK (yN ht)).2
   have e6:aF ((qs.idxOf (ps.getD t 0):Nat):Int) qs.length=true:=by rw[aL]; exact oT Z
   have e7:((qs.idxOf (ps.getD t 0):Nat):Int).toNat=qs.idxOf (ps.getD t 0):=oN _;have e8:Nat.blt (qs.idxOf (ps.getD t 0)) qs.length=true:=by rw[b9]; exact oT hi.1
   have e9:(Vr qs.length (λl=>if ixP qs ps l<t then v (ixP qs ps l) else 0)).set (qs.idxOf (ps.getD t 0)) (v t)=Vr qs.length (λl=>if ixP qs ps l<t+1 then v (ixP qs ps l) else 0):=by
    rw[a2G hi.1];refine Y6 λx hx=>?_
    by_cases g:qs.idxOf (ps.getD t 0)=x
    ·rw[if_pos g,<- g,ht2,if_pos Z]
    ·rw[if_neg g];have hne:ixP qs ps x≠t:=λq=>g (by
      rcases Nat.lt_trichotomy (qs.idxOf (ps.getD t 0)) x with a|a|a
      ·have:=he.inc _ _ a hx; omega
      ·exact a
      ·have:=he.inc _ _ a hi.1; omega)
     by_cases g2:ixP qs ps x<t
     ·rw[if_pos g2,if_pos Z]
     ·rw[if_neg g2,if_neg Z]
   simp only[iY,e1,pL,e2,e3,e5,aD,e6,e7,e8,aH8 v ht,e9,e4,oC]
  ·have e5:=a09 (show qs.length<1048576 by omega) hm;have e9:Vr qs.length (λl=>if ixP qs ps l<t then v (ixP qs ps l) else 0)=Vr qs.length (λl=>if ixP qs ps l<t+1 then v (ixP qs ps l) else 0):=by
    refine Y6 λx hx=>?_
    have hne:ixP qs ps x≠t:=λq=>hm (by
     have h1:=(HK (hs _ (yN hx))).2;have h2:ps.idxOf (qs.getD x 0)=t:=q;rw[h2]at h1;rw[h1]; exact yN hx)
    by_cases g2:ixP qs ps x<t
    ·rw[if_pos g2,if_pos Z]
    ·rw[if_neg g2,if_neg Z]
   simp only[iY,e1,pL,e2,e3,e5,aD,e4,oC,oD];rw[e9]
 ·have e1:ltI (ps.length:Int) (ps.length:Int)=false:=by rw[aE]; exact oF Z
  have e9:Vr qs.length (λl=>if ixP qs ps l<ps.length then v (ixP qs ps l) else 0)=Vr qs.length (cpv (ixP qs ps) qs.length v):=Y6 λx hx=>by rw[if_pos (he.lt x hx),vG hx]
  simp only[iY,e1,oD];rw[e9]
end
theorem aON(t n:Nat)(M:Nat->V):Mr t n M++[Vr n (M t)]=Mr (t+1) n M:=by
 unfold Mr;rw[List.range_succ,List.map_append];rfl
theorem bC9(t:Nat)(v:V):Vr t v++[v t]=Vr (t+1) v:=by
 unfold Vr;rw[List.range_succ,List.map_append];rfl
section
variable {ps qs:List Int} {d r:Nat} {C K:Nat->V}
abbrev exM(ps qs:List Int) (C:Nat->V):Nat->V:=λi=>exv (ixP ps qs) ps.length (C i)
theorem a0H(Kl:List (List Int))(Z:List Int×List (List Int)×List (List Int))(hp:ps.length<1000)(hq:qs.length<1000)(hd:d<1000)(uq:Up qs)(hs:∀ n∈ps,n∈qs) :
  CY (qs,(ps,(Mr d ps.length C,Kl)),(Z.1,(Z.2.1,Z.2.2)),[],Mr d ps.length C,(d:Int),0,())=some (qs,(Z.1,(Z.2.1,Z.2.2)),Mr d qs.length (exM ps qs C),()):=by
 refine aU (step:=vP) (N:=2^64) (λt=>(qs,(ps,(Mr d ps.length C,Kl)),(Z.1,(Z.2.1,Z.2.2)),Mr t qs.length (exM ps qs C),Mr d ps.length C,(d:Int),(t:Int),())) d _ za (λt ht=>?_) ?_
 ·have e1:ltI (t:Int) (d:Int)=true:=by rw[aE]; exact oT za
  have e2:aF (t:Int) d=true:=by rw[aL]; exact oT za
  have e3:((t:Nat):Int).toNat=t:=oN _;have e4:=bO t za;have e5:=bDF hp hq uq hs (C t);have e6:Nat.ble [Vr qs.length (exv (ixP ps qs) ps.length (C t))].length 1048576=true:=rfl;have e7:Nat.ble t 1048576=true:=by rw[dO]; exact oT za
  have e8:=aON t qs.length (exM ps qs C);have e8:Mr t qs.length (exM ps qs C)++[Vr qs.length (exv (ixP ps qs) ps.length (C t))]=_:=e8;simp only[vP,e1,cN,e2,e3,aBX C ht,e5,aD,e6,e7,e8,e4,oC]
 ·have e1:ltI (d:Int) (d:Int)=false:=by rw[aE]; exact oF za
  simp only[vP,e1,oD]
theorem aTT(h:RT ps ps.length d r C K)(hq:aS (qs,())=some (0,()))(lq:qs.length<=12)(uq:Up qs)(hs:∀ n∈ps,n∈qs) :
  ∃ r' K',RG qs qs.length d r' (gP ps qs) (λ_=>0) (exM ps qs C) K'/\qM ((ps,(Mr d ps.length C,Mr r ps.length K)),qs,())=some ((qs,(Mr d qs.length (exM ps qs C),Mr r' qs.length K')),0,())/\o6 ((ps,(Mr d ps.length C,Mr r ps.length K)),qs,())=some ((qs,(Mr d qs.length (exM ps qs C),Mr r' qs.length K')),0,()) /\
   cE (qs,Mr d qs.length (exM ps qs C),())=some ((qs,(Mr d qs.length (exM ps qs C),Mr r' qs.length K')),0,()):=by
 have up:=(O9 h.pr h.aIF).2;have n4:=h.n4;obtain⟨c,hc⟩:=h.hc;have d4:=(Hn.dR hc h.wc).1;obtain⟨r',K',g1,g2⟩:=bEE h hq rfl lq (aRQ up uq hs) bEC;have e0:eqI 0 0=true:=O
 have k:=a0H (C:=C) (d:=d) (Mr r ps.length K) ([],[],[]) Z Z Z uq hs;have hx:qM ((ps,(Mr d ps.length C,Mr r ps.length K)),qs,())=some ((qs,(Mr d qs.length (exM ps qs C),Mr r' qs.length K')),0,()):=by simp only[qM,cN,k,aD,g2]
 obtain⟨w,hw,hl⟩:=bC4 h (show qs.length<1048576 by omega);rw[hq]at hw;obtain rfl:w=0:=by simpa using hw.symm
 rw[if_neg R,if_pos hs]at hl;exact⟨r',K',g1,hx,by simp only[o6,hl,aD,e0,Bool.not_true,oD,hx],g2⟩
theorem a18(T:List (List Int)×List (List Int))(Z:List Int×List (List Int)×List (List Int))(hp:ps.length<1000)(hq:qs.length<1000)(up:Up ps)(uq:Up qs)(hs:∀ n∈qs,n∈ps) :
  sI (qs,(ps,(T.1,T.2)),(Z.1,(Z.2.1,Z.2.2)),[],ps,(ps.length:Int),0,())=some (qs,(ps,(T.1,T.2)),(Z.1,(Z.2.1,Z.2.2)),Mr qs.length ps.length (λj=>un (ixP qs ps j)),()):=by
 have he:=aRQ uq up hs;have hm:=he.cnt;have hle:∀ t,cnt (gP qs ps) 0 t<=t:=λt=>by
  induction t with
  | zero=>exact oM _
  | succ t ih =>
   have:cnt (gP qs ps) 0 (t+1)=cnt (gP qs ps) 0 t+ind (gP qs ps) 0 t:=rfl;have h2:ind (gP qs ps) 0 t<=1:=by unfold ind; split <;> omega
   omega
 refine aU (step:=jH) (N:=2^64) (λt=>(qs,(ps,(T.1,T.2)),(Z.1,(Z.2.1,Z.2.2)),Mr (cnt (gP qs ps) 0 t) ps.length (λj=>un (ixP qs ps j)),ps,(ps.length:Int),(t:Int),())) ps.length _ za (λt ht=>?_) ?_
 ·have e1:ltI (t:Int) (ps.length:Int)=true:=by rw[aE]; exact oT za
  have e2:aF (t:Int) ps.length=true:=by rw[aL]; exact oT za
  have e3:((t:Nat):Int).toNat=t:=oN _;have e4:=bO t za;have e5:=RQ qs (ps.getD t 0) za
  by_cases g:ps.getD t 0∈qs
  ·have hg:gP qs ps t=0:=by unfold gP; rw[if_pos g]
   obtain⟨g1,g2,g3⟩:=he.a8Y ht hg;rw[oT g]at e5;have a1:ltI (ps.length:Int) 0=false:=by rw[aE]; exact oF za
   have a2:ltI (ps.length:Int) (ps.length:Int)=false:=by rw[aE]; exact oF za
   have a3:ltI 1048576 (ps.length:Int)=false:=by rw[aE]; exact oF za
   have a4:List.replicate (((ps.length:Nat):Int).toNat) (0:Ty.den (.int .i64))=Vr ps.length (λ_=>0):=by rw[oN]; exact aWI _
   have a5:(Vr ps.length (λ_=>0)).set t 1=Vr ps.length (un (ixP qs ps (cnt (gP qs ps) 0 t))):=by
    rw[a2G ht,g2];refine Y6 λx hx=>?_
    unfold un
    by_cases q:t=x
    ·rw[if_pos q,if_pos q.symm]
    ·rw[if_neg q,if_neg λh=>q h.symm]
   have a6:Nat.blt t ps.length=true:=by rw[b9]; exact oT ht
   have a7:Nat.ble [Vr ps.length (un (ixP qs ps (cnt (gP qs ps) 0 t)))].length 1048576=true:=rfl;have a8:Nat.ble (cnt (gP qs ps) 0 t) 1048576=true:=by rw[dO]; exact oT (by have:=hle t; omega)
   have a9:Mr (cnt (gP qs ps) 0 t) ps.length (λj=>un (ixP qs ps j))++[Vr ps.length (un (ixP qs ps (cnt (gP qs ps) 0 t)))]=Mr (cnt (gP qs ps) 0 (t+1)) ps.length (λj=>un (ixP qs ps j)):=by rw[g3]; exact aON _ _ _
   simp only[jH,e1,e2,e3,e5,aD,a1,a2,a3,a4,pL,a6,Bool.not_false,oC];simp only[a5,a7,cN,a8,a9,e4,oC]
  ·have hg:gP qs ps t≠0:=by unfold gP; rw[if_neg g]; omega
   rw[oF g]at e5;simp only[jH,e1,e2,e3,e5,aD,oC,oD,e4];rw[bAX hg]
 ·have e1:ltI (ps.length:Int) (ps.length:Int)=false:=by rw[aE]; exact oF za
  simp only[jH,e1,oD];rw[<- hm]
theorem a3T {s:Nat}{I L:Nat->V}(T:List (List Int)×List (List Int))(Z:List Int×List (List Int)×List (List Int))(hp:ps.length<1000)(hq:qs.length<1000)(hd:s<1000)(up:Up ps)(uq:Up qs)(hs:∀ n∈qs,n∈ps)(hL:∀ i,i<s->cpv (ixP qs ps) qs.length (I i)=L i) :
  sE (qs,(ps,(T.1,T.2)),(Z.1,(Z.2.1,Z.2.2)),[],Mr s ps.length I,(s:Int),0,())=some (qs,(Z.1,(Z.2.1,Z.2.2)),Mr s qs.length L,()):=by
 refine aU (step:=mV) (N:=2^64) (λt=>(qs,(ps,(T.1,T.2)),(Z.1,(Z.2.1,Z.2.2)),Mr t qs.length L,Mr s ps.length I,(s:Int),(t:Int),())) s _ za (λt ht=>?_) ?_
 ·have e1:ltI (t:Int) (s:Int)=true:=by rw[aE]; exact oT za
  have e2:aF (t:Int) s=true:=by rw[aL]; exact oT za
  have e3:((t:Nat):Int).toNat=t:=oN _;have e4:=bO t za;have e5:=bCN hp hq up uq hs (I t);rw[hL t ht]at e5;have e6:Nat.ble [Vr qs.length (L t)].length 1048576=true:=rfl;have e7:Nat.ble t 1048576=true:=by rw[dO]; exact oT za
  simp only[mV,e1,cN,e2,e3,aBX I ht,e5,aD,e6,e7,aON,e4,oC]
 ·have e1:ltI (s:Int) (s:Int)=false:=by rw[aE]; exact oF za
  simp only[mV,e1,oD]
theorem a7O(v:V)(T:List (List Int)×List (List Int))(Z:List Int×List (List Int)×List (List Int))(v6 v15:List (List Int))(v16 v17:Int)(hp:ps.length<1000)(hq:qs.length<1000)(up:Up ps)(uq:Up qs)(hs:∀ n∈qs,n∈ps) :
  C2 (qs,(ps,(T.1,T.2)),(Z.1,(Z.2.1,Z.2.2)),v6,Vr ps.length v,[],v15,v16,v17,ps,(ps.length:Int),0,())=some (qs,(ps,(T.1,T.2)),(Z.1,(Z.2.1,Z.2.2)),v6,Vr qs.length (cpv (ixP qs ps) qs.length v),v15,v16,v17,()):=by
 have he:=aRQ uq up hs;have hm:=he.cnt;have hle:∀ t,cnt (gP qs ps) 0 t<=t:=λt=>by
  induction t with
  | zero=>exact oM _
  | succ t ih =>
   have:cnt (gP qs ps) 0 (t+1)=cnt (gP qs ps) 0 t+ind (gP qs ps) 0 t:=rfl;have h2:ind (gP qs ps) 0 t<=1:=by unfold ind; split <;> omega
   omega
 refine aU (step:=jO) (N:=2^64) (λt=>(qs,(ps,(T.1,T.2)),(Z.1,(Z.2.1,Z.2.2)),v6,Vr ps.length v,Vr (cnt (gP qs ps) 0 t) (λl=>v (ixP qs ps l)),v15,v16,v17,ps,(ps.length:Int),(t:Int),())) ps.length _ za (λt ht=>?_) ?_
 ·have e1:ltI (t:Int) (ps.length:Int)=true:=by rw[aE]; exact oT za
  have e2:aF (t:Int) ps.length=true:=by rw[aL]; exact oT za
  have e3:((t:Nat):Int).toNat=t:=oN _;have e4:=bO t za;have e5:=RQ qs (ps.getD t 0) za
  by_cases g:ps.getD t 0∈qs
  ·have hg:gP qs ps t=0:=by unfold gP; rw[if_pos g]
   obtain⟨g1,g2,g3⟩:=he.a8Y ht hg;rw[oT g]at e5;have a7:Nat.ble [v t].length 1048576=true:=rfl;have a8:Nat.ble (cnt (gP qs ps) 0 t) 1048576=true:=by rw[dO]; exact oT (by have:=hle t; omega)
   have a9:Vr (cnt (gP qs ps) 0 t) (λl=>v (ixP qs ps l))++[v t]=Vr (cnt (gP qs ps) 0 (t+1)) (λl=>v (ixP qs ps l)):=by rw[g3,<- bC9,g2]
   simp only[jO,e1,e2,e3,e5,aD,pL,aH8 v ht,a7,a8,a9,e4,oC]
  ·have hg:gP qs ps t≠0:=by unfold gP; rw[if_neg g]; omega
   rw[oF g]at e5;simp only[jO,e1,e2,e3,e5,aD,oC,oD,e4];rw[bAX hg]
 ·have e1:ltI (ps.length:Int) (ps.length:Int)=false:=by rw[aE]; exact oF za
  have e9:Vr qs.length (λl=>v (ixP qs ps l))=Vr qs.length (cpv (ixP qs ps) qs.length v):=Y6 λx hx=>by rw[vG hx]
  simp only[jO,e1,oD];rw[<- hm,e9]
theorem aLW(Cl:List (List Int))(Z:List Int×List (List Int)×List (List Int))(hp:ps.length<1000)(hq:qs.length<1000)(hr:r<1000)(up:Up ps)(uq:Up qs)(hs:∀ n∈qs,n∈ps) :
  CH (qs,(ps,(Cl,Mr r ps.length K)),(Z.1,(Z.2.1,Z.2.2)),[],Mr r ps.length K,(r:Int),0,())=some (qs,(Z.1,(Z.2.1,Z.2.2)),Mr r qs.length (λi=>cpv (ixP qs ps) qs.length (K i)),()):=by
 refine aU (step:=nR) (N:=2^64) (λt=>(qs,(ps,(Cl,Mr r ps.length K)),(Z.1,(Z.2.1,Z.2.2)),Mr t qs.length (λi=>cpv (ixP qs ps) qs.length (K i)),Mr r ps.length K,(r:Int),(t:Int),())) r _ za (λt ht=>?_) ?_
 ·have e1:ltI (t:Int) (r:Int)=true:=by rw[aE]; exact oT za
  have e2:aF (t:Int) r=true:=by rw[aL]; exact oT za
  have e3:((t:Nat):Int).toNat=t:=oN _;have e4:=bO t za;have e5:=a7O (K t) (Cl,Mr r ps.length K) Z (Mr t qs.length (λi=>cpv (ixP qs ps) qs.length (K i))) (Mr r ps.length K) (r:Int) (t:Int) hp hq up uq hs;have e6:Nat.ble [Vr qs.length (cpv (ixP qs ps) qs.length (K t))].length 1048576=true:=rfl;have e7:Nat.ble t 1048576=true:=by rw[dO]; exact oT za
  have e8:Mr t qs.length (λi=>cpv (ixP qs ps) qs.length (K i))++[Vr qs.length (cpv (ixP qs ps) qs.length (K t))]=_:=aON t qs.length (λi=>cpv (ixP qs ps) qs.length (K i));simp only[nR,e1,cN,e2,e3,aBX K ht,e5,aD,e6,e7,e8,e4,oC]
 ·have e1:ltI (r:Int) (r:Int)=false:=by rw[aE]; exact oF za
  simp only[nR,e1,oD]
theorem aZ0(h:RS ps ps.length d r C K)(hq:aS (qs,())=some (0,()))(lq:qs.length<=12)(uq:Up qs)(hs:∀ n∈qs,n∈ps) :
  ∃ s a L K2,RT qs qs.length s a L K2/\zQ ((ps,(Mr d ps.length C,Mr r ps.length K)),qs,())=some ((qs,(Mr s qs.length L,Mr a qs.length K2)),0,()) /\
   J4 ((ps,(Mr d ps.length C,Mr r ps.length K)),qs,())=some ((qs,(Mr s qs.length L,Mr a qs.length K2)),true,()):=by
 have up:=(O9 h.pr h.aIF).2;have n4:=h.n4;obtain⟨k,hk⟩:=h.hk;have r4:=(Hn.dR hk h.wk).1;obtain⟨s,a,L,K2,g1,g2,g3,g4,g5,g6⟩:=a90 h hq rfl (aRQ uq up hs);obtain⟨l,hl⟩:=g1.hc;have s4:=(Hn.dR hl g1.wc).1;have e0:eqI 0 0=true:=O
 obtain⟨w,hw,hls⟩:=bCE h.toRT (show qs.length<1048576 by omega);rw[hq]at hw;obtain rfl:w=0:=by simpa using hw.symm
 rw[if_neg R,if_pos hs]at hls;have k1:=a18 (ps:=ps) (qs:=qs) (Mr d ps.length C,Mr r ps.length K) ([],[],[]) Z Z up uq hs;have k2:=a3T (ps:=ps) (qs:=qs) (s:=s) (I:=λi=>exv (ixP qs ps) qs.length (L i)) (L:=L) (Mr d ps.length C,Mr r ps.length K) ([],[],[]) Z Z Z up uq hs g6;have k3:=aLW (ps:=ps) (qs:=qs) (r:=r) (K:=K) (Mr d ps.length C) ([],[],[]) Z Z Z up uq hs
 refine⟨s,a,L,K2,g1,?_,?_⟩
 ·simp only[zQ,hls,aD,e0,Bool.not_true,oD,k1,g2,iG,g3,cN,k2,g4]
 ·simp only[J4,cN,k3,aD,g5,e0]
end
theorem aDV(a:List Int) (ha:a.length<1048576):rE (a,a,())=some (true,()):=by
 have e0:eqI (a.length:Int) (a.length:Int)=true:=by rw[eG]; exact oT rfl
 have key:=aU (step:=qK) (N:=2^64) (λt=>(a,a,(t:Int),())) a.length (.inr ()) Z (λt ht=>?_) ?_
 ·have key:wT (a,a,0,())=_:=key;simp only[rE,e0,Bool.not_true,oD,key,aD,gB]
 ·have e1:ltI (t:Int) (a.length:Int)=true:=by rw[aE]; exact oT Z
  have e2:aF (t:Int) a.length=true:=by rw[aL]; exact oT Z
  have e5:=bO t Z;have e6:eqI (a.getD ((t:Nat):Int).toNat 0) (a.getD ((t:Nat):Int).toNat 0)=true:=by rw[eG]; exact oT rfl
  simp only[qK,e1,e2,e5,e6,oC,Bool.not_true,oD]
 ·have e1:ltI (a.length:Int) (a.length:Int)=false:=by rw[aE]; exact oF Z
  simp only[qK,e1,oD]
theorem aJ6(a:List (List Int))(ha:a.length<1048576)(hr:∀ r∈a,r.length<1048576):xM (a,a,())=some (true,()):=by
 have e0:eqI (a.length:Int) (a.length:Int)=true:=by rw[eG]; exact oT rfl
 have key:=aU (step:=uN) (N:=2^64) (λt=>(a,a,(t:Int),())) a.length (.inr ()) Z (λt ht=>?_) ?_
 ·have key:BU (a,a,0,())=_:=key;simp only[xM,e0,Bool.not_true,oD,key,aD,gB]
 ·have e1:ltI (t:Int) (a.length:Int)=true:=by rw[aE]; exact oT Z
  have e2:aF (t:Int) a.length=true:=by rw[aL]; exact oT Z
  have e3:((t:Nat):Int).toNat=t:=oN _;have e5:=bO t Z;have e4:a.getD t []=a[t]:=by simp[List.getD,ht]
  have e6:=aDV a[t] (hr _ (List.getElem_mem ht));simp only[uN,e1,e2,e3,e4,e5,e6,oC,aD]
 ·have e1:ltI (a.length:Int) (a.length:Int)=false:=by rw[aE]; exact oF Z
  simp only[uN,e1,oD]
theorem aZH(ps:List Int)(A B:List (List Int))(h1:ps.length<1048576)(h2:A.length<1048576)(h3:∀ r∈A,r.length<1048576)(h4:B.length<1048576)(h5:∀ r∈B,r.length<1048576):yW ((ps,(A,B)),(ps,(A,B)),())=some (true,()):=by simp only[yW,LM,LK,aDV ps h1,aJ6 A h2 h3,aJ6 B h4 h5,aD,oC]
theorem bGL(a b:Int×List (Int×Int×Int×Int)×Bool)(al:Bool):ED ((a,b,al),())=some (decide (a.2.1.length<=3)&&decide (b.2.1.length<=3),()):=by
 obtain⟨a1,a2,a3⟩:=a;obtain⟨b1,b2,b3⟩:=b;have fa:=a8B (a1,a2,a3);have fb:=a8B (b1,b2,b3);simp only[ED,fa,fb,aD];cases decide (a2.length<=3) <;> cases decide (b2.length<=3) <;> rfl
def bDQ(a b:List Int):Bool:=a.any (λn=>decide (n∈b))||(match A4 (a,b,())with
 | some (l,w,())=>!decide (w=0)||((match aS (l,())with|some (e,())=>decide (e=0)|none=>false)&&a.all (λn=>decide (n∈l))&&b.all (λn=>decide (n∈l))&&l.all (λn=>decide (n∈a)||decide (n∈b)))
 | none=>false)
def a7G:List (List Int):=L12++[[2],[3],[5],[7],[11],[13]]
theorem bA4:(L12.all λa=>a7G.all λb=>bDQ a b)=true:=Y
theorem a2A {a b:List Int}(ha:a∈L12)(hb:b∈a7G)(hd:∀ n∈a,n ∉ b):∃ l w,A4 (a,b,())=some (l,w,())/\(w≠0\/(w=0/\aS (l,())=some (0,())/\(∀ n∈a,n∈l)/\(∀ n∈b,n∈l)/\∀ n∈l,n∈a\/n∈b)):=by
 have h:=List.all_eq_true.1 (List.all_eq_true.1 bA4 a ha) b hb;unfold bDQ at h;have h0:a.any (λn=>decide (n∈b))=false:=by
  rw[List.any_eq_false];intro n hn;simpa using hd n hn
 rw[h0,Bool.false_or]at h;cases hj:A4 (a,b,())with
 | none=>rw[hj]at h; cases h
 | some y =>
  obtain⟨l,w,⟨⟩⟩:=y;rw[hj]at h;refine⟨l,w,rfl,?_⟩
  by_cases hw:w=0
  ·subst hw;simp only[decide_true,Bool.not_true,Bool.false_or,oA,List.all_eq_true,decide_eq_true_eq,Bool.or_eq_true]at h;obtain⟨⟨⟨h1,h2⟩,h3⟩,h4⟩:=h;cases hc:aS (l,())with
   | none=>rw[hc]at h1; cases h1
   | some z =>
    obtain⟨e,⟨⟩⟩:=z;rw[hc]at h1;have:e=0:=by simpa using h1
    subst this;exact .inr ⟨rfl,rfl,h2,h3,h4⟩
  ·exact .inl hw
def g2(a b:List Int) (x:Nat):Nat:=if b.getD x 0∈a then 0 else 1
theorem bGP {a l:List Int}(ha:Up a)(hl:Up l)(hs:∀ n∈a,n∈l):En (g2 a l) 0 l.length a.length (ixP a l):=by
 have h:=aRQ ha hl hs;refine⟨h.inc,h.lt,λj hj=>?_,λx hx hg=>h.sur x hx ?_⟩
 ·have:=h.at_ j hj;unfold gP at this;unfold g2;split at this
  next q=> rw[if_pos q]
  ·omega
 ·unfold g2 at hg;unfold gP;split at hg
  next q=> rw[if_pos q]
  ·omega
theorem bGX {a b l:List Int}(hb:Up b)(hl:Up l)(hs:∀ n∈b,n∈l)(hd:∀ n∈a,n ∉ b)(hc:∀ n∈l,n∈a\/n∈b):En (g2 a l) 1 l.length b.length (ixP b l):=by
 have h:=aRQ hb hl hs;refine⟨h.inc,h.lt,λj hj=>?_,λx hx hg=>h.sur x hx ?_⟩
 ·have:=h.at_ j hj;unfold gP at this;unfold g2;split at this
  next q=> rw[if_neg λq2=>hd _ q2 q]
  ·omega
 ·unfold g2 at hg;unfold gP;split at hg
  ·omega
  next q=>rw[if_pos ((hc _ (yN hx)).resolve_left q)]
theorem cf3(p q:List Int)(hp:p.length<1048576)(hq:q.length<1048576)(A B:List (List Int)):fC (p,((q,(A,B)),()),())=some (!decide (∀ n∈p,n ∉ q),()):=by
 obtain⟨e,h1,h2⟩:=ZG (step:=eH) (N:=2^64) (λt=>(p,((q,(A,B)),()),(p.length:Int),(t:Int),())) p.length (λt=>p.getD t 0 ∉ q) (λe=>(∃ i:Nat,e=.inl ((i:Int),())/\¬ ∀ n∈p,n ∉ q)\/(e=.inr ()/\∀ n∈p,n ∉ q)) Z (λt ht _=>by
  have e1:ltI (t:Int) (p.length:Int)=true:=by rw[aE]; exact oT Z
  have e2:aF (t:Int) p.length=true:=by rw[aL]; exact oT Z
  have e3:((t:Nat):Int).toNat=t:=oN _;have e4:=bO t Z;have e5:=RQ q (p.getD t 0) hq
  by_cases g:p.getD t 0∈q
  ·rw[oT g]at e5;exact .inr ⟨.inl ((t:Int),()),by simp only[eH,e1,e2,e3,e4,xT,e5,aD,oC,oD],.inl ⟨t,rfl,λh=>h _ (yN ht) g⟩⟩
  ·rw[oF g]at e5;exact .inl ⟨by simp only[eH,e1,e2,e3,e4,xT,e5,aD,oC,oD],g⟩) (λhg=>by
  have e1:ltI (p.length:Int) (p.length:Int)=false:=by rw[aE]; exact oF Z
  exact⟨.inr (),by simp only[eH,e1,oD],.inr ⟨rfl,λn hn=>by
   obtain⟨l,l1,l2⟩:=ZE hn;rw[<- l2]; exact hg l l1⟩⟩)
 have key:mR (p,((q,(A,B)),()),(p.length:Int),0,())=some e:=h1;rcases h2 with ⟨i,rfl,h2⟩|⟨rfl,h2⟩
 ·have e2:ltI (i:Int) 0=false:=by rw[aE]; exact oF Z
  rw[oF h2];simp only[fC,lF,key,aD,CU,e2]
 ·have e2:ltI (-1) 0=true:=O
  rw[oT h2];simp only[fC,lF,key,aD,gB,e2]
theorem cf4(p q:List Int)(hp:p.length<1048576)(hq:q.length<1048576)(A B:List (List Int)):fB (p,((q,(A,B)),()),())=some (!decide (∀ n∈p,n ∉ q),()):=by
 obtain⟨e,h1,h2⟩:=ZG (step:=eE) (N:=2^64) (λt=>(p,((q,(A,B)),()),(p.length:Int),(t:Int),())) p.length (λt=>p.getD t 0 ∉ q) (λe=>(∃ i:Nat,e=.inl ((i:Int),())/\¬ ∀ n∈p,n ∉ q)\/(e=.inr ()/\∀ n∈p,n ∉ q)) Z (λt ht _=>by
  have e1:ltI (t:Int) (p.length:Int)=true:=by rw[aE]; exact oT Z
  have e2:aF (t:Int) p.length=true:=by rw[aL]; exact oT Z
  have e3:((t:Nat):Int).toNat=t:=oN _;have e4:=bO t Z;have e5:=RQ q (p.getD t 0) hq
  by_cases g:p.getD t 0∈q
  ·rw[oT g]at e5;exact .inr ⟨.inl ((t:Int),()),by simp only[eE,e1,e2,e3,e4,j6,e5,aD,oC,oD],.inl ⟨t,rfl,λh=>h _ (yN ht) g⟩⟩
  ·rw[oF g]at e5;exact .inl ⟨by simp only[eE,e1,e2,e3,e4,j6,e5,aD,oC,oD],g⟩) (λhg=>by
  have e1:ltI (p.length:Int) (p.length:Int)=false:=by rw[aE]; exact oF Z
  exact⟨.inr (),by simp only[eE,e1,oD],.inr ⟨rfl,λn hn=>by
   obtain⟨l,l1,l2⟩:=ZE hn;rw[<- l2]; exact hg l l1⟩⟩)
 have key:mY (p,((q,(A,B)),()),(p.length:Int),0,())=some e:=h1;rcases h2 with ⟨i,rfl,h2⟩|⟨rfl,h2⟩
 ·have e2:ltI (i:Int) 0=false:=by rw[aE]; exact oF Z
  rw[oF h2];simp only[fB,lH,key,aD,CU,e2]
 ·have e2:ltI (-1) 0=true:=O
  rw[oT h2];simp only[fB,lH,key,aD,gB,e2]
section
variable {pa pb l:List Int} {d r d' r':Nat} {C K C' K':Nat->V}
theorem bDB {n d r d' r':Nat}{G γ G' γ':Nat->Nat}{X K X' K':Nat->V}(h:RG l n d r G γ X K)(h':RG l n d' r' G' γ' X' K'):eP ([(l,(Mr d n X,Mr r n K)),(l,(Mr d' n X',Mr r' n K'))],())=some (0,()):=by
 have two:∀ i,i<2->i=0\/i=1:=λi hi=>Z
 have hl:l.length<1048576:=by have:=h.n12; have:=h.len; omega
 refine aTR _ (by show 2<_; omega) (λi hi=>?_) (λi hi=>?_) λi hi=>?_
 ·rcases two i hi with rfl|rfl
  ·exact h.check
  ·exact h'.check
 ·rcases two i hi with rfl|rfl
  ·exact hl
  ·exact hl
 ·rcases two i hi with rfl|rfl
  ·rfl
  ·rfl
theorem aKU(ha:RT pa pa.length d r C K)(hb:RT pb pb.length d' r' C' K') :
  kP ((pa,(Mr d pa.length C,Mr r pa.length K)),(pb,(Mr d' pb.length C',Mr r' pb.length K')),([],([],[])),[(pa,(Mr d pa.length C,Mr r pa.length K)),(pb,(Mr d' pb.length C',Mr r' pb.length K'))],2,0,())=some (.inr ((pa,(Mr d pa.length C,Mr r pa.length K)),(pb,(Mr d' pb.length C',Mr r' pb.length K')),([],([],[])),())):=by
 have e0:eqI 0 0=true:=O
 refine aU (step:=n9) (N:=2^64) (λt=>((pa,(Mr d pa.length C,Mr r pa.length K)),(pb,(Mr d' pb.length C',Mr r' pb.length K')),([],([],[])),[(pa,(Mr d pa.length C,Mr r pa.length K)),(pb,(Mr d' pb.length C',Mr r' pb.length K'))],2,(t:Int),())) 2 _ Z (λt ht=>?_) ?_
 ·have e1:ltI (t:Int) 2=true:=by rw[aE]; exact oT Z
  have e3:=bO t Z;rcases(show t=0\/t=1 by omega)with rfl|rfl
  ·have e2:aF ((0:Nat):Int) 2=true:=O
   simp only[n9,e1,oC,e3];show (bif aF ((0:Nat):Int) 2 then aC (eP ([(pa,(Mr d pa.length C,Mr r pa.length K))],())) _ else none)=_;simp only[e2,oC,aE1 ha,aD,e0,Bool.not_true,oD]
  ·have e2:aF ((1:Nat):Int) 2=true:=O
   simp only[n9,e1,oC,e3];show (bif aF ((1:Nat):Int) 2 then aC (eP ([(pb,(Mr d' pb.length C',Mr r' pb.length K'))],())) _ else none)=_;simp only[e2,oC,aE1 hb,aD,e0,Bool.not_true,oD]
 ·have e1:ltI ((2:Nat):Int) 2=false:=O
  simp only[n9,e1,oD]
theorem aW5(ha:RT pa pa.length d r C K) (hb:RT pb pb.length d' r' C' K') (hd:¬ ∀ n∈pa,n ∉ pb):kH ((pa,(Mr d pa.length C,Mr r pa.length K)),(pb,(Mr d' pb.length C',Mr r' pb.length K')),())=some (([],([],[])),14,()):=by
 have k:=aKU ha hb;have c:=cf3 pa pb ha.aIF hb.aIF (Mr d' pb.length C') (Mr r' pb.length K');rw[oF hd]at c;have k:kP ((pa,(Mr d pa.length C,Mr r pa.length K)),(pb,(Mr d' pb.length C',Mr r' pb.length K')),([],([],[])),[(pa,(Mr d pa.length C,Mr r pa.length K)),(pb,(Mr d' pb.length C',Mr r' pb.length K'))],([(pa,(Mr d pa.length C,Mr r pa.length K)),(pb,(Mr d' pb.length C',Mr r' pb.length K'))].length:Int),0,())=_:=k
 simp only[kH,k,aD,gB,c,Bool.not_false,oC]
theorem a0N(ha:RT pa pa.length d r C K)(hb:RT pb pb.length d' r' C' K')(hd:∀ n∈pa,n ∉ pb){w:Int}(hw:w≠0)(hj:A4 (pa,pb,())=some (l,w,())):kH ((pa,(Mr d pa.length C,Mr r pa.length K)),(pb,(Mr d' pb.length C',Mr r' pb.length K')),())=some (([],([],[])),w,()):=by
 have k:=aKU ha hb;have c:=cf3 pa pb ha.aIF hb.aIF (Mr d' pb.length C') (Mr r' pb.length K');rw[oT hd]at c;have ew:eqI w 0=false:=by rw[eG]; exact oF hw
 have k:kP ((pa,(Mr d pa.length C,Mr r pa.length K)),(pb,(Mr d' pb.length C',Mr r' pb.length K')),([],([],[])),[(pa,(Mr d pa.length C,Mr r pa.length K)),(pb,(Mr d' pb.length C',Mr r' pb.length K'))],([(pa,(Mr d pa.length C,Mr r pa.length K)),(pb,(Mr d' pb.length C',Mr r' pb.length K'))].length:Int),0,())=_:=k;simp only[kH,k,aD,gB,c,Bool.not_true,oD,hj,ew,Bool.not_false,oC]
theorem a2N(ha:RT pa pa.length d r C K)(hb:RT pb pb.length d' r' C' K')(hd:∀ n∈pa,n ∉ pb)(hj:A4 (pa,pb,())=some (l,0,()))(hc:aS (l,())=some (0,()))(lq:l.length<=12)(hsa:∀ n∈pa,n∈l)(hsb:∀ n∈pb,n∈l)(hsl:∀ n∈l,n∈pa\/n∈pb) :
  ∃ T1 T2 T3,o6 ((pa,(Mr d pa.length C,Mr r pa.length K)),l,())=some (T1,0,())/\o6 ((pb,(Mr d' pb.length C',Mr r' pb.length K')),l,())=some (T2,0,()) /\
   yP (T1,T2,())=some (T3,0,())/\kH ((pa,(Mr d pa.length C,Mr r pa.length K)),(pb,(Mr d' pb.length C',Mr r' pb.length K')),())=some (T3,0,())/\yW (T3,T3,())=some (true,()):=by
 have k:=aKU ha hb;have c:=cf3 pa pb ha.aIF hb.aIF (Mr d' pb.length C') (Mr r' pb.length K');rw[oT hd]at c;have e0:eqI 0 0=true:=O
 have ua:=(O9 ha.pr ha.aIF).2;have ub:=(O9 hb.pr hb.aIF).2;have ul:=(O9 hc za).2;obtain⟨r1,K1,a1,a2,a3,a4⟩:=aTT ha hc lq ul hsa;obtain⟨r2,K2,b1,b2,b3,b4⟩:=aTT hb hc lq ul hsb;obtain⟨s,z,J,Z,s1,s2,s3,s4⟩:=bB6 ha hb hc rfl lq (bGP ua ul hsa) (bGX ub ul hsb hd hsl) λx _=>by
  unfold g2;split
  ·exact .inl rfl
  ·exact .inr rfl
 have s1:ES (((l.length:Int),Mr d l.length (exM pa l C)),((l.length:Int),Mr d' l.length (exM pb l C')),())=some (((l.length:Int),Mr s l.length J),0,()):=s1;have hjn:DA ((l,(Mr d l.length (exM pa l C),Mr r1 l.length K1)),(l,(Mr d' l.length (exM pb l C'),Mr r2 l.length K2)),())=some ((l,(Mr s l.length J,Mr z l.length Z)),0,()):=by simp only[DA,iG,aD,s1,e0,Bool.not_true,oD,s4]
 have hp:=bDB a1 b1;have smq:=aZH l (Mr s l.length J) (Mr z l.length Z) za (by rw[cN]; omega) (aOL za) (by rw[cN]; omega) (aOL za);have k:kP ((pa,(Mr d pa.length C,Mr r pa.length K)),(pb,(Mr d' pb.length C',Mr r' pb.length K')),([],([],[])),[(pa,(Mr d pa.length C,Mr r pa.length K)),(pb,(Mr d' pb.length C',Mr r' pb.length K'))],([(pa,(Mr d pa.length C,Mr r pa.length K)),(pb,(Mr d' pb.length C',Mr r' pb.length K'))].length:Int),0,())=_:=k
 refine⟨_,_,_,a3,b3,?_,?_,smq⟩
 ·simp only[yP,hp,aD,e0,Bool.not_true,oD,hjn]
 ·simp only[kH,k,aD,gB,c,Bool.not_true,oD,hj,e0,a2,b2,hjn]
theorem aTJ(ha:RT pa pa.length d r C K) (hb:RT pb pb.length d' r' C' K') (ma:pa∈L12) (mb:pb∈a7G) (v:List (List Int×List (List Int)×List (List Int))) (m:Int) (t:Nat) (hv:v.getD t ([],([],[]))=(pb,(Mr d' pb.length C',Mr r' pb.length K'))) (ht:t<v.length) (hm:v.length=2) :
  cK ((pa,(Mr d pa.length C,Mr r pa.length K)),v,2,(t:Int),())=some (.inl ((pa,(Mr d pa.length C,Mr r pa.length K)),v,2,((t+1:Nat):Int),())):=by
 have e0:eqI 0 0=true:=O
 have e14:eqI 14 14=true:=O
 have he:KD ((([]:List Int),(([]:List (List Int)),([]:List (List Int)))),())=some (true,()):=rfl;have e1:ltI (t:Int) 2=true:=by rw[aE]; exact oT Z
 have e2:aF (t:Int) v.length=true:=by rw[aL]; exact oT Z
 have e3:((t:Nat):Int).toNat=t:=oN _;have e4:=bO t Z;have c:=cf4 pb pa hb.aIF ha.aIF (Mr d pa.length C) (Mr r pa.length K)
 by_cases hd:∀ n∈pa,n ∉ pb
 ·have hd2:∀ n∈pb,n ∉ pa:=λn h1 h2=>hd n h2 h1
  rw[oT hd2]at c;obtain⟨l,w,hj,hw|⟨rfl,hc,h1,h2,h3⟩⟩:=a2A ma mb hd
  ·have ew:eqI w 0=false:=by rw[eG]; exact oF hw
   have eww:eqI w w=true:=by rw[eG]; exact oT rfl
   have k:=a0N ha hb hd hw hj;simp only[cK,e1,e2,e3,hv,oC,k,aD,c,Bool.not_true,oD,hj,ew,eww,Bool.not_false,e4]
  ·have l6:l.length<=12:=by
    have lb:l.length<1048576:=by
     refine Classical.byContradiction λq=>?_
     have a1:eqI (l.length:Int) 0=false:=by rw[eG]; exact oF Z
     have a2:ltI 6 (l.length:Int)=true:=by rw[aE]; exact oT Z
     have:aS (l,())=some (4,()):=by simp only[aS,a1,a2,oC,oD]
     rw[hc]at this;simp at this
    have:=(O9 hc lb).1;omega
   obtain⟨T1,T2,T3,k1,k2,k3,k4,k5⟩:=a2N ha hb hd hj hc l6 h1 h2 h3;simp only[cK,e1,e2,e3,hv,oC,k4,aD,c,Bool.not_true,oD,hj,e0,k1,k2,k3,k5,e4]
 ·have hd2:¬ ∀ n∈pb,n ∉ pa:=λh=>hd λn h1 h2=>h n h2 h1
  rw[oF hd2]at c;have k:=aW5 ha hb hd;simp only[cK,e1,e2,e3,hv,oC,k,aD,c,Bool.not_false,e14,Bool.not_true,oD,he,e4]
end
def bD0(b:List Int):Bool:=(match GP (b,(IntKind.wrap .u8 (IntKind.wrap .i64 (((BitVec.ofInt (IntKind.bits .i64) 0) ||| (BitVec.ofInt (IntKind.bits .i64) (IntKind.wrap .i64 (1*(2^(min ((aB .i64 ((b.length:Int)-1)).toNat) (IntKind.bits .i64))))))).toNat:Int))),())with
 | some (q,())=>decide (q∈a7G)&&(match aS (q,())with|some (e,())=>decide (e=0)|none=>false)&&q.all (λn=>decide (n∈b))
 | none=>false)&&!ltI (aB .i64 ((b.length:Int)-1)) 0
theorem bAR:(L12.all λb=>bD0 b)=true:=Y
theorem aSV(x:(Int×List (Int×Int×Int×Int)×Bool)×(Int×List (Int×Int×Int×Int)×Bool)×Bool)(hA:a1F x.1)(hB:a1F x.2.1):hO (x,())=some (true,()):=by
 obtain⟨⟨a1,a2,a3⟩,⟨b1,b2,b3⟩,al⟩:=x;have kn:lO (())=some (true,()):=rfl;have hf:=bGL (a1,a2,a3) (b1,b2,b3) al
 by_cases ha:a2.length<=3
 ·by_cases hb:b2.length<=3
  ·rw[oT ha,oT hb,Bool.and_self]at hf;obtain⟨d,r,C,K,m1,h1⟩:=a4D a1 hA.1.1 hA.1.2 a2 ha hA.2 a3;obtain⟨d',r',C',K',m2,h2⟩:=a4D b1 hB.1.1 hB.1.2 b2 hb hB.2 b3;have mem:∀ i,i<10->L12.getD i []∈L12:=λi hi=>by
    have hl:i<L12.length:=hi;have:L12.getD i []=L12[i]:=by simp[List.getD,hl]
    rw[this]; exact List.getElem_mem hl
   have ma:=mem (a1%10).toNat Z;have mb:=mem (b1%10).toNat Z;generalize L12.getD (a1%10).toNat []=pa at m1 h1 ma;generalize L12.getD (b1%10).toNat []=pb at m2 h2 mb;have hm:EH (((a1,a2,a3),(b1,b2,b3),false),())=some ((pa,(Mr d pa.length C,Mr r pa.length K)),(pb,(Mr d' pb.length C',Mr r' pb.length K')),()):=by simp only[EH,oD,m1,m2,aD]
   have hlast:=List.all_eq_true.1 bAR pb mb;unfold bD0 at hlast;rw[oA]at hlast;obtain⟨hq,hneg⟩:=hlast;have hneg:ltI (aB .i64 ((pb.length:Int)-1)) 0=false:=by simpa using hneg
   cases hs:GP (pb,(IntKind.wrap .u8 (IntKind.wrap .i64 (((BitVec.ofInt (IntKind.bits .i64) 0) ||| (BitVec.ofInt (IntKind.bits .i64) (IntKind.wrap .i64 (1*(2^(min ((aB .i64 ((pb.length:Int)-1)).toNat) (IntKind.bits .i64))))))).toNat:Int))),())with
   | none=>rw[hs]at hq; cases hq
   | some y =>
    obtain⟨q,⟨⟩⟩:=y;rw[hs]at hq;simp only[oA,List.all_eq_true,decide_eq_true_eq]at hq;obtain⟨⟨q1,q2⟩,q3⟩:=hq;have hc:aS (q,())=some (0,()):=by
     cases hc:aS (q,())with
     | none=>rw[hc]at q2; cases q2
     | some z =>
      obtain⟨e,⟨⟩⟩:=z;rw[hc]at q2;have:e=0:=by simpa using q2
      rw[this]
    have lq:q.length<1048576:=by
     have key:∀ z∈a7G,z.length<1048576:=O
     exact key q q1
    obtain⟨l6,uq⟩:=O9 hc lq;obtain⟨s,a,L,K2,g1,g2,g3⟩:=aZ0 h2 hc Z uq q3;have mb2:pb∈a7G:=List.mem_append_left _ mb;have k:=aU (step:=cK) (N:=2^64) (λt=>((pa,(Mr d pa.length C,Mr r pa.length K)),[(pb,(Mr d' pb.length C',Mr r' pb.length K')),(q,(Mr s q.length L,Mr a q.length K2))],2,(t:Int),())) 2 (.inr ()) Z (λt ht=>by
     rcases(show t=0\/t=1 by omega)with rfl|rfl
     ·exact aTJ h1.toRT h2.toRT ma mb2 _ 2 0 rfl (by show 0<2; omega) rfl
     ·exact aTJ h1.toRT g1 ma q1 _ 2 1 rfl (by show 1<2; omega) rfl) (by
     have e1:ltI ((2:Nat):Int) 2=false:=O
     simp only[cK,e1,oD])
    have k:nM ((pa,(Mr d pa.length C,Mr r pa.length K)),[(pb,(Mr d' pb.length C',Mr r' pb.length K')),(q,(Mr s q.length L,Mr a q.length K2))],([(pb,(Mr d' pb.length C',Mr r' pb.length K')),(q,(Mr s q.length L,Mr a q.length K2))].length:Int),0,())=_:=k;simp only[hO,kn,aD,oC,hf,hm,hneg,oD,hs,g2,k,gB]
  ·rw[oT ha,oF hb]at hf;simp only[Bool.true_and,Bool.and_false]at hf;simp only[hO,kn,aD,oC,hf,oD]
 ·rw[oF ha]at hf;simp only[Bool.false_and]at hf;simp only[hO,kn,aD,oC,hf,oD]
end Go.PM
