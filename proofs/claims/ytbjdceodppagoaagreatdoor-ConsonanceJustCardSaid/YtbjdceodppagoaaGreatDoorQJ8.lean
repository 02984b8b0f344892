/- Texts of one proof, joined (8). -/
import Derived.Lib.AtoiAllCases
import Derived.Test.YtbjdceodppagoaaGreatDoorQJ7
set_option linter.unusedSimpArgs false
set_option linter.unusedVariables false
set_option maxRecDepth 100000
noncomputable section
namespace Go.PM
open Go Go.RowKit Go.Proofs Go.Lz
theorem UA {T}(hT:2*Lib.nDigits (T+1)<=yD){a}(h:a<=T+1):2*Lib.nDigits a<=yD:=oR (Nat.mul_le_mul_left 2 (xU h)) hT
theorem aUB {a m:Int}{T}(h:a.natAbs<=T)(hm:m≠0):(a.fdiv m).natAbs<=T+1:=by
 have h1:=aWA a m hm;have h2:1<=m.natAbs:=Z
 have h3:(a.fdiv m).natAbs*m.natAbs<=(T+1)*m.natAbs:=by
  rw[Nat.succ_mul];have:T*1<=T*m.natAbs:=Nat.mul_le_mul_left _ h2;omega
 exact Nat.le_of_mul_le_mul_right h3 Z
theorem aRA {T n}(hT:2*Lib.nDigits (T+1)<=yD){u v q}(hu:∀ x,x<n->(u x).natAbs<=T)(hv:∀ x,x<n->(v x).natAbs<=T)(hq:q.natAbs<=T+1):aS8 n u v q:=by
 constructor
 ·intro i hi;have h1:=UA hT hq;have h2:=UA hT (Nat.le_succ_of_le (hv i hi));omega
 ·intro i hi;have h2:=UA hT (Nat.le_succ_of_le (hu i hi));omega
def Big(k n:Nat) (M:Nat->V) (T:Nat):Prop:=∀ i,i<k->∀ x,x<n->(M i x).natAbs<=T
theorem Big.cm {k n T M}(h:Big k n M T)(hT:2*Lib.nDigits (T+1)<=yD):Cm k n M:=λi hi x hx=>by
 have:=UA hT (Nat.le_succ_of_le (h i hi x hx));omega
section
variable {o k n d c:Nat} {m:List (Nat×Nat×Nat)} {A:List (List ByteArray)} {J:Nat->Nat} {M M0:Nat->V} {p:Nat->Nat} {T:Nat}
def rdT(M:Nat->V) (d c t:Nat):Nat->V:=λi=>if d<i/\i<d+1+t then (λx=>M i x-(M i c).fdiv (M d c)*M d x) else M i
theorem aYD(h:l6 o k n m A J M)(hk:k<1048576)(hn:n<1048576)(f:Fo k M0 M d c p)(hd:d<k)(hcn:c<n)(hm:M d c≠0)(hB:Big k n M T)(hT:2*Lib.nDigits (T+1)<=yD)(cols:Int) :
  ∃ A' M' rest,nI (m,cols,(d:Int),(c:Int),false,aB .i64 (d+1),A,())=some (m,cols,(d:Int),(c:Int),rest,A',())/\l6 o k n m A' J M'/\Rd k M M' d c/\Fo k M0 M' d c p/\(∀ i,i<d->M' i=M i) /\
   (rest=true->∃ i,d<i/\i<k/\M' i c≠0)/\(rest=false->∀ i,d<i->i<k->M' i c=0):=by
 have hat:∀ t i,d<i->i<d+1+t->rdT M d c t i c=(M i c).fmod (M d c):=λt i h1 h2=>by
  unfold rdT;rw[if_pos ⟨h1,h2⟩];exact aNP _ _
 have hd0:∀ t,rdT M d c t d=M d:=λt=>by unfold rdT; rw[if_neg Z]
 have:=aJU (step:=eA) (N:=2^64) (k-(d+1))
  (λt x=>∃ A' rest,x=(m,cols,(d:Int),(c:Int),rest,((d+1+t:Nat):Int),A',())/\l6 o k n m A' J (rdT M d c t)/\Fo k M0 (rdT M d c t) d c p/\(rest=true->∃ i,d<i/\i<d+1+t/\(M i c).fmod (M d c)≠0)/\(rest=false->∀ i,d<i->i<d+1+t->(M i c).fmod (M d c)=0))
  (λz=>∃ A' rest,z=(m,cols,(d:Int),(c:Int),rest,A',())/\l6 o k n m A' J (rdT M d c (k-(d+1)))/\Fo k M0 (rdT M d c (k-(d+1))) d c p/\(rest=true->∃ i,d<i/\i<k/\(M i c).fmod (M d c)≠0)/\(rest=false->∀ i,d<i->i<k->(M i c).fmod (M d c)=0))
  Z (m,cols,(d:Int),(c:Int),false,aB .i64 ((d:Int)+1),A,()) ?_ ?_ ?_
 ·obtain⟨z,h1,A',rest,rfl,h2,h3,h4,h5⟩:=this;refine⟨A',_,rest,h1,h2,⟨hd0 _,λi g1 g2=>?_⟩,h3,λi hi=>by unfold rdT; rw[if_neg Z],λhr=>?_,λhr i g1 g2=>?_⟩
  ·unfold rdT; rw[if_pos ⟨g1,by omega⟩]
  ·obtain⟨i,g1,g2,g3⟩:=h4 hr;exact⟨i,g1,g2,by rw[hat _ i g1 Z]; exact g3⟩
  ·grind
 ·have e:rdT M d c 0=M:=by
   funext i; unfold rdT; rw[if_neg Z]
  refine⟨A,false,?_,by rw[e]; exact h,by rw[e]; exact f,λhr=>(by cases hr),λ_ i g1 g2=>by omega⟩;rw[bC d Z]
 ·rintro t x ht ⟨A',rest,rfl,hL,hF,hr1,hr2⟩;have hi:d+1+t<k:=Z
  have hMi:rdT M d c t (d+1+t)=M (d+1+t):=by unfold rdT; rw[if_neg Z]
  have e1:ltI ((d+1+t:Nat):Int) (m.length:Int)=true:=by rw[aE,h.len]; exact oT Z
  have e2:aF ((d+1+t:Nat):Int) m.length=true:=by rw[aK,h.len]; exact oT Z
  have e3:(((d+1+t:Nat):Int)).toNat=d+1+t:=oN _;have e4:Nat.blt (d+1+t) m.length=true:=by rw[bW,h.len]; simpa using hi
  have e5:aF (c:Int) n=true:=by rw[aK]; exact oT Z
  have e6:(o+((c:Nat):Int).toNat)*1=o+c:=R
  have e7:Nat.blt (o+c) (o+n)=true:=by rw[bW]; simpa using hcn
  have e8:=bC (d+1+t) Z;have e9:=hL.get hi;have e10:=hL.dE hi;have e11:=hL.dQ hi hcn;rw[hMi]at e11;have f2:aF ((d:Nat):Int) m.length=true:=by rw[aK,h.len]; exact oT Z
  have f3:((d:Nat):Int).toNat=d:=oN _;have f4:Nat.blt d m.length=true:=by rw[bW,h.len]; simpa using hd
  have f9:=hL.get hd;have f10:=hL.dE hd;have f11:=hL.dQ hd hcn;rw[hd0]at f11;have b1:=hB _ hi c hcn;have b2:=hB _ hd c hcn;have k1:=UA hT (Nat.le_succ_of_le b1);have k2:=UA hT (Nat.le_succ_of_le b2);have c1:=aDX (M (d+1+t) c) (M d c) (by have:yD=400000:=rfl; omega) (by have:yD=400000:=rfl; omega) hm;obtain⟨A2,c2,c3⟩:=hL.less hn hi hd Z ((M (d+1+t) c).fdiv (M d c)) (by
   rw[hMi,hd0];exact aRA hT (hB _ hi) (hB _ hd) (aUB b1 hm))
  have hup:up (rdT M d c t) (d+1+t) (λx=>rdT M d c t (d+1+t) x-(M (d+1+t) c).fdiv (M d c)*rdT M d c t d x)=rdT M d c (t+1):=by
   funext i
   by_cases e:i=d+1+t
   ·subst e;rw[US,hMi,hd0];unfold rdT;rw[if_pos Z]
   ·rw[KJ _ _ e];unfold rdT
    by_cases g:d<i/\i<d+1+t
    ·rw[if_pos g,if_pos Z]
    ·rw[if_neg g,if_neg Z]
  rw[hup]at c3;have hF':Fo k M0 (rdT M d c (t+1)) d c p:=by
   rw[<- hup];exact hF.less _ Z hi
  have c4:eqS (Zn ((M (d+1+t) c).fmod (M d c))) (ByteArray.mk #[48])=decide ((M (d+1+t) c).fmod (M d c)=0):=TS _;have e8':((d+1+t+1:Nat):Int)=((d+1+(t+1):Nat):Int):=Z
  cases rest with
  | true =>
   refine⟨_,?_,A2,true,rfl,c3,hF',λ_=>?_,λhr=>(by cases hr)⟩
   ·simp only[eA,e1,e2,e3,e4,e9,e5,e6,e10,e7,e11,f2,f3,f4,f9,f10,f11,c1,c2,aD,oC,e8,e8']
   ·obtain⟨i,g1,g2,g3⟩:=hr1 rfl;exact⟨i,g1,by omega,g3⟩
  | false =>
   by_cases hz:(M (d+1+t) c).fmod (M d c)=0
   ·have c5:eqS (Zn ((M (d+1+t) c).fmod (M d c))) (ByteArray.mk #[48])=true:=by rw[c4]; exact oT hz
    refine⟨_,?_,A2,false,rfl,c3,hF',λhr=>(by cases hr),λ_ i g1 g2=>?_⟩
    ·simp only[eA,e1,e2,e3,e4,e9,e5,e6,e10,e7,e11,f2,f3,f4,f9,f10,f11,c1,c2,c5,aD,oC,oD,e8,e8',Bool.not_true]
    ·by_cases e:i=d+1+t
     ·subst e; exact hz
     ·exact hr2 rfl i g1 Z
   ·have c5:eqS (Zn ((M (d+1+t) c).fmod (M d c))) (ByteArray.mk #[48])=false:=by rw[c4]; exact oF hz
    refine⟨_,?_,A2,true,rfl,c3,hF',λ_=>⟨d+1+t,by omega,by omega,hz⟩,λhr=>(by cases hr)⟩;simp only[eA,e1,e2,e3,e4,e9,e5,e6,e10,e7,e11,f2,f3,f4,f9,f10,f11,c1,c2,c5,aD,oC,oD,e8,e8',Bool.not_false]
 ·rintro x ⟨A',rest,rfl,hL,hF,hr1,hr2⟩;have e1:ltI ((d+1+(k-(d+1)):Nat):Int) (m.length:Int)=false:=by rw[aE,h.len]; exact oF Z
  refine⟨_,?_,A',rest,rfl,hL,hF,λhr=>?_,λhr i g1 g2=>hr2 hr i g1 Z⟩
  ·simp only[eA,e1,oD]
  ·obtain⟨i,g1,g2,g3⟩:=hr1 hr;exact⟨i,g1,by omega,g3⟩
theorem aYX {E:Nat} (h:l6 o k n m A J M) (hk:k<1048576) (hn:n<1048576) (f:Fp k M0 M d c p 0) (hcn:c<n) (hB:Big k n M T) (hE:∀ i,i<d->∀ x,x<n->(M i x).natAbs<=E) (hET:E<=T) (hT:2*Lib.nDigits (T+1)<=yD) (cols:Int) :
  ∃ A' M',dG (m,cols,(d:Int),(c:Int),(d:Int),0,A,())=some (m,cols,(d:Int),(c:Int),A',())/\l6 o k n m A' J M'/\Fp k M0 M' d c p d/\(∀ i,d<=i->M' i=M i)/\∀ i,i<d->∀ x,x<n->(M' i x).natAbs<=E+(E+1)*T:=by
 have hd:=f.dk;have:=aJU (step:=jK) (N:=2^64) d
  (λt x=>∃ A' M',x=(m,cols,(d:Int),(c:Int),(d:Int),(t:Int),A',())/\l6 o k n m A' J M'/\Fp k M0 M' d c p t/\(∀ i,t<=i->M' i=M i)/\∀ i,i<t->∀ x,x<n->(M' i x).natAbs<=E+(E+1)*T)
  (λz=>∃ A' M',z=(m,cols,(d:Int),(c:Int),A',())/\l6 o k n m A' J M'/\Fp k M0 M' d c p d/\(∀ i,d<=i->M' i=M i)/\∀ i,i<d->∀ x,x<n->(M' i x).natAbs<=E+(E+1)*T)
  Z (m,cols,(d:Int),(c:Int),(d:Int),0,A,()) ⟨A,M,rfl,h,f,λ_ _=>rfl,λi hi=>by omega⟩ ?_ ?_
 ·obtain⟨z,h1,A',M',rfl,h2⟩:=this;exact⟨A',M',h1,h2⟩
 ·rintro t x ht ⟨A',M',rfl,hL,hF,hr1,hr2⟩;have hi:t<k:=Z
  have hMi:=hr1 t (oM _);have hMd:=hr1 d Z;have e1:ltI (t:Int) (d:Int)=true:=by rw[aE]; exact oT Z
  have e2:aF (t:Int) m.length=true:=by rw[aK,h.len]; exact oT Z
  have e3:((t:Nat):Int).toNat=t:=oN _;have e4:Nat.blt t m.length=true:=by rw[bW,h.len]; simpa using hi
  have e5:aF (c:Int) n=true:=by rw[aK]; exact oT Z
  have e6:(o+((c:Nat):Int).toNat)*1=o+c:=R
  have e7:Nat.blt (o+c) (o+n)=true:=by rw[bW]; simpa using hcn
  have e8:=bC t Z;have e9:=hL.get hi;have e10:=hL.dE hi;have e11:=hL.dQ hi hcn;rw[hMi]at e11;have f2:aF ((d:Nat):Int) m.length=true:=by rw[aK,h.len]; exact oT Z
  have f3:((d:Nat):Int).toNat=d:=oN _;have f4:Nat.blt d m.length=true:=by rw[bW,h.len]; simpa using hd
  have f9:=hL.get hd;have f10:=hL.dE hd;have f11:=hL.dQ hd hcn;rw[hMd]at f11;have hm:M d c≠0:=by have:=f.piv; omega
  have b0:=hE t ht c hcn;have b1:=hB _ hi c hcn;have b2:=hB _ hd c hcn;have k1:=UA hT (Nat.le_succ_of_le b1);have k2:=UA hT (Nat.le_succ_of_le b2);have c1:=aDX (M t c) (M d c) (by have:yD=400000:=rfl; omega) (by have:yD=400000:=rfl; omega) hm;obtain⟨A2,c2,c3⟩:=hL.less hn hi hd Z ((M t c).fdiv (M d c)) (by
   rw[hMi,hMd];exact aRA hT (hB _ hi) (hB _ hd) (aUB b1 hm))
  have hF2:=hF.less ht;rw[hMi,hMd]at hF2 c3;refine⟨_,?_,A2,_,rfl,c3,hF2,λi hi2=>?_,λi hi2 x hx=>?_⟩
  ·simp only[jK,e1,e2,e3,e4,e9,e5,e6,e10,e7,e11,f2,f3,f4,f9,f10,f11,c1,c2,aD,oC,e8]
  ·rw[KJ _ _ Z]; exact hr1 i Z
  ·by_cases e:i=t
   ·subst e;rw[US];have q1:=aUB b0 hm;have q2:((M i c).fdiv (M d c)*M d x).natAbs=((M i c).fdiv (M d c)).natAbs*(M d x).natAbs:=Int.natAbs_mul _ _;have q3:((M i c).fdiv (M d c)).natAbs*(M d x).natAbs<=(E+1)*T:=Nat.mul_le_mul q1 (hB _ hd x hx);have q4:=hE i Z x hx;omega
   ·rw[KJ _ _ e]; exact hr2 i Z x hx
 ·rintro x ⟨A',M',rfl,hL,hF,hr1,hr2⟩;have e1:ltI (d:Int) (d:Int)=false:=by rw[aE]; exact oF Z
  refine⟨_,?_,A',M',rfl,hL,hF,hr1,hr2⟩;simp only[jK,e1,oD]
end
def Wd(k n:Nat) (M:Nat->V):Prop:=∀ i,i<k->∀ x,n<=x->M i x=0
section
variable {o k n d c:Nat} {m:List (Nat×Nat×Nat)} {A:List (List ByteArray)} {J:Nat->Nat} {M M0:Nat->V} {p:Nat->Nat} {T E:Nat}
theorem Big.all (h:Big k n M T)(hw:Wd k n M):∀ i,i<k->∀ x,(M i x).natAbs<=T:=λi hi x=>by
 rcases oG x n with g|g
 ·exact h i hi x g
 ·rw[hw i hi x g]; simp
theorem pass(h:l6 o k n m A J M) (hk:k<1048576) (hn:n<1048576) (f:Fo k M0 M d c p) (hcn:c<n) (hB:Big k n M T) (hw:Wd k n M) (hE:∀ i,i<d->∀ x,x<n->(M i x).natAbs<=E) (hET:E<=T) (hT:2*Lib.nDigits (T+1)<=yD) {a:Nat} (hd:d<k) (ha:d<=a) (hak:a<k) (hm:M a c≠0)
  (cols:Int) (hfind:jO (m,cols,(d:Int),(c:Int),-1,(d:Int),A,())=some (m,cols,(d:Int),(c:Int),(a:Int),A,())) :
  ∃ m1 A' J' M',l6 o k n m1 A' J' M'/\Rd k (swp M d a) M' d c/\Fo k M0 M' d c p/\(∀ i,i<d->M' i=M i)/\Wd k n M' /\
   ((∃ i,d<i/\i<k/\M' i c≠0)->dI (m,cols,(d:Int),(c:Int),A,())=some (.inl (m1,cols,(d:Int),(c:Int),A',()))) /\
   ((∀ i,d<i->i<k->M' i c=0)->Big k n M' T->∃ A'' M'' p',dI (m,cols,(d:Int),(c:Int),A,())=some (.inr (m1,cols,((d+1:Nat):Int),(c:Int),A'',()))/\l6 o k n m1 A'' J' M''/\Fo k M0 M'' (d+1) (c+1) p'/\Wd k n M''/\Big k n M'' (E+(E+1)*T)):=by
 obtain⟨J',hs⟩:∃ J',l6 o k n ((m.set d (J a,o,n)).set a (J d,o,n)) A J' (swp M d a):=⟨_,h.swap hd hak⟩;have hsw:∀ i,i<k->∃ j,j<k/\swp M d a i=M j:=λi hi=>by
  unfold swp;grind
 have hBs:Big k n (swp M d a) T:=λi hi x hx=>by
  obtain⟨j,h1,h2⟩:=hsw i hi;rw[h2]; exact hB j h1 x hx
 have hws:Wd k n (swp M d a):=λi hi x hx=>by
  obtain⟨j,h1,h2⟩:=hsw i hi;rw[h2]; exact hw j h1 x hx
 have hpd:swp M d a d=M a:=by simp[swp]
 obtain⟨A',M',rest,g1,g2,g3,g4,g5,g6,g7⟩:=aYD hs hk hn (f.swap ha hak) hd hcn (by rw[hpd]; exact hm) hBs hT cols;have hw':Wd k n M':=λi hi x hx=>by
  rcases Nat.lt_trichotomy i d with q|q|q
  ·rw[g5 i q]; exact hws i hi x hx
  ·subst q; rw[g3.1]; exact hws i hi x hx
  ·rw[g3.2 i q hi];simp only[hws i hi x hx,hws d hd x hx,Int.mul_zero,Int.sub_zero]
 have hlow:∀ i,i<d->M' i=M i:=λi hi=>by
  rw[g5 i hi];unfold swp;rw[if_neg Z,if_neg Z]
 -- what the pass begins with
 have e1:ltI (a:Int) 0=false:=by rw[aE]; exact oF Z
 have e2:aF (a:Int) m.length=true:=by rw[aK,h.len]; exact oT Z
 have e3:((a:Nat):Int).toNat=a:=oN _;have e4:Nat.blt a m.length=true:=by rw[bW,h.len]; simpa using hak
 have f2:aF (d:Int) m.length=true:=by rw[aK,h.len]; exact oT Z
 have f3:((d:Nat):Int).toNat=d:=oN _;have f4:Nat.blt d m.length=true:=by rw[bW,h.len]; simpa using hd
 have e9:=h.get hak;have f9:=h.get hd;have s1:(m.set d (J a,o,n)).length=m.length:=R
 have first:dI (m,cols,(d:Int),(c:Int),A,()) =
   (bif rest then some (.inl ((m.set d (J a,o,n)).set a (J d,o,n),cols,(d:Int),(c:Int),A',()))
   else bif aF (d:Int) ((m.set d (J a,o,n)).set a (J d,o,n)).length then bif Nat.blt d ((m.set d (J a,o,n)).set a (J d,o,n)).length then bif aF (c:Int) (((m.set d (J a,o,n)).set a (J d,o,n)).getD d (0,0,0)).2.2 then
    bif Nat.blt (((((m.set d (J a,o,n)).set a (J d,o,n)).getD d (0,0,0)).2.1+((c:Nat):Int).toNat)*1) (dE A' (((m.set d (J a,o,n)).set a (J d,o,n)).getD d (0,0,0)).1) then
    aC (E6 ((dQ A' (((m.set d (J a,o,n)).set a (J d,o,n)).getD d (0,0,0)).1 (((((m.set d (J a,o,n)).set a (J d,o,n)).getD d (0,0,0)).2.1+((c:Nat):Int).toNat)*1) ByteArray.empty),())) λy23 =>
    bif ltI y23.1 0 then
     bif aF (d:Int) ((m.set d (J a,o,n)).set a (J d,o,n)).length then bif Nat.blt d ((m.set d (J a,o,n)).set a (J d,o,n)).length then
     aC (eK () (((((m.set d (J a,o,n)).set a (J d,o,n)).getD d (0,0,0)).1,(((m.set d (J a,o,n)).set a (J d,o,n)).getD d (0,0,0)).2.1,(((m.set d (J a,o,n)).set a (J d,o,n)).getD d (0,0,0)).2.2),()) A') λy24 =>
     aC (dG ((m.set d (J a,o,n)).set a (J d,o,n),cols,(d:Int),(c:Int),(d:Int),0,y24.2,())) λz25 =>
     some (.inr ((z25.1,z25.2.1,(aB .i64 (z25.2.2.1+1)),z25.2.2.2.1,z25.2.2.2.2.1,()))) else none else none
    else aC (dG ((m.set d (J a,o,n)).set a (J d,o,n),cols,(d:Int),(c:Int),(d:Int),0,A',())) λz26 =>
    some (.inr ((z26.1,z26.2.1,(aB .i64 (z26.2.2.1+1)),z26.2.2.2.1,z26.2.2.2.2.1,()))) else none else none else none else none):=by
  simp only[dI,hfind,aD,e1,oD,e2,e3,e4,f2,f3,f4,e9,f9,s1,oC,g1]
 refine⟨_,A',J',M',g2,g3,g4,hlow,hw',λhex=>?_,λhz hB'=>?_⟩
 ·obtain⟨i,q1,q2,q3⟩:=hex;have hr:rest=true:=by
   cases rest with
   | true=>rfl
   | false=>exact absurd (g7 rfl i q1 q2) q3
  rw[first,hr]; rfl
 ·have hr:rest=false:=by
   cases rest with
   | false=>rfl
   | true =>
    obtain⟨i,q1,q2,q3⟩:=g6 rfl;exact absurd (hz i q1 q2) q3
  have hmd:M' d c≠0:=by rw[g3.1,hpd]; exact hm
  have t1:=g2.len;have t2:aF (d:Int) k=true:=by rw[aK]; exact oT Z
  have t3:Nat.blt d k=true:=by rw[bW]; simpa using hd
  have t4:=g2.get hd;have t5:aF (c:Int) n=true:=by rw[aK]; exact oT Z
  have t6:(o+((c:Nat):Int).toNat)*1=o+c:=R
  have t7:Nat.blt (o+c) (o+n)=true:=by rw[bW]; simpa using hcn
  have t8:=g2.dE hd;have t9:=g2.dQ hd hcn;have t10:=aEK (M' d c);have t11:=bC d Z;have hE':∀ i,i<d->∀ x,x<n->(M' i x).natAbs<=E:=λi hi x hx=>by rw[hlow i hi]; exact hE i hi x hx
  have fin:∀ (A1:List (List ByteArray)) (M1:Nat->V),l6 o k n ((m.set d (J a,o,n)).set a (J d,o,n)) A1 J' M1->Fo k M0 M1 d c p->0<M1 d c->(∀ i,d<i->i<k->M1 i c=0)->Big k n M1 T->Wd k n M1->(∀ i,i<d->M1 i=M' i) ->
    ∃ A'' M'' p',dG ((m.set d (J a,o,n)).set a (J d,o,n),cols,(d:Int),(c:Int),(d:Int),0,A1,())=some ((m.set d (J a,o,n)).set a (J d,o,n),cols,(d:Int),(c:Int),A'',())/\l6 o k n ((m.set d (J a,o,n)).set a (J d,o,n)) A'' J' M''/\Fo k M0 M'' (d+1) (c+1) p'/\Wd k n M''/\Big k n M'' (E+(E+1)*T):=by
   intro A1 M1 q1 q2 q3 q4 q5 q6 q7;obtain⟨A2,M2,r1,r2,r3,r4,r5⟩:=aYX q1 hk hn { toFo:=q2,dk:=hd,piv:=q3,below:=q4,up:=λi hi=>by omega } hcn q5 (λi hi x hx=>by rw[q7 i hi]; exact hE' i hi x hx) hET hT cols;refine⟨A2,M2,_,r1,r2,r3.done,λi hi x hx=>?_,λi hi x hx=>?_⟩
   ·rcases oG i d with g|g
    ·have hs0:Same k M0 k M2:=r3.same;have h0:∀ j,j<k->M0 j x=0:=λj hj=>Sp.aB7 (M:=M1) (λl hl=>q6 l hl x hx) ((q2.same _).1 (Sp.mem hj))
     exact Sp.aB7 (M:=M0) h0 ((hs0 _).2 (Sp.mem hi))
    ·rw[r4 i g]; exact q6 i hi x hx
   ·rcases oG i d with g|g
    ·exact r5 i g x hx
    ·rw[r4 i g];have:=q5 i hi x hx;have:T*1<=T*(E+1):=Nat.mul_le_mul_left _ Z;rw[Nat.mul_comm (E+1) T];omega
  by_cases hn0:M' d c<0
  ·obtain⟨A1,u1,u2⟩:=g2.neg hn hd (λx hx=>(hB'.cm hT) d hd x hx);have l1:up M' d (λx=>-(M' d x)) d c = -(M' d c):=by rw[US]
   obtain⟨A2,M2,p2,r1,r2,r3,r4,r5⟩:=fin A1 _ u2 (g4.neg hd) (by rw[l1]; omega) (λi q1 q2=>by rw[KJ _ _ Z]; exact hz i q1 q2)
    (λi hi x hx=>by
     by_cases e:i=d
     ·subst e; rw[US,Int.natAbs_neg]; exact hB' i hi x hx
     ·rw[KJ _ _ e]; exact hB' i hi x hx)
    (λi hi x hx=>by
     by_cases e:i=d
     ·subst e; rw[US,hw' i hi x hx]; rfl
     ·rw[KJ _ _ e]; exact hw' i hi x hx)
    (λi hi=>KJ _ _ Z)
   refine⟨A2,M2,p2,?_,r2,r3,r4,r5⟩;have s2:ltI (M' d c).sign 0=true:=by rw[aE,Int.sign_eq_neg_one_of_neg hn0]; rfl
   rw[first,hr];simp only[oD,t1,t2,t3,t4,t5,t6,t7,t8,t9,t10,aD,oC,s2,u1,r1,t11]
  ·obtain⟨A2,M2,p2,r1,r2,r3,r4,r5⟩:=fin A' _ g2 g4 Z hz hB' hw' (λ_ _=>rfl);refine⟨A2,M2,p2,?_,r2,r3,r4,r5⟩;have s2:ltI (M' d c).sign 0=false:=by rw[aE,Int.sign_eq_one_of_pos Z]; rfl
   rw[first,hr];simp only[oD,t1,t2,t3,t4,t5,t6,t7,t8,t9,t10,aD,oC,s2,r1,t11]
end
structure St (k n d E T:Nat):Prop where
 e1:1<=E
 et:E<=T
 eu:d+1<k->9*E^5<=T
 fit:2*Lib.nDigits (T+1)<=yD
def bFI(o k n d c:Nat) (M0:Nat->V) (cols:Int) (E T:Nat) (z:List (Nat×Nat×Nat)×Int×Int×Int×List (List ByteArray)×Unit):Prop :=
 ∃ m' A' J' M' d' p',z=(m',cols,((d':Nat):Int),(c:Int),A',())/\l6 o k n m' A' J' M'/\Fo k M0 M' d' (c+1) p'/\Wd k n M'/\((d'=d/\Big k n M' E)\/(d'=d+1/\Big k n M' (E+(E+1)*T)))
section
variable {o k n d c:Nat} {m:List (Nat×Nat×Nat)} {A:List (List ByteArray)} {J:Nat->Nat} {M M0:Nat->V} {p:Nat->Nat} {T E:Nat}
theorem a8G {a g}(h:a<10^g):a<2^(4*g):=by
 refine Nat.lt_of_lt_of_le h ?_;rw[Nat.pow_mul];exact Nat.pow_le_pow_left R g
theorem rounds(hk:k<1048576) (hn:n<1048576) (hcn:c<n) (hT:2*Lib.nDigits (T+1)<=yD) (hET:E<=T) {C:Nat} (hC:3*C<=T) (cols:Int):∀ (R N P:Nat) {m:List (Nat×Nat×Nat)} {A:List (List ByteArray)} {J:Nat->Nat} {M:Nat->V},
  l6 o k n m A J M->Fo k M0 M d c p->Wd k n M->(∀ i,i<d->∀ x,x<n->(M i x).natAbs<=E)->Bt k M d c C->Pt k M d c P->P<2^R->R<N->∃ z,aW dI N (m,cols,(d:Int),(c:Int),A,())=some z/\bFI o k n d c M0 cols E T z
 | 0,N,P,m,A,J,M,h,f,hw,hE,hB,hP,hlt,_=>by
  obtain⟨i,w1,w2,w3,w4⟩:=hP;have:=hB.piv;have h1:1*1<=(M d c).natAbs*(M i c).natAbs:=Nat.mul_le_mul Z Z;grind
 | R+1,N+1,P,m,A,J,M,h,f,hw,hE,hB,hP,hlt,hN=>by
  obtain⟨E1,b1,i0,b2,b3,b4,b5⟩:=hB.ex;have hdk:=hB.dk;have hmp:=hB.piv;have hE1:E1<=C:=by
   have h1:E1*1<=E1*((M d c).natAbs^3*(M i0 c).natAbs):=Nat.mul_le_mul_left _ (Nat.mul_pos (Nat.pow_pos Z) Z);grind
  have hBig:Big k n M T:=λi hi x hx=>by
   rcases oG i d with g|g
   ·grind
   ·have:=(b1 i g hi).1 x;omega
  obtain⟨r,f1,f2⟩:=aWY h hk (hBig.cm hT) hcn (Nat.le_of_lt hdk) cols;cases r with
  | none=>exact absurd (f2.none rfl d (oM _) Z) hmp
  | some a =>
   obtain⟨q1,q2,q3,q4⟩:=f2.some a rfl;have hak:a<k:=Z
   have hmin:∀ i,d<=i->i<k->M i c≠0->(M a c).natAbs<=(M i c).natAbs:=λi g1 g2 g3=>q4 i g1 Z g3
   obtain⟨m1,A',J',M',s1,s2,s3,s4,s5,s6,s7⟩:=pass h hk hn f hcn hBig hw hE hET hT hdk q1 hak q3 cols f1;have hE':∀ i,i<d->∀ x,x<n->(M' i x).natAbs<=E:=λi hi x hx=>by rw[s4 i hi]; exact hE i hi x hx
   by_cases hz:∀ i,d<i->i<k->M' i c=0
   ·rcases hB.round q1 hak q3 hmin s2 with ⟨_,A1,g1⟩|⟨g1,_⟩
    ·have hBig':Big k n M' T:=λi hi x hx=>by
      rcases oG i d with g|g
      ·grind
      ·exact oR ((g1 i g hi).1 x) hC
     obtain⟨A2,M2,p2,u1,u2,u3,u4,u5⟩:=s7 hz hBig';exact⟨_,by rw[bV,u1],m1,A2,J',M2,d+1,p2,rfl,u2,u3,u4,.inr ⟨rfl,u5⟩⟩
    ·obtain⟨_,_,i,z1,z2,z3,_⟩:=g1.ex;grind
   ·have hex:∃ i,d<i/\i<k/\M' i c≠0:=by
     obtain⟨i,hi⟩:=Classical.not_forall.1 hz;obtain⟨g1,hi⟩:=Classical.not_forall.1 hi;obtain⟨g2,g3⟩:=Classical.not_forall.1 hi;exact⟨i,g1,g2,g3⟩
    rcases hB.round q1 hak q3 hmin s2 with ⟨g0,_⟩|⟨g1,_⟩
    ·exact absurd g0 hz
    ·have hP':=hB.half q1 hak q3 hmin s2 hz hP;obtain⟨z,v1,v2⟩:=rounds hk hn hcn hT hET hC cols R N (P/2) s1 s3 s5 hE' g1 hP' (by rw[Nat.pow_succ]at hlt; omega) Z;exact⟨z,by rw[bV,s6 hex]; exact v1,v2⟩
theorem column(hk:k<1048576) (hn:n<1048576) (h:l6 o k n m A J M) (f:Fo k M0 M d c p) (hw:Wd k n M) (hd:d<k) (hcn:c<n) (hE:Big k n M E) (st:St k n d E T) (cols:Int) :
  ∃ z,jJ (m,cols,(d:Int),(c:Int),A,())=some z/\bFI o k n d c M0 cols E T z:=by
 have hBig:Big k n M T:=λi hi x hx=>oR (hE i hi x hx) st.et
 have hEl:∀ i,i<d->∀ x,x<n->(M i x).natAbs<=E:=λi hi x hx=>hE i Z x hx
 obtain⟨r,f1,f2⟩:=aWY h hk (hBig.cm st.fit) hcn (Nat.le_of_lt hd) cols;unfold jJ;obtain⟨N,hN⟩:∃ N,2^64=N+1:=⟨2^64-1,by omega⟩;rw[hN];cases r with
 | none =>
  have e1:ltI (atv none) 0=true:=O
  refine⟨_,?_,m,A,J,M,d,p,rfl,h,f.skip λi h1 h2=>f2.none rfl i h1 Z,hw,.inl ⟨rfl,hE⟩⟩;rw[bV];simp only[dI,f1,aD,e1,oC]
 | some a =>
  obtain⟨q1,q2,q3,q4⟩:=f2.some a rfl;have hak:a<k:=Z
  obtain⟨m1,A',J',M',s1,s2,s3,s4,s5,s6,s7⟩:=pass h hk hn f hcn hBig hw hEl st.et st.fit hd q1 hak q3 cols f1;have hE':∀ i,i<d->∀ x,x<n->(M' i x).natAbs<=E:=λi hi x hx=>by rw[s4 i hi]; exact hEl i hi x hx
  have hWi:Wi k (swp M d a) d c E E:=(show Wi k M d c E E from λi g1 g2=>⟨λx=>hE.all hw i g2 x,hE.all hw i g2 c⟩).swap q1 hak;have hpd:swp M d a d=M a:=by simp[swp]
  have hfirst:=s2.first hWi hd (by rw[hpd]; exact q3);have hpow:3*(3*(E*E)*E^3)=9*E^5:=W
  by_cases hdk:d+1<k
  ·have h9:=st.eu hdk;rcases hfirst with ⟨hz,g1⟩|g1
   ·have hBig':Big k n M' T:=λi hi x hx=>by
     rcases oG i d with g|g
     ·exact oR (hE' i g x hx) st.et
     ·have:=(g1 i g hi).1 x;have h3:3*(E*E)*1<=3*(E*E)*E^3:=Nat.mul_le_mul_left _ (Nat.pow_pos st.e1);omega
    obtain⟨A2,M2,p2,u1,u2,u3,u4,u5⟩:=s7 hz hBig';exact⟨_,by rw[bV,u1],m1,A2,J',M2,d+1,p2,rfl,u2,u3,u4,.inr ⟨rfl,u5⟩⟩
   ·obtain⟨E1,b1,i0,b2,b3,b4,b5⟩:=g1.ex;have hPt:Pt k M' d c (T*T):=by
     refine⟨i0,b2,b3,b4,Nat.mul_le_mul ?_ ?_⟩
     ·rw[s2.1,hpd]; exact hBig a hak c hcn
     ·have h1:=(g1.sign i0 b2 b3).1;rw[s2.1,hpd]at h1;exact oR (Nat.le_of_lt h1) (hBig a hak c hcn)
    have hT2:T*T<2^(8*Lib.nDigits (T+1)):=by
     have h1:=a8G (j5 (T+1));have h2:(T+1)*(T+1)<2^(4*Lib.nDigits (T+1))*2^(4*Lib.nDigits (T+1)):=Nat.mul_lt_mul'' h1 h1;rw[<- Nat.pow_add]at h2;have h3:4*Lib.nDigits (T+1)+4*Lib.nDigits (T+1)=8*Lib.nDigits (T+1):=Z
     rw[h3]at h2;have h4:T*T<=(T+1)*(T+1):=Nat.mul_le_mul Z Z;omega
    have hex:∃ i,d<i/\i<k/\M' i c≠0:=⟨i0,b2,b3,b4⟩;obtain⟨z,v1,v2⟩:=rounds hk hn hcn st.fit st.et (C:=3*(E*E)*E^3) Z cols (8*Lib.nDigits (T+1)) N (T*T) s1 s3 s5 hE' g1 hPt hT2 (by have:=st.fit; have:yD=400000:=rfl; omega);exact⟨z,by rw[bV,s6 hex]; exact v1,v2⟩
  ·have hz:∀ i,d<i->i<k->M' i c=0:=λi g1 g2=>Z
   have hBig':Big k n M' T:=λi hi x hx=>by
    rcases oG i d with g|g
    ·exact oR (hE' i g x hx) st.et
    ·have:i=d:=Z
     subst this;rw[s2.1,hpd];exact hBig a hak x hx
   obtain⟨A2,M2,p2,u1,u2,u3,u4,u5⟩:=s7 hz hBig';exact⟨_,by rw[bV,u1],m1,A2,J',M2,d+1,p2,rfl,u2,u3,u4,.inr ⟨rfl,u5⟩⟩
structure Bds (k n:Nat) (E T:Nat->Nat):Prop where
 st:∀ d,d<k->d<n->St k n d (E d) (T d)
 up:∀ d,d<k->d<n->E d+(E d+1)*T d<=E (d+1)
theorem bDD {d t p M'}(h:Fo k M M' d t p):d<=t:=by
 have:∀ i,i<d->i<=p i:=by
  intro i
  induction i with
  | zero=>simp
  | succ i ih=>intro hi; have:=h.inc i (i+1) R hi; omega
 rcases Nat.eq_zero_or_pos d with h0|h0
 ·omega
 ·have:=this (d-1) Z; have:=h.lt (d-1) Z; omega
theorem aLY {E T:Nat->Nat} (hk:k<1048576) (hn:n<1048576) (h:l6 o k n m A J M) (hw:Wd k n M) (hE:Big k n M (E 0)) (hb:Bds k n E T) :
  ∃ m' A' J' M' d p,dW m ((n:Int),()) A=some (m'.take d,A')/\d<=k/\l6 o k n m' A' J' M'/\Hn d M' p/\Same k M d M'/\Wd k n M'/\Big k n M' (E d):=by
 have fin:∀ (N:Nat) {m':List (Nat×Nat×Nat)} {A':List (List ByteArray)} {J':Nat->Nat} {M':Nat->V} {d t:Nat} {p:Nat->Nat},t<=n->n-t<N->l6 o k n m' A' J' M'->Fo k M M' d t p->Wd k n M'->Big k n M' (E d) ->
   ∃ z,aW eB N (m',(n:Int),(d:Int),(t:Int),A',())=some z/\∃ (m':List (Nat×Nat×Nat)) (A':List (List ByteArray)) (J':Nat->Nat) (M':Nat->V) (d:Nat) (p:Nat->Nat),z=(m',(d:Int),A',())/\l6 o k n m' A' J' M'/\(d<=k/\Hn d M' p/\Same k M d M')/\Wd k n M'/\Big k n M' (E d):=by
  intro N
  induction N with
  | zero=>intro m' A' J' M' d t p h1 h2; omega
  | succ N ih =>
   intro m' A' J' M' d t p h1 h2 hL hF hW hB;rw[bV];rcases oG t n with ht|ht
   ·have e1:ltI (t:Int) (n:Int)=true:=by rw[aE]; exact oT Z
    rcases oG d k with hd|hd
    ·have e2:ltI (d:Int) (m'.length:Int)=true:=by rw[aE,hL.len]; exact oT Z
     obtain⟨z,z1,m2,A2,J2,M2,d2,p2,rfl,y1,y2,y3,y4⟩:=column hk hn hL hF hW hd ht hB (hb.st d hd (Nat.lt_of_le_of_lt (bDD hF) ht)) (n:Int);have e3:=bC t Z;have hs:eB (m',(n:Int),(d:Int),(t:Int),A',())=some (.inl (m2,(n:Int),(d2:Int),((t+1:Nat):Int),A2,())):=by simp only[eB,e1,e2,oC,z1,aD,e3]
     rw[hs];refine ih Z Z y1 y2 y3 ?_;rcases y4 with ⟨rfl,y4⟩|⟨rfl,y4⟩
     ·exact y4
     ·exact λi hi x hx=>oR (y4 i hi x hx) (hb.up d hd (Nat.lt_of_le_of_lt (bDD hF) ht))
    ·have hdk:d=k:=by have:=hF.le; omega
     have e2:ltI (d:Int) (m'.length:Int)=false:=by rw[aE,hL.len]; exact oF Z
     refine⟨_,by simp only[eB,e1,e2,oC,oD],m',A',J',M',d,p,rfl,hL,⟨hF.le,hF.hn (.inl hdk)⟩,hW,hB⟩
   ·have htn:t=n:=Z
    subst htn;have e1:ltI (t:Int) (t:Int)=false:=by rw[aE]; exact oF Z
    refine⟨_,by simp only[eB,e1,oD],m',A',J',M',d,p,rfl,hL,⟨hF.le,hF.hn (.inr λi hi x hx=>hW i hi x hx)⟩,hW,hB⟩
 obtain⟨z,z1,m',A',J',M',d,p,rfl,y1,⟨y2,y3,y4⟩,y5,y6⟩:=fin (2^64) (Nat.zero_le n) Z h (Fo.start k M) hw hE;refine⟨m',A',J',M',d,p,?_,y2,y1,y3,y4,y5,y6⟩;have z2:nJ (m,(n:Int),0,0,A,())=some (m',(d:Int),A',()):=z1;have e4:ltI (d:Int) 0=false:=by rw[aE]; exact oF Z
 have e5:((d:Nat):Int).toNat=d:=oN _;have hl:=y1.len;unfold dW;simp only[z2,aD,hl,e4,e5,Bool.not_false,oC]
 by_cases hk0:k=0
 ·have hd0:d=0:=Z
  subst hk0; subst hd0;have:m'=[]:=List.eq_nil_of_length_eq_zero hl;subst this;rfl
 ·have e6:Nat.beq k 0=false:=by
   cases k with
   | zero=>exact absurd rfl hk0
   | succ k=>rfl
  have e7:Nat.ble 0 d=true:=rfl;have e8:Nat.ble d k=true:=by rw[cT]; simpa using y2
  have e9:Nat.blt 0 k=true:=by rw[bW]; simp; omega
  simp only[e6,e7,e8,e9,oC,oD,Nat.sub_zero]
end
end Go.PM
namespace Go.PM
open Go Go.RowKit Go.Proofs Tryz
set_option maxHeartbeats 4000000
def W6(x:aM [.int .i64]):oK [.bool]:=match x with
 | (v0,()) =>
  bif !(ltI v0 (-1000000000)) then
   some (!(ltI 1000000000 v0),())
  else some (false,())
abbrev a4D:Ent:=⟨78,_,_,W6⟩
theorem aSR:Ent.OK tP a4D:=oI (aR oW) func78 Y (by rintro⟨v0,⟨⟩⟩; kernel_rfl)
def KC(x:aM [.int .i64]):oK [.bool]:=match x with
 | (v0,()) =>
  aC (W6 (v0,())) λy1 =>
  bif y1.1 then
   some (false,())
  else some (true,())
abbrev aUU:Ent:=⟨77,_,_,KC⟩
theorem aKY:Ent.OK tP aUU:=oI (aR (oV aSR oW)) func77 Y (by rintro⟨v0,⟨⟩⟩; kernel_rfl)
abbrev pN:List (Nat×Kd):=[(0,.list TyE),(1,.fn 77),(7,.int .i64),(8,.int .i64)]
abbrev wN:List (Ex×List (Nat×Kd)):=[(.ret,[(4,.int .i64)]),(.exit 0,[])]
def bU(x:Shape.den pN):oS pN wN:=match x with
 | (v0,v1,v7,v8,()) =>
  bif ltI v8 v7 then
   bif aF v8 v0.length then aC (KC ((v0.getD v8.toNat 0),())) λy2 =>
   bif y2.1 then
    some (.inr (.inl (v8,())))
   else some (.inl (v0,(),v7,(aB .i64 (v8+1)),())) else none
  else some (.inr (.inr ((()))))
def iL(x:Shape.den pN):oX wN:=aW bU (2^64) x
def iF(x:aM [.list TyE,.fn 77]):oK [.int .i64]:=match x with
 | (v0,v1,()) =>
  aC (iL (v0,(),(v0.length:Int),0,())) λz3 =>
  mY z3 (λa4=>some (a4.1,())) λb5 =>
  some ((-1),())
abbrev MR:Ent:=⟨110,_,_,iF⟩
theorem JI:Ent.OK tP MR:=oU (aR (oV aKY oW)) func110 2 (lp:=iL) rfl Y (by rintro⟨v0,v1,v7,v8,⟨⟩⟩; kernel_rfl) (by rintro⟨v0,v1,⟨⟩⟩; kernel_rfl)
def jV(x:aM [.list TyE,.fn 77]):oK [.bool]:=match x with
 | (v0,v1,()) =>
  aC (iF (v0,(),())) λy1 =>
  some (!(ltI y1.1 0),())
abbrev JM:Ent:=⟨76,_,_,jV⟩
theorem GJ:Ent.OK tP JM:=oI (aR (oV JI oW)) func76 Y (by rintro⟨v0,v1,⟨⟩⟩; kernel_rfl)
def vO(x:aM [.list TyE]):oK [.int .i64]:=match x with
 | (v0,()) =>
  bif ltI 64 (v0.length:Int) then
   some (4,())
  else aC (jV (v0,(),())) λy1 =>
  bif y1.1 then
   some (4,())
  else some (0,())
abbrev aMU:Ent:=⟨43,_,_,vO⟩
theorem M8:Ent.OK tP aMU:=oI (aR (oV GJ oW)) func43 Y (by rintro⟨v0,⟨⟩⟩; kernel_rfl)
abbrev MV:List (Nat×Kd):=[(1,.int .i64),(8,.list TyD),(9,.int .i64),(10,.int .i64)]
abbrev W4:List (Ex×List (Nat×Kd)):=[(.ret,[(4,.int .i64)]),(.exit 0,[])]
def lH(x:Shape.den MV):oS MV W4:=match x with
 | (v1,v8,v9,v10,()) =>
  bif ltI v10 v9 then
   bif aF v10 v8.length then aC (vO ((v8.getD v10.toNat []),())) λy2 =>
   bif !(eqI y2.1 0) then
    some (.inr (.inl (y2.1,())))
   else bif !(eqI ((v8.getD v10.toNat []).length:Int) v1) then
    some (.inr (.inl (5,())))
   else some (.inl (v1,v8,v9,(aB .i64 (v10+1)),())) else none
  else some (.inr (.inr ((()))))
def BS(x:Shape.den MV):oX W4:=aW lH (2^64) x
def xT(x:aM [.list TyD,.int .i64]):oK [.int .i64]:=match x with
 | (v0,v1,()) =>
  aC (BS (v1,v0,(v0.length:Int),0,())) λz3 =>
  mY z3 (λa4=>some (a4.1,())) λb5 =>
  some (0,())
abbrev aQD:Ent:=⟨72,_,_,xT⟩
theorem WO:Ent.OK tP aQD:=oU (aR (oV M8 oW)) func72 2 (lp:=BS) rfl Y (by rintro⟨v1,v8,v9,v10,⟨⟩⟩; kernel_rfl) (by rintro⟨v0,v1,⟨⟩⟩; kernel_rfl)
def EC(x:aM [.int .i64,.list TyD]):oK [.int .i64]:=match x with
 | (v0,v1,()) =>
  bif ltI v0 0 then
   some (3,())
  else bif ltI 12 v0 then
   some (3,())
  else bif ltI 12 (v1.length:Int) then
   some (4,())
  else aC (xT (v1,v0,())) λy1 =>
  some (y1.1,())
abbrev aAE:Ent:=⟨82,_,_,EC⟩
theorem T8:Ent.OK tP aAE:=oI (aR (oV WO oW)) func82 Y (by rintro⟨v0,v1,⟨⟩⟩; kernel_rfl)
abbrev iG:List (Nat×Kd):=[(4,.bag 94 TyE 39 TyD none),(6,.bag 94 TyE 39 TyD none),(13,.own 152 (.hnd 1)),(14,.int .i64),(15,.int .i64),(100000,.ar 74 .str)]
abbrev kZ:List (Ex×List (Nat×Kd)):=[(.ret,[(4,.bag 94 TyE 39 TyD none),(5,.int .i64),(100000,.ar 74 .str)]),(.exit 0,[(4,.bag 94 TyE 39 TyD none),(6,.bag 94 TyE 39 TyD none),(100000,.ar 74 .str)])]
def fW(x:Shape.den iG):oS iG kZ:=match x with
 | (v4,v6,v13,v14,v15,u00,()) =>
  bif ltI v15 v14 then
   bif aF v15 v13.length then bif Nat.blt v15.toNat v13.length then aC (j8 () (((v13.getD v15.toNat (0,0,0)).1,(v13.getD v15.toNat (0,0,0)).2.1,(v13.getD v15.toNat (0,0,0)).2.2),()) u00) λy2 =>
   bif !(eqI y2.1.2.1 0) then
    some (.inr (.inl ((0,([],())),y2.1.2.1,y2.2,())))
   else bif Nat.ble [y2.1.1].length 1048576 then bif Nat.ble v6.2.1.length 1048576 then some (.inl ((v4.1,(v4.2.1,())),(v6.1,((v6.2.1++[y2.1.1]),())),v13,v14,(aB .i64 (v15+1)),y2.2,())) else none else none else none else none
  else some (.inr (.inr (((v4.1,(v4.2.1,())),(v6.1,(v6.2.1,())),u00,()))))
def nN(x:Shape.den iG):oX kZ:=aW fW (2^64) x
def dX(v0:List (Nat×Nat×Nat))(x:aM [.int .i64])(A:List (List ByteArray)):Option ((aM [.agg TyH,.int .i64])×List (List ByteArray)):=match x with
 | (v1,()) =>
  aC (nN ((0,([],())),(v1,([],())),v0,(v0.length:Int),0,A,())) λz3 =>
  mY z3 (λa4=>some (((a4.1.1,a4.1.2.1),a4.2.1,()),a4.2.2.1)) λb5 =>
  some (((b5.2.1.1,b5.2.1.2.1),0,()),b5.2.2.1)
def tM:Code:=cQ f86
abbrev zI:Env:=MT [] [LC]
theorem EL:eS tP zI:=mM trivial ⟨V5,trivial⟩
def wR:Code:=inLoop (aQV tM 0)
def yJ(id:Nat):Option eE:=bif Nat.beq id 3 then some ⟨iG,kZ,nN⟩ else none
def yB(id:Nat):Option eE:=none
theorem OA:∀ x,aZV tP zI 36 (UC f86) yJ yB false [] wR iG kZ x=fW x:=by
 rintro⟨v4,v6,v13,v14,v15,u00,⟨⟩⟩
 kernel_rfl
theorem O6:TW tP 36 false [] (.loop wR) ⟨iG,kZ,nN⟩:=aW1 EL.callee aZ.mixed _ (M4 (l:=[]) Y trivial) OA
theorem QH:pS tM=[.loop wR]:=Y
theorem SS:∀ l x A,a0J tP zI f86 (UC f86) yJ yB tM 74 .str (.own 152 (.hnd 1)) [.int .i64] (.data [.agg TyH,.int .i64]) l x A=dX l x A:=by
 rintro u0 ⟨v1,⟨⟩⟩ A
 kernel_rfl
theorem VF:PO tP 86 74 .str (.own 152 (.hnd 1)) [.int .i64] (.data [.agg TyH,.int .i64]) dX:=bCH aZ EL func86 (c:=tM) Y (keep:=UC f86) (lt:=yJ) (rt:=yB) (by rfl) (M4 QH ⟨aWB (i:=3) Y rfl O6,trivial⟩) SS
abbrev tE:Shr:=(86,U4 1 (arH 74 .str (.own 152 (.hnd 1)) [.int .i64] (.data [.agg TyH,.int .i64]) dX))
theorem vV:pV tP tE:=tF (g:=86) (f:=arH 74 .str (.own 152 (.hnd 1)) [.int .i64] (.data [.agg TyH,.int .i64]) dX) (DZ VF)
def JA(x:aM [.int .i64,.list TyD]):oK [.agg TyH,.int .i64]:=match x with
 | (v0,v1,()) =>
  aC (EC (v0,v1,())) λy1 =>
  bif !(eqI y1.1 0) then
   some ((0,[]),y1.1,())
  else aC (fM () (v1,()) []) λy2 =>
  aC (dW y2.1 (v0,()) y2.2) λy3 =>
  aC (dX y3.1 (v0,()) y3.2) λy4 =>
  some (y4.1.1,y4.1.2.1,())
def aBV:Code:=cQ f64
abbrev aJ6:Env:=MT [aAE] [zC,tI,tE]
theorem aN7:eS tP aJ6:=mM ⟨T8,trivial⟩ ⟨B7,vZ,vV,trivial⟩
def aH9(id:Nat):Option eE:=none
theorem aLB:bB aBV=[]:=Y
theorem aM2:∀ x,aJ1 tP aJ6 f64 (aP f64) aH9 aBV 74 .str _ _ x=JA x:=by
 rintro⟨v0,v1,⟨⟩⟩
 kernel_rfl
abbrev aXB:Ent:=⟨64,_,_,JA⟩
theorem aOA:Ent.OK tP aXB:=aO5 aZ aN7 func64 (c:=aBV) Y (keep:=aP f64) (lt:=aH9) (aQ aLB trivial) aM2
end Go.PM
namespace Go.PM
open Go Go.RowKit Go.Proofs Go.Lz
def kG(r:List Int):V:=λx=>r.getD x 0
def aB4(m:List (List Int)):Nat->V:=λi=>kG (m.getD i [])
def Vr(n:Nat) (v:V):List Int:=(List.range n).map v
theorem bBF r:Zr r.length (kG r)=r.map Zn:=by
 refine List.ext_getElem? λi=>?_
 simp only[Zr]
 by_cases h:i<r.length
 ·simp[kG,h]
 grind
theorem bB6 {n v}(hw:∀ x,n<=x->v x=0):kG (Vr n v)=v:=by
 unfold kG Vr;grind
theorem aJX n (h:Lib.nDigits n.natAbs<=18):nM (Zn n,())=some (n,true,()):=by
 have hs:(Zn n).size<=1000000000:=by
  rcases(by omega:n<0\/0<=n)with g|g
  ·rw[D2 g]; omega
  ·rw[O1 g,DL]; omega
 have e1:Nat.ble (Zn n).size 1000000000=true:=by rw[cT]; simpa using hs
 have e4:Lib.parseIntB 64 (Zn n).data.toList=.ok n:=by
  have hne:∀ c r,Lib.decDigits n.natAbs=c::r->c.toNat≠43/\c.toNat≠45:=λc r he=>by
   have:=HJ n.natAbs c (by rw[he]; simp);omega
  have hmag:=aJF n.natAbs;rw[xR]at hmag;have hlen:(Lib.decDigits n.natAbs).length<=18:=by rw[Lib.decDigits_length]; exact h
  rw[Lib.parseIntB_64];rcases(by omega:n<0\/0<=n)with g|g
  ·have hn : -(n.natAbs:Int)=n:=Z
   rw[VJ g,Lib.atoiAll_minus,Lib.signed_short hlen,hmag];simp only[Option.map_some,hn];rfl
  ·have hn:(n.natAbs:Int)=n:=Z
   rw[O1 g,xR];cases he:Lib.decDigits n.natAbs with
   | nil=>exact absurd he (FX _)
   | cons c r =>
    obtain⟨h1,h2⟩:=hne c r he;rw[Lib.atoiAll_plain c r h1 h2,<- he,Lib.signless_short hlen,hmag];simp only[Option.map_some,hn];rfl
 unfold nM;grind
theorem aWK(r:List Int)(hl:r.length<=1048576)(hr:∀ a∈r,-9223372036854775808<=a/\a<9223372036854775808) :
  wE ([],r,(r.length:Int),0,())=some (r.map Zn,()):=by
 have key:=bH (step:=qZ) (N:=2^64) (λt=>((r.take t).map Zn,r,(r.length:Int),(t:Int),())) r.length (r.map Zn,()) Z (λt ht=>?_) ?_
 ·exact key
 ·have e1:ltI (t:Int) (r.length:Int)=true:=by rw[aE]; exact oT Z
  have e2:aF (t:Int) r.length=true:=by rw[aK]; exact oT Z
  have e3:((t:Nat):Int).toNat=t:=oN _;have e4:r.getD t 0=r[t]:=by simp[List.getD,ht]
  obtain⟨b1,b2⟩:=hr r[t] (List.getElem_mem ht);have e5:=vQ r[t] b1 b2;have e6:Nat.ble [Zn r[t]].length 1048576=true:=rfl;have e7:Nat.ble ((r.take t).map Zn).length 1048576=true:=by rw[cT,List.length_map,List.length_take]; exact oT Z
  have e8:=bC t Z;have e9:(r.take t).map Zn++[Zn r[t]]=(r.take (t+1)).map Zn:=by rw[List.take_succ_eq_append_getElem ht,List.map_append]; rfl
  simp only[qZ,e1,e2,e3,e4,e5,aD,e6,e7,oC,e8,e9]
 ·have e1:ltI (r.length:Int) (r.length:Int)=false:=by rw[aE]; exact oF Z
  simp only[qZ,e1,oD,List.take_length]
theorem aSF(r:List Int)(hl:r.length<=1048576)(hr:∀ a∈r,-9223372036854775808<=a/\a<9223372036854775808):rU (r,())=some (r.map Zn):=by
 have e1:ltI r.length 0=false:=by rfl
 have e2:ltI 1048576 r.length=false:=by rw[aE]; grind
 unfold rU;simp only[e1,e2,Bool.not_false,oC,List.replicate_zero,aWK r hl hr,aD]
theorem aPD(rows:List (List Int)) {n:Nat} (hk:rows.length<1048576) (hn:n<1048576) (hlen:∀ r∈rows,r.length=n) (hr:∀ r∈rows,∀ a∈r,-9223372036854775808<=a/\a<9223372036854775808) :
  ∃ m A,fM () (rows,()) []=some (m,A)/\l6 0 rows.length n m A (λi=>i) (aB4 rows):=by
 have key:=bH (step:=j3) (N:=2^64)
  (λt=>((List.range t).map (λi=>(i,0,n)),rows,(rows.length:Int),(t:Int),(rows.take t).map (·.map Zn),())) rows.length ((List.range rows.length).map (λi=>(i,0,n)),rows.map (·.map Zn),()) Z (λt ht=>?_) ?_
 ·refine⟨(List.range rows.length).map (λi=>(i,0,n)),rows.map (·.map Zn),?_,rfl,λi hi=>⟨[],rfl,?_⟩,λi j _ _ h=>h⟩
  ·unfold fM sF;have key:aW j3 (2^64) ([],rows,(rows.length:Int),0,[],())=_:=key;simp only[key,aD]
  ·rw[List.getElem?_map,List.getElem?_eq_getElem hi];simp only[Option.map_some,List.nil_append];have h1:aB4 rows i=kG rows[i]:=by unfold aB4; simp[List.getD,hi]
   rw[h1,<- bBF,hlen rows[i] (List.getElem_mem hi)]
 ·have e1:ltI (t:Int) (rows.length:Int)=true:=by rw[aE]; exact oT Z
  have e2:aF (t:Int) rows.length=true:=by rw[aK]; exact oT Z
  have e3:((t:Nat):Int).toNat=t:=oN _;have e4:rows.getD t []=rows[t]:=by simp[List.getD,ht]
  have hm:=List.getElem_mem ht;have e5:=aSF rows[t] (by rw[hlen _ hm]; omega) (hr _ hm);have e6:((rows.take t).map (·.map Zn)).length=t:=by rw[List.length_map,List.length_take]; omega
  have e7:Nat.ble [(t,0,n)].length 1048576=true:=rfl;have e8:Nat.ble ((List.range t).map (λi=>(i,0,n))).length 1048576=true:=by rw[cT,List.length_map,List.length_range]; exact oT Z
  have e9:=bC t Z;have e10:(rows[t].map Zn).length=n:=by rw[List.length_map,hlen _ hm]
  have e11:(rows.take t).map (·.map Zn)++[rows[t].map Zn]=(rows.take (t+1)).map (·.map Zn):=by rw[List.take_succ_eq_append_getElem ht,List.map_append]; rfl
  have e12:(List.range t).map (λi=>(i,0,n))++[(t,0,n)]=(List.range (t+1)).map (λi=>(i,0,n)):=by rw[List.range_succ,List.map_append]; rfl
  simp only[j3,e1,e2,e3,e4,e5,aD,e6,e7,e8,e9,e10,e11,e12,oC]
 ·have e1:ltI (rows.length:Int) (rows.length:Int)=false:=by rw[aE]; exact oF Z
  simp only[j3,e1,oD,List.take_length]
theorem a5F {A:List (List ByteArray)} {J o n:Nat} {v:V} {pre:List ByteArray} (hn:n<1048576) (hp:pre.length=o) (hJ:A[J]?=some (pre++Zr n v)) (ok:∀ x,x<n->(v x).natAbs<=1000000000) :
  j8 () ((J,o,n),()) A=some ((Vr n v,0,()),A):=by
 have key:=bH (step:=gZ) (N:=2^64) (λt=>(Vr t v,(J,o,n),(n:Int),(t:Int),A,())) n (.inr (Vr n v,A,())) Z (λt ht=>?_) ?_
 ·have e1:ltI (n:Int) 0=false:=by rw[aE]; exact oF Z
  have e2:ltI 1048576 (n:Int)=false:=by rw[aE]; exact oF Z
  have key:aW gZ (2^64) ([],(J,o,n),(n:Int),0,A,())=_:=key;unfold j8 qD;simp only[e1,e2,Bool.not_false,oC,List.replicate_zero,key,aD,lM]
 ·have b1:=ok t ht;have e1:ltI (t:Int) (n:Int)=true:=by rw[aE]; exact oT Z
  have e2:aF (t:Int) n=true:=by rw[aK]; exact oT Z
  have e3:(o+((t:Nat):Int).toNat)*1=o+t:=R
  have e4:dE A J=o+n:=by rw[dE,aHQ _ hJ,oH,AG,hp]
  have e6:Nat.blt (o+t) (o+n)=true:=by rw[bW]; simpa using ht
  have e7:dQ A J (o+t) ByteArray.empty=Zn (v t):=by rw[dQ,aHQ _ hJ,Z9 hp,aNF _ ht]
  have e8:=aJX (v t) (by have:=tS (u:=(v t).natAbs) (k:=17) Z; omega);have e9:ltI 1000000000 (v t)=false:=by rw[aE]; exact oF Z
  have e10:ltI (v t) (-1000000000)=false:=by rw[aE]; exact oF Z
  have e11:Nat.ble [v t].length 1048576=true:=rfl;have e12:Nat.ble (Vr t v).length 1048576=true:=by rw[cT]; unfold Vr; rw[List.length_map,List.length_range]; exact oT Z
  have e13:=bC t Z;have e14:Vr t v++[v t]=Vr (t+1) v:=by unfold Vr; rw[List.range_succ,List.map_append]; rfl
  simp only[gZ,e1,e2,e3,e4,e6,e7,e8,e9,e10,e11,e12,e13,e14,aD,oC,oD]
 ·have e1:ltI (n:Int) (n:Int)=false:=by rw[aE]; exact oF Z
  simp only[gZ,e1,oD]
theorem aMX {o k d n:Nat} {m:List (Nat×Nat×Nat)} {A:List (List ByteArray)} {J:Nat->Nat} {M:Nat->V} (h:l6 o k n m A J M) (hd:d<=k) (hk:k<1048576) (hn:n<1048576) (ok:∀ i,i<d->∀ x,x<n->(M i x).natAbs<=1000000000) (cols:Int) :
  dX (m.take d) (cols,()) A=some (((cols,(List.range d).map λi=>Vr n (M i)),0,()),A):=by
 have hl:(m.take d).length=d:=by rw[List.length_take,h.len]; omega
 have hg:∀ t,t<d->(m.take d).getD t (0,0,0)=(J t,o,n):=λt ht=>by
  rw[<- h.get (show t<k by omega)];grind
 have key:=bH (step:=fW) (N:=2^64)
  (λt=>((0,([],())),(cols,((List.range t).map (λi=>Vr n (M i)),())),m.take d,((m.take d).length:Int),(t:Int),A,())) d (.inr ((0,([],())),(cols,((List.range d).map (λi=>Vr n (M i)),())),A,())) Z (λt ht=>?_) ?_
 ·have key:aW fW (2^64) ((0,([],())),(cols,([],())),m.take d,((m.take d).length:Int),0,A,())=_:=key;unfold dX nN;simp only[key,aD,lM]
 ·rw[hl];obtain⟨pre,h1,h2⟩:=h.at_ t Z;have e1:ltI (t:Int) (d:Int)=true:=by rw[aE]; exact oT Z
  have e2:aF (t:Int) d=true:=by rw[aK]; exact oT Z
  have e3:((t:Nat):Int).toNat=t:=oN _;have e4:Nat.blt t d=true:=by rw[bW]; simpa using ht
  have e5:=a5F hn h1 h2 (ok t ht);have e6:eqI 0 0=true:=O
  have e7:Nat.ble [Vr n (M t)].length 1048576=true:=rfl;have e8:Nat.ble ((List.range t).map (λi=>Vr n (M i))).length 1048576=true:=by rw[cT,List.length_map,List.length_range]; exact oT Z
  have e9:=bC t Z;have e10:(List.range t).map (λi=>Vr n (M i))++[Vr n (M t)]=(List.range (t+1)).map (λi=>Vr n (M i)):=by rw[List.range_succ,List.map_append]; rfl
  simp only[fW,hl,e1,e2,e3,e4,hg t ht,e5,e6,e7,e8,e9,e10,aD,oC,Bool.not_true,oD]
 ·rw[hl];have e1:ltI (d:Int) (d:Int)=false:=by rw[aE]; exact oF Z
  simp only[fW,e1,oD]
theorem aHR(r:List Int) (hl:r.length<=64) (hr:∀ a∈r,a.natAbs<=1000000000):vO (r,())=some (0,()):=by
 have key:=bH (step:=bU) (N:=2^64) (λt=>(r,(),(r.length:Int),(t:Int),())) r.length (.inr ()) Z (λt ht=>?_) ?_
 ·have key:aW bU (2^64) (r,(),(r.length:Int),0,())=some (.inr ()):=key;have e1:ltI 64 (r.length:Int)=false:=by rw[aE]; exact oF Z
  have e2:ltI (-1) 0=true:=O
  simp only[vO,e1,oD,jV,iF,iL,key,aD,lM,e2,Bool.not_true]
 ·have e1:ltI (t:Int) (r.length:Int)=true:=by rw[aE]; exact oT Z
  have e2:aF (t:Int) r.length=true:=by rw[aK]; exact oT Z
  have e3:((t:Nat):Int).toNat=t:=oN _;have e4:r.getD t 0=r[t]:=by simp[List.getD,ht]
  have b:=hr r[t] (List.getElem_mem ht);have e5:ltI r[t] (-1000000000)=false:=by rw[aE]; exact oF Z
  have e6:ltI 1000000000 r[t]=false:=by rw[aE]; exact oF Z
  have e7:=bC t Z;simp only[bU,e1,e2,e3,e4,KC,W6,e5,e6,aD,Bool.not_false,oC,oD,e7]
 ·have e1:ltI (r.length:Int) (r.length:Int)=false:=by rw[aE]; exact oF Z
  simp only[bU,e1,oD]
theorem aXW(rows:List (List Int)){n}(hk:rows.length<1048576)(hn:n<=64)(hlen:∀ r∈rows,r.length=n)(hr:∀ r∈rows,∀ a∈r,a.natAbs<=1000000000):xT (rows,(n:Int),())=some (0,()):=by
 have key:=bH (step:=lH) (N:=2^64) (λt=>((n:Int),rows,(rows.length:Int),(t:Int),())) rows.length (.inr ()) Z (λt ht=>?_) ?_
 ·have key:aW lH (2^64) ((n:Int),rows,(rows.length:Int),0,())=some (.inr ()):=key;simp only[xT,BS,key,aD,lM]
 ·have e1:ltI (t:Int) (rows.length:Int)=true:=by rw[aE]; exact oT Z
  have e2:aF (t:Int) rows.length=true:=by rw[aK]; exact oT Z
  have e3:((t:Nat):Int).toNat=t:=oN _;have e4:rows.getD t []=rows[t]:=by simp[List.getD,ht]
  have hm:=List.getElem_mem ht;have e5:=aHR rows[t] (by rw[hlen _ hm]; exact hn) (hr _ hm);have e6:eqI 0 0=true:=O
  have e7:eqI (rows[t].length:Int) (n:Int)=true:=by rw[bP,hlen _ hm]; exact oT rfl
  have e8:=bC t Z;simp only[lH,e1,e2,e3,e4,e5,aD,e6,e7,e8,Bool.not_true,oC,oD]
 ·have e1:ltI (rows.length:Int) (rows.length:Int)=false:=by rw[aE]; exact oF Z
  simp only[lH,e1,oD]
theorem aVE(rows:List (List Int)){n}(hk:rows.length<=12)(hn:n<=12)(hlen:∀ r∈rows,r.length=n)(hr:∀ r∈rows,∀ a∈r,a.natAbs<=1000000000):EC ((n:Int),rows,())=some (0,()):=by
 have e1:ltI n 0=false:=by rfl
 have e2:ltI 12 n=false:=by rw[aE]; exact oF Z
 have e3:ltI 12 rows.length=false:=by rw[aE]; grind
 simp only[EC,e1,e2,e3,oD,aXW rows Z Z hlen hr,aD]
theorem of_eq(rows:List (List Int)) {n:Nat} (hk:rows.length<=12) (hn:n<=12) (hlen:∀ r∈rows,r.length=n) {E T:Nat->Nat} (hr:∀ r∈rows,∀ a∈r,a.natAbs<=E 0) (hE:E 0<=1000000000) (hb:Bds rows.length n E T)
  (hfin:∀ d M p,d<=rows.length->Hn d M p->Same rows.length (aB4 rows) d M->(∀ i,i<d->∀ x,n<=x->M i x=0)->∀ i,i<d->∀ x,x<n->(M i x).natAbs<=1000000000) :
  ∃ d M p,JA ((n:Int),rows,())=some (((n:Int),(List.range d).map λi=>Vr n (M i)),0,())/\d<=rows.length/\Hn d M p/\Same rows.length (aB4 rows) d M/\(∀ i,i<d->∀ x,n<=x->M i x=0)/\∀ i,i<d->∀ x,x<n->(M i x).natAbs<=1000000000:=by
 obtain⟨m,A,h1,h2⟩:=aPD rows (n:=n) Z Z hlen (λr h a ha=>by have:=hr r h a ha; omega);have hrow:∀ i,i<rows.length->∃ r,r∈rows/\aB4 rows i=kG r:=λi hi=>⟨rows[i],List.getElem_mem hi,by unfold aB4; simp[List.getD,hi]⟩
 have hw:Wd rows.length n (aB4 rows):=λi hi x hx=>by
  obtain⟨r,hr1,hr2⟩:=hrow i hi;rw[hr2]; unfold kG;grind
 have hB:Big rows.length n (aB4 rows) (E 0):=λi hi x hx=>by
  obtain⟨r,hr1,hr2⟩:=hrow i hi;rw[hr2]; unfold kG;have hl:=hlen r hr1;have:r.getD x 0=r[x]' Z:=by simp[List.getD,show x<r.length by omega]
  rw[this];exact hr r hr1 _ (List.getElem_mem _)
 obtain⟨m',A',J',M',d,p,g1,g2,g3,g4,g5,g6,g7⟩:=aLY Z Z h2 hw hB hb;have hwd:∀ i,i<d->∀ x,n<=x->M' i x=0:=λi hi x hx=>g6 i Z x hx
 have hf:=hfin d M' p g2 g4 g5 hwd;refine⟨d,M',p,?_,g2,g4,g5,hwd,hf⟩;have e0:eqI 0 0=true:=O
 simp only[JA,aVE rows hk hn hlen (λr h a ha=>oR (hr r h a ha) hE),aD,e0,Bool.not_true,oD,h1,g1,aMX g3 g2 Z Z hf (n:Int)]
end Go.PM
namespace Go.PM
open Go Go.RowKit Go.Proofs Tryz
set_option maxHeartbeats 4000000
def Y6(x:aM [.int .i64]):oK [.bool]:=match x with
 | (v0,()) =>
  bif ltI 1000000000 v0 then
   some (true,())
  else some (ltI v0 (-1000000000),())
abbrev aU6:Ent:=⟨149,_,_,Y6⟩
theorem aLL:Ent.OK tP aU6:=oI (aR oW) func149 Y (by rintro⟨v0,⟨⟩⟩; kernel_rfl)
abbrev pL:List (Nat×Kd):=[(0,.list TyE),(1,.fn 149),(7,.int .i64),(8,.int .i64)]
abbrev wK:List (Ex×List (Nat×Kd)):=[(.ret,[(4,.int .i64)]),(.exit 0,[])]
def eU(x:Shape.den pL):oS pL wK:=match x with
 | (v0,v1,v7,v8,()) =>
  bif ltI v8 v7 then
   bif aF v8 v0.length then aC (Y6 ((v0.getD v8.toNat 0),())) λy2 =>
   bif y2.1 then
    some (.inr (.inl (v8,())))
   else some (.inl (v0,(),v7,(aB .i64 (v8+1)),())) else none
  else some (.inr (.inr ((()))))
def nB(x:Shape.den pL):oX wK:=aW eU (2^64) x
def rM(x:aM [.list TyE,.fn 149]):oK [.int .i64]:=match x with
 | (v0,v1,()) =>
  aC (nB (v0,(),(v0.length:Int),0,())) λz3 =>
  mY z3 (λa4=>some (a4.1,())) λb5 =>
  some ((-1),())
abbrev L0:Ent:=⟨110,_,_,rM⟩
theorem JN:Ent.OK tP L0:=oU (aR (oV aLL oW)) func110 2 (lp:=nB) rfl Y (by rintro⟨v0,v1,v7,v8,⟨⟩⟩; kernel_rfl) (by rintro⟨v0,v1,⟨⟩⟩; kernel_rfl)
def jT(x:aM [.list TyE,.fn 149]):oK [.bool]:=match x with
 | (v0,v1,()) =>
  aC (rM (v0,(),())) λy1 =>
  some (!(ltI y1.1 0),())
abbrev JJ:Ent:=⟨76,_,_,jT⟩
theorem GU:Ent.OK tP JJ:=oI (aR (oV JN oW)) func76 Y (by rintro⟨v0,v1,⟨⟩⟩; kernel_rfl)
abbrev OW:List (Nat×Kd):=[(0,.list TyD),(8,.list TyD),(9,.int .i64),(10,.int .i64)]
abbrev ZD:List (Ex×List (Nat×Kd)):=[(.ret,[(2,.int .i64)]),(.exit 0,[])]
def xD(x:Shape.den OW):oS OW ZD:=match x with
 | (v0,v8,v9,v10,()) =>
  bif ltI v10 v9 then
   bif aF v10 v8.length then bif ltI 12 ((v8.getD v10.toNat []).length:Int) then
    some (.inr (.inl (4,())))
   else bif aF 0 v0.length then bif !(eqI ((v8.getD v10.toNat []).length:Int) ((v0.getD 0 []).length:Int)) then
    some (.inr (.inl (5,())))
   else aC (jT ((v8.getD v10.toNat []),(),())) λy2 =>
   bif y2.1 then
    some (.inr (.inl (4,())))
   else some (.inl (v0,v8,v9,(aB .i64 (v10+1)),())) else none else none
  else some (.inr (.inr ((()))))
def KD(x:Shape.den OW):oX ZD:=aW xD (2^64) x
def Q5(x:aM [.list TyD]):oK [.int .i64]:=match x with
 | (v0,()) =>
  bif ltI 12 (v0.length:Int) then
   some (4,())
  else aC (KD (v0,v0,(v0.length:Int),0,())) λz3 =>
  mY z3 (λa4=>some (a4.1,())) λb5 =>
  some (0,())
abbrev aUK:Ent:=⟨111,_,_,Q5⟩
theorem aK7:Ent.OK tP aUK:=oU (aR (oV GU oW)) func111 4 (lp:=KD) rfl Y (by rintro⟨v0,v8,v9,v10,⟨⟩⟩; kernel_rfl) (by rintro⟨v0,⟨⟩⟩; kernel_rfl)
def FK(x:aM [.int .i64]):oK [.bool]:=match x with
 | (v0,()) =>
  some (!(eqI v0 0),())
abbrev aJG:Ent:=⟨171,_,_,FK⟩
theorem aDK:Ent.OK tP aJG:=oI (aR oW) func171 Y (by rintro⟨v0,⟨⟩⟩; kernel_rfl)
abbrev pQ:List (Nat×Kd):=[(0,.list TyE),(1,.fn 171),(7,.int .i64),(8,.int .i64)]
abbrev wM:List (Ex×List (Nat×Kd)):=[(.ret,[(4,.int .i64)]),(.exit 0,[])]
def eR(x:Shape.den pQ):oS pQ wM:=match x with
 | (v0,v1,v7,v8,()) =>
  bif ltI v8 v7 then
   bif aF v8 v0.length then aC (FK ((v0.getD v8.toNat 0),())) λy2 =>
   bif y2.1 then
    some (.inr (.inl (v8,())))
   else some (.inl (v0,(),v7,(aB .i64 (v8+1)),())) else none
  else some (.inr (.inr ((()))))
def nG(x:Shape.den pQ):oX wM:=aW eR (2^64) x
def rH(x:aM [.list TyE,.fn 171]):oK [.int .i64]:=match x with
 | (v0,v1,()) =>
  aC (nG (v0,(),(v0.length:Int),0,())) λz3 =>
  mY z3 (λa4=>some (a4.1,())) λb5 =>
  some ((-1),())
abbrev LU:Ent:=⟨110,_,_,rH⟩
theorem JR:Ent.OK tP LU:=oU (aR (oV aDK oW)) func110 2 (lp:=nG) rfl Y (by rintro⟨v0,v1,v7,v8,⟨⟩⟩; kernel_rfl) (by rintro⟨v0,v1,⟨⟩⟩; kernel_rfl)
def KE(x:aM [.list TyE]):oK [.int .i64]:=match x with
 | (v0,()) =>
  aC (rH (v0,(),())) λy1 =>
  some (y1.1,())
abbrev aOB:Ent:=⟨150,_,_,KE⟩
theorem aHZ:Ent.OK tP aOB:=oI (aR (oV JR oW)) func150 Y (by rintro⟨v0,⟨⟩⟩; kernel_rfl)
def IE(x:aM [.list TyE,.ptr TyE,.ptr TyD]):oK [.bool]:=match x with
 | (v0,v1,v2,()) =>
  bif aF v1 v0.length then bif ltI (v0.getD v1.toNat 0) 0 then
   some (true,())
  else bif aF v1 v0.length then bif aF v1 v2.length then some (!(ltI (v0.getD v1.toNat 0) (v2.getD v1.toNat 0)),()) else none else none else none
abbrev aET:Ent:=⟨152,_,_,IE⟩
theorem ZJ:Ent.OK tP aET:=oI (aR oW) func152 Y (by rintro⟨v0,v1,v2,⟨⟩⟩; kernel_rfl)
abbrev j7:List (Nat×Kd):=[(0,.list TyD),(1,.clo 152 [TyE,TyD]),(7,.int .i64),(8,.int .i64)]
abbrev qY:List (Ex×List (Nat×Kd)):=[(.ret,[(4,.int .i64)]),(.exit 0,[])]
def dB(x:Shape.den j7):oS j7 qY:=match x with
 | (v0,v1,v7,v8,()) =>
  bif ltI v8 v7 then
   bif aF v8 v0.length then aC (IE ((v0.getD v8.toNat []),v1.1,v1.2.1,())) λy2 =>
   bif y2.1 then
    some (.inr (.inl (v8,())))
   else some (.inl (v0,(v1.1,v1.2.1,()),v7,(aB .i64 (v8+1)),())) else none
  else some (.inr (.inr ((()))))
def jG(x:Shape.den j7):oX qY:=aW dB (2^64) x
def lN(x:aM [.list TyD,.clo 152 [TyE,TyD]]):oK [.int .i64]:=match x with
 | (v0,v1,()) =>
  aC (jG (v0,(v1.1,v1.2.1,()),(v0.length:Int),0,())) λz3 =>
  mY z3 (λa4=>some (a4.1,())) λb5 =>
  some ((-1),())
abbrev FT:Ent:=⟨172,_,_,lN⟩
theorem DB:Ent.OK tP FT:=oU (aR (oV ZJ oW)) func172 2 (lp:=jG) rfl Y (by rintro⟨v0,v1,v7,v8,⟨⟩⟩; kernel_rfl) (by rintro⟨v0,v1,⟨⟩⟩; kernel_rfl)
def fC(x:aM [.list TyD,.clo 152 [TyE,TyD]]):oK [.bool]:=match x with
 | (v0,v1,()) =>
  aC (lN (v0,(v1.1,v1.2.1,()),())) λy1 =>
  some (!(ltI y1.1 0),())
abbrev DA:Ent:=⟨151,_,_,fC⟩
theorem AU:Ent.OK tP DA:=oI (aR (oV DB oW)) func151 Y (by rintro⟨v0,v1,⟨⟩⟩; kernel_rfl)
abbrev IB:List (Nat×Kd):=[(0,.list TyD),(3,.int .i64),(7,.list TyD),(8,.int .i64),(9,.int .i64)]
abbrev SA:List (Ex×List (Nat×Kd)):=[(.ret,[(2,.bool)]),(.exit 0,[])]
def sX(x:Shape.den IB):oS IB SA:=match x with
 | (v0,v3,v7,v8,v9,()) =>
  bif ltI v9 v8 then
   bif aF v9 v7.length then aC (KE ((v7.getD v9.toNat []),())) λy3 =>
   bif !(ltI v3 y3.1) then
    some (.inr (.inl (false,())))
   else bif aF y3.1 (v7.getD v9.toNat []).length then bif ltI ((v7.getD v9.toNat []).getD y3.1.toNat 0) 0 then
    some (.inr (.inl (false,())))
   else bif !(ltI v9 0) then bif Nat.ble 0 v9.toNat then bif Nat.ble v9.toNat v0.length then aC (fC (((v0.drop 0).take (v9.toNat-0)),(y3.1,(v7.getD v9.toNat []),()),())) λy4 =>
   bif y4.1 then
    some (.inr (.inl (false,())))
   else some (.inl (v0,y3.1,v7,v8,(aB .i64 (v9+1)),())) else none else none else none else none else none
  else some (.inr (.inr ((()))))
def D7(x:Shape.den IB):oX SA:=aW sX (2^64) x
def HV(x:aM [.list TyD]):oK [.bool]:=match x with
 | (v0,()) =>
  aC (D7 (v0,(-1),v0,(v0.length:Int),0,())) λz5 =>
  mY z5 (λa6=>some (a6.1,())) λb7 =>
  some (true,())
abbrev aK5:Ent:=⟨112,_,_,HV⟩
theorem aFB:Ent.OK tP aK5:=oU (aR (oV aHZ (oV AU oW))) func112 3 (lp:=D7) rfl Y (by rintro⟨v0,v3,v7,v8,v9,⟨⟩⟩; kernel_rfl) (by rintro⟨v0,⟨⟩⟩; kernel_rfl)
def OU(x:aM [.list TyD]):oK [.bool,.int .i64]:=match x with
 | (v0,()) =>
  aC (Q5 (v0,())) λy1 =>
  bif !(eqI y1.1 0) then
   some (false,y1.1,())
  else aC (HV (v0,())) λy2 =>
  some (y2.1,0,())
abbrev aK4:Ent:=⟨83,_,_,OU⟩
theorem aEL:Ent.OK tP aK4:=oI (aR (oV aFB (oV aK7 oW))) func83 Y (by rintro⟨v0,⟨⟩⟩; kernel_rfl)
def zT(x:aM [.agg TyH]):oK [.int .i64]:=match x with
 | (v0,()) =>
  aC (EC (v0.1,v0.2,())) λy1 =>
  bif !(eqI y1.1 0) then
   some (y1.1,())
  else aC (OU (v0.2,())) λy2 =>
  bif !(eqI y2.2.1 0) then
   some (7,())
  else bif y2.1 then
   some (0,())
  else some (7,())
abbrev RF:Ent:=⟨51,_,_,zT⟩
theorem KU:Ent.OK tP RF:=oI (aR (oV aEL (oV T8 oW))) func51 Y (by rintro⟨v0,⟨⟩⟩; kernel_rfl)
end Go.PM
namespace Go.PM
open Go Go.RowKit Go.Proofs Tryz
set_option maxHeartbeats 4000000
def p8(u0:Unit) (x:aM [.int .i64]) (A:List (List ByteArray)):Option ((List ByteArray)×List (List ByteArray)):=match x with
 | (v0,()) =>
  bif !(ltI v0 0) then bif !(ltI v0 v0) then bif !(ltI 1048576 v0) then aC (rU ((List.replicate v0.toNat (0:Ty.den TyE)),())) λy1 =>
  some (y1,A) else none else none else none
def JU:Code:=cQ f114
abbrev TU:Env:=MT [] [MU]
theorem aCD:eS tP TU:=mM trivial ⟨PT,trivial⟩
def R7(id:Nat):Option eE:=none
theorem ZM:bB JU=[]:=Y
theorem aBT:∀ l x A,I0 tP TU f114 (aP f114) R7 JU 74 .str .none [.int .i64] (.own 74 .str) l x A=p8 l x A:=by
 rintro u0 ⟨v0,⟨⟩⟩ A
 kernel_rfl
theorem aE5:PO tP 114 74 .str .none [.int .i64] (.own 74 .str) p8:=BB aZ aCD func114 (c:=JU) Y (keep:=aP f114) (lt:=R7) (by rfl) (aQ ZM trivial) aBT
abbrev UF:Shr:=(114,U4 0 (arH 74 .str .none [.int .i64] (.own 74 .str) p8))
theorem aAM:pV tP UF:=tF (g:=114) (f:=arH 74 .str .none [.int .i64] (.own 74 .str) p8) (DZ aE5)
abbrev gL:List (Nat×Kd):=[(1,.int .i64),(2,.int .i64),(7,.own 152 (.hnd 1)),(10,.list (.hnd 1)),(11,.int .i64),(12,.int .i64),(100000,.ar 74 .str)]
abbrev kF:List (Ex×List (Nat×Kd)):=[(.exit 0,[(2,.int .i64),(7,.own 152 (.hnd 1)),(100000,.ar 74 .str)])]
def fI(x:Shape.den gL):oS gL kF:=match x with
 | (v1,v2,v7,v10,v11,v12,u00,()) =>
  bif ltI v12 v11 then
   bif aF v12 v10.length then aC (iU () (((v10.getD v12.toNat (0,0,0)).1,(v10.getD v12.toNat (0,0,0)).2.1,(v10.getD v12.toNat (0,0,0)).2.2),()) u00) λy2 =>
   bif !(ltI y2.1.1 v1) then
    bif !(ltI v1 0) then bif Nat.ble v1.toNat ((v10.getD v12.toNat (0,0,0)).2.2) then bif Nat.ble ((v10.getD v12.toNat (0,0,0)).2.2) ((v10.getD v12.toNat (0,0,0)).2.2) then bif Nat.ble [((v10.getD v12.toNat (0,0,0)).1,((v10.getD v12.toNat (0,0,0)).2.1+v1.toNat),((v10.getD v12.toNat (0,0,0)).2.2-v1.toNat))].length 1048576 then bif Nat.ble v7.length 1048576 then some (.inl (v1,v2,(v7++[((v10.getD v12.toNat (0,0,0)).1,((v10.getD v12.toNat (0,0,0)).2.1+v1.toNat),((v10.getD v12.toNat (0,0,0)).2.2-v1.toNat))]),v10,v11,(aB .i64 (v12+1)),y2.2,())) else none else none else none else none else none
   else some (.inl (v1,v2,v7,v10,v11,(aB .i64 (v12+1)),y2.2,())) else none
  else some (.inr ((v2,v7,u00,())))
def iR(x:Shape.den gL):oX kF:=aW fI (2^64) x
def jZ(u0:Unit)(x:aM [.list (.hnd 1),.int .i64,.int .i64])(A:List (List ByteArray)):Option ((List (Nat×Nat×Nat))×List (List ByteArray)):=match x with
 | (v0,v1,v2,()) =>
  aC (iR (v1,v2,[],v0,(v0.length:Int),0,A,())) λz3 =>
  aC (dW z3.2.1 (z3.1,()) z3.2.2.1) λy4 =>
  some y4
def rZ:Code:=cQ f115
abbrev yQ:Env:=MT [] [NU,tI]
theorem DI:eS tP yQ:=mM trivial ⟨XF,vZ,trivial⟩
def vJ:Code:=iH rZ 0
def wV(id:Nat):Option eE:=bif Nat.beq id 3 then some ⟨gL,kF,iR⟩ else none
theorem MQ:∀ x,jQ tP yQ 30 (aP f115) wV vJ gL kF x=fI x:=by
 rintro⟨v1,v2,v7,v10,v11,v12,u00,⟨⟩⟩
 kernel_rfl
theorem NX:eJ tP 30 vJ ⟨gL,kF,iR⟩:=fG DI.callee aZ.mixed _ (aQ (l:=[]) Y trivial) MQ
theorem PD:bB rZ=[vJ]:=Y
theorem QD:∀ l x A,I0 tP yQ f115 (aP f115) wV rZ 74 .str .none [.list (.hnd 1),.int .i64,.int .i64] (.own 152 (.hnd 1)) l x A=jZ l x A:=by
 rintro u0 ⟨v0,v1,v2,⟨⟩⟩ A
 kernel_rfl
theorem TC:PO tP 115 74 .str .none [.list (.hnd 1),.int .i64,.int .i64] (.own 152 (.hnd 1)) jZ:=BB aZ DI func115 (c:=rZ) Y (keep:=aP f115) (lt:=wV) (by rfl) (aQ PD ⟨fB (i:=3) Y rfl NX,trivial⟩) QD
abbrev HA:Shr:=(115,U4 0 (arH 74 .str .none [.list (.hnd 1),.int .i64,.int .i64] (.own 152 (.hnd 1)) jZ))
theorem Q4:pV tP HA:=tF (g:=115) (f:=arH 74 .str .none [.list (.hnd 1),.int .i64,.int .i64] (.own 152 (.hnd 1)) jZ) (DZ TC)
abbrev gF:List (Nat×Kd):=[(0,.list (.hnd 1)),(1,.int .i64),(5,.own 152 (.hnd 1)),(6,.int .i64),(7,.own 74 .str),(11,.int .i64),(12,.int .i64),(15,.list (.hnd 1)),(16,.int .i64),(17,.int .i64),(100000,.ar 74 .str)]
abbrev kI:List (Ex×List (Nat×Kd)):=[(.exit 2,[(0,.list (.hnd 1)),(1,.int .i64),(5,.own 152 (.hnd 1)),(6,.int .i64),(7,.own 74 .str),(11,.int .i64),(12,.int .i64),(100000,.ar 74 .str)])]
def iS(x:Shape.den gF):oS gF kI:=match x with
 | (v0,v1,v5,v6,v7,v11,v12,v15,v16,v17,u00,()) =>
  bif ltI v17 v16 then
   bif aF v17 v15.length then bif aF v6 ((v15.getD v17.toNat (0,0,0)).2.2) then bif Nat.blt (((v15.getD v17.toNat (0,0,0)).2.1+v6.toNat)*1) (dE u00 ((v15.getD v17.toNat (0,0,0)).1)) then bif Nat.ble [(dQ u00 ((v15.getD v17.toNat (0,0,0)).1) (((v15.getD v17.toNat (0,0,0)).2.1+v6.toNat)*1) ByteArray.empty)].length 1048576 then bif Nat.ble v7.length 1048576 then some (.inl (v0,v1,v5,v6,(v7++[(dQ u00 ((v15.getD v17.toNat (0,0,0)).1) (((v15.getD v17.toNat (0,0,0)).2.1+v6.toNat)*1) ByteArray.empty)]),v11,v12,v15,v16,(aB .i64 (v17+1)),u00,())) else none else none else none else none else none
  else some (.inr ((v0,v1,v5,v6,v7,v11,v12,u00,())))
def mI(x:Shape.den gF):oX kI:=aW iS (2^64) x
abbrev gM:List (Nat×Kd):=[(0,.list (.hnd 1)),(1,.int .i64),(5,.own 152 (.hnd 1)),(11,.int .i64),(12,.int .i64),(100000,.ar 74 .str)]
abbrev kP:List (Ex×List (Nat×Kd)):=[(.exit 0,[(0,.list (.hnd 1)),(1,.int .i64),(5,.own 152 (.hnd 1)),(100000,.ar 74 .str)])]
def iZ(x:Shape.den gM):oS gM kP:=match x with
 | (v0,v1,v5,v11,v12,u00,()) =>
  bif ltI v12 v11 then
   aC (mI (v0,v1,v5,v12,[],v11,v12,v0,(v0.length:Int),0,u00,())) λz3 =>
   aC (p8 () (z3.2.1,()) z3.2.2.2.2.2.2.2.1) λy4 =>
   bif aF z3.2.2.2.1 y4.1.length then bif Nat.blt z3.2.2.2.1.toNat y4.1.length then bif Nat.ble (y4.1.set z3.2.2.2.1.toNat (ByteArray.mk #[49])).length 1048576 then bif Nat.ble z3.2.2.2.2.1.length 1048576 then bif Nat.ble [(y4.2.length,0,(z3.2.2.2.2.1++(y4.1.set z3.2.2.2.1.toNat (ByteArray.mk #[49]))).length)].length 1048576 then bif Nat.ble z3.2.2.1.length 1048576 then some (.inl (z3.1,z3.2.1,(z3.2.2.1++[(y4.2.length,0,(z3.2.2.2.2.1++(y4.1.set z3.2.2.2.1.toNat (ByteArray.mk #[49]))).length)]),z3.2.2.2.2.2.1,(aB .i64 (z3.2.2.2.2.2.2.1+1)),(y4.2++[(z3.2.2.2.2.1++(y4.1.set z3.2.2.2.1.toNat (ByteArray.mk #[49])))]),())) else none else none else none else none else none else none
  else some (.inr ((v0,v1,v5,u00,())))
def iY(x:Shape.den gM):oX kP:=aW iZ (2^64) x
def cE(u0:Unit)(x:aM [.list (.hnd 1),.int .i64])(A:List (List ByteArray)):Option ((List (Nat×Nat×Nat))×List (List ByteArray)):=match x with
 | (v0,v1,()) =>
  aC (iY (v0,v1,[],v1,0,A,())) λz5 =>
  aC (dW z5.2.2.1 ((aB .i64 ((z5.1.length:Int)+z5.2.1)),()) z5.2.2.2.1) λy6 =>
  aC (jZ () (y6.1,(z5.1.length:Int),z5.2.1,()) y6.2) λy7 =>
  some y7
def rY:Code:=cQ f85
abbrev r7:Env:=MT [] [HA,tI,UF]
theorem uO:eS tP r7:=mM trivial ⟨Q4,vZ,aAM,trivial⟩
def k9:Code:=iH rY 0
def vF:Code:=iH k9 0
def qX(id:Nat):Option eE:=bif Nat.beq id 7 then some ⟨gF,kI,mI⟩ else bif Nat.beq id 3 then some ⟨gM,kP,iY⟩ else none
theorem MB:∀ x,jQ tP r7 51 (aP f85) qX vF gF kI x=iS x:=by
 rintro⟨v0,v1,v5,v6,v7,v11,v12,v15,v16,v17,u00,⟨⟩⟩
 kernel_rfl
theorem NT:eJ tP 51 vF ⟨gF,kI,mI⟩:=fG uO.callee aZ.mixed _ (aQ (l:=[]) Y trivial) MB
theorem L6:∀ x,jQ tP r7 51 (aP f85) qX k9 gM kP x=iZ x:=by
 rintro⟨v0,v1,v5,v11,v12,u00,⟨⟩⟩
 kernel_rfl
theorem QU:bB k9=[vF]:=Y
theorem NR:eJ tP 51 k9 ⟨gM,kP,iY⟩:=fG uO.callee aZ.mixed _ (aQ QU ⟨fB (i:=7) Y rfl NT,trivial⟩) L6
theorem PI:bB rY=[k9]:=Y
theorem QV:∀ l x A,I0 tP r7 f85 (aP f85) qX rY 74 .str .none [.list (.hnd 1),.int .i64] (.own 152 (.hnd 1)) l x A=cE l x A:=by
 rintro u0 ⟨v0,v1,⟨⟩⟩ A
 kernel_rfl
theorem S7:PO tP 85 74 .str .none [.list (.hnd 1),.int .i64] (.own 152 (.hnd 1)) cE:=BB aZ uO func85 (c:=rY) Y (keep:=aP f85) (lt:=qX) (by rfl) (aQ PI ⟨fB (i:=3) Y rfl NR,trivial⟩) QV
abbrev yM:Shr:=(85,U4 0 (arH 74 .str .none [.list (.hnd 1),.int .i64] (.own 152 (.hnd 1)) cE))
theorem DR:pV tP yM:=tF (g:=85) (f:=arH 74 .str .none [.list (.hnd 1),.int .i64] (.own 152 (.hnd 1)) cE) (DZ S7)
def tG(x:aM [.agg TyH]):oK [.agg TyH,.int .i64]:=match x with
 | (v0,()) =>
  aC (zT (v0,())) λy1 =>
  bif !(eqI y1.1 0) then
   some ((0,[]),y1.1,())
  else aC (fM () (v0.2,()) []) λy2 =>
  aC (cE () (y2.1,v0.1,()) y2.2) λy3 =>
  aC (cE () (y3.1,v0.1,()) y3.2) λy4 =>
  aC (dX y4.1 (v0.1,()) y4.2) λy5 =>
  some (y5.1.1,y5.1.2.1,())
def JX:Code:=cQ f52
abbrev T1:Env:=MT [RF] [zC,yM,tE]
theorem aBC:eS tP T1:=mM ⟨KU,trivial⟩ ⟨B7,DR,vV,trivial⟩
def SN(id:Nat):Option eE:=none
theorem Z6:bB JX=[]:=Y
theorem aAR:∀ x,aJ1 tP T1 f52 (aP f52) SN JX 74 .str _ _ x=tG x:=by
 rintro⟨v0,⟨⟩⟩
 kernel_rfl
abbrev aH2:Ent:=⟨52,_,_,tG⟩
theorem N5:Ent.OK tP aH2:=aO5 aZ aBC func52 (c:=JX) Y (keep:=aP f52) (lt:=SN) (aQ Z6 trivial) aAR
def o4(x:aM [.agg TyH]):oK [.agg TyH,.int .i64]:=match x with
 | (v0,()) =>
  aC (zT (v0,())) λy1 =>
  bif !(eqI y1.1 0) then
   some ((0,[]),y1.1,())
  else aC (fM () (v0.2,()) []) λy2 =>
  aC (cE () (y2.1,v0.1,()) y2.2) λy3 =>
  aC (dX y3.1 (v0.1,()) y3.2) λy4 =>
  some (y4.1.1,y4.1.2.1,())
def E9:Code:=cQ f54
abbrev NY:Env:=MT [RF] [zC,yM,tE]
theorem XI:eS tP NY:=mM ⟨KU,trivial⟩ ⟨B7,DR,vV,trivial⟩
def LS(id:Nat):Option eE:=none
theorem V4:bB E9=[]:=Y
theorem WD:∀ x,aJ1 tP NY f54 (aP f54) LS E9 74 .str _ _ x=o4 x:=by
 rintro⟨v0,⟨⟩⟩
 kernel_rfl
abbrev aB9:Ent:=⟨54,_,_,o4⟩
theorem JD:Ent.OK tP aB9:=aO5 aZ XI func54 (c:=E9) Y (keep:=aP f54) (lt:=LS) (aQ V4 trivial) WD
end Go.PM
namespace Go.Lz
def d2(a b:V)(x y:Nat):Int:=a x*b y-a y*b x
def d3(a b c:V)(x y z:Nat):Int:=d2 a b x y*c z-d2 a b x z*c y+d2 a b y z*c x
def d4(a b c d:V)(x y z u:Nat):Int:=d3 a b c x y z*d u-d3 a b c x y u*d z+d3 a b c x z u*d y-d3 a b c y z u*d x
structure Lin (f:V->Int):Prop where
 zero:f (λ_=>0)=0
 add:∀ u t m,f (λi=>u i+t*m i)=f u+t*f m
theorem Lin.sp {f}(h:Lin f){k M}(hz:∀ j,j<k->f (M j)=0){v}(hv:Sp k M v):f v=0:=by
 induction hv with
 | zero=>exact h.zero
 | add j t hj _ ih=>rw[h.add,ih,hz j hj]; simp
theorem Lin.pick {f:V->Int} (h:Lin f) {k:Nat} {M:Nat->V} {u:V} {t:Int} (ht:t≠0) (hs:Sp k M (λi=>t*u i)) (hu:f u≠0):∃ j,j<k/\f (M j)≠0:=by
 refine Classical.byContradiction λhn=>?_
 have hz:∀ j,j<k->f (M j)=0:=λj hj=>Classical.byContradiction λh0=>hn ⟨j,hj,h0⟩
 have h1:=h.sp hz hs;have h2:=h.add (λ_=>0) t u;have e:(λi=>(0:Int)+t*u i)=λi=>t*u i:=by funext i; simp
 rw[e,h1,h.zero,Int.zero_add]at h2;rcases Int.mul_eq_zero.1 h2.symm with h3|h3
 ·exact ht h3
 ·exact hu h3
theorem aK1 {x y:Int}{A B}(hx:x.natAbs<=A)(hy:y.natAbs<=B):(x*y).natAbs<=A*B:=by rw[Int.natAbs_mul]; exact Nat.mul_le_mul hx hy
theorem d2B {a b E}(ha:∀ x,(a x).natAbs<=E)(hb:∀ x,(b x).natAbs<=E) x y:(d2 a b x y).natAbs<=2*(E*E):=by
 have h1:=aK1 (ha x) (hb y);have h2:=aK1 (ha y) (hb x);unfold d2;omega
theorem d3B {a b c E}(ha:∀ x,(a x).natAbs<=E)(hb:∀ x,(b x).natAbs<=E)(hc:∀ x,(c x).natAbs<=E) x y z:(d3 a b c x y z).natAbs<=6*(E*E*E):=by
 have h1:=aK1 (d2B ha hb x y) (hc z);have h2:=aK1 (d2B ha hb x z) (hc y);have h3:=aK1 (d2B ha hb y z) (hc x);have e:2*(E*E)*E=2*(E*E*E):=W
 unfold d3;omega
theorem d4B {a b c d E}(ha:∀ x,(a x).natAbs<=E)(hb:∀ x,(b x).natAbs<=E)(hc:∀ x,(c x).natAbs<=E)(hd:∀ x,(d x).natAbs<=E) x y z u:(d4 a b c d x y z u).natAbs<=24*(E*E*E*E):=by
 have h1:=aK1 (d3B ha hb hc x y z) (hd u);have h2:=aK1 (d3B ha hb hc x y u) (hd z);have h3:=aK1 (d3B ha hb hc x z u) (hd y);have h4:=aK1 (d3B ha hb hc y z u) (hd x);have e:6*(E*E*E)*E=6*(E*E*E*E):=W
 unfold d4;omega
def Dg(k:Nat) (M:Nat->V) (r:Nat) (p:Nat->Nat) (W:Nat):Prop :=
 ∃ (D:Int) (w:Nat->V),D≠0/\∀ j,j<r->Sp k M (w j)/\w j (p j)=D/\(∀ i,i<r->i≠j->w j (p i)=0)/\∀ x,(w j x).natAbs<=W
theorem Dg.mono {k k' M M' r p W}(h:Dg k M r p W)(hs:∀ v,Sp k M v->Sp k' M' v):Dg k' M' r p W:=by
 obtain⟨D,w,h0,h1⟩:=h;exact⟨D,w,h0,λj hj=>⟨hs _ (h1 j hj).1,(h1 j hj).2⟩⟩
section
variable {k:Nat} {M:Nat->V}
theorem Sp.bDS {a b}(ha:a<k)(hb:b<k) s t:Sp k M (λi=>s*M a i+t*M b i):=Sp.comb t (Sp.smul s (Sp.mem ha)) (Sp.mem hb)
theorem Sp.bAI {a b c}(ha:a<k)(hb:b<k)(hc:c<k) s t u:Sp k M (λi=>s*M a i+t*M b i+u*M c i):=Sp.comb u (Sp.bDS ha hb s t) (Sp.mem hc)
theorem Sp.bBY {a b c d}(ha:a<k)(hb:b<k)(hc:c<k)(hd:d<k) s t u v:Sp k M (λi=>s*M a i+t*M b i+u*M c i+v*M d i):=Sp.comb v (Sp.bAI ha hb hc s t u) (Sp.mem hd)
theorem a16 {u:V} {p0:Nat} {t:Int} (ht:t≠0) (hs:Sp k M (λi=>t*u i)) (h0:u p0≠0):∃ a,a<k/\M a p0≠0 :=
 Lin.pick (f:=λv=>v p0) ⟨rfl,λ_ _ _=>rfl⟩ ht hs h0
theorem a57 {u:V}{a p0 p1 t}(ht:t≠0)(hs:Sp k M (λi=>t*u i))(h0:u p0=0)(h1:u p1≠0)(ha:M a p0≠0):∃ b,b<k/\d2 (M a) (M b) p0 p1≠0:=by
 refine Lin.pick (f:=λv=>d2 (M a) v p0 p1) ⟨by simp[d2],λu t m=>by simp only[d2]; grind⟩ ht hs ?_;simp only[d2]
 simp_all
theorem bC6 {u:V}{a b p0 p1 p2 t}(ht:t≠0)(hs:Sp k M (λi=>t*u i))(h0:u p0=0)(h1:u p1=0)(h2:u p2≠0)(ha:d2 (M a) (M b) p0 p1≠0):∃ c,c<k/\d3 (M a) (M b) (M c) p0 p1 p2≠0:=by
 refine Lin.pick (f:=λv=>d3 (M a) (M b) v p0 p1 p2) ⟨by simp[d3],λu t m=>by simp only[d3]; grind⟩ ht hs ?_;simp only[d3]
 simp_all
theorem bGF {u:V}{a b c p0 p1 p2 p3 t}(ht:t≠0)(hs:Sp k M (λi=>t*u i))(h0:u p0=0)(h1:u p1=0)(h2:u p2=0)(h3:u p3≠0)(ha:d3 (M a) (M b) (M c) p0 p1 p2≠0):∃ d,d<k/\d4 (M a) (M b) (M c) (M d) p0 p1 p2 p3≠0:=by
 refine Lin.pick (f:=λv=>d4 (M a) (M b) (M c) v p0 p1 p2 p3) ⟨by simp[d4],λu t m=>by simp only[d4]; grind⟩ ht hs ?_;simp only[d4]
 simp_all
theorem bHA {p W a}(hB:∀ x,(M a x).natAbs<=W)(ha:a<k)(h:M a (p 0)≠0):Dg k M 1 p W :=
 ⟨_,λ_=>M a,h,λj hj=>by
  obtain rfl:j=0:=Z
  exact⟨Sp.mem ha,rfl,λi hi hne=>by omega,hB⟩⟩
theorem bGT {p W a b}(hB:∀ x y,(d2 (M a) (M b) x y).natAbs<=W)(ha:a<k)(hb:b<k)(h:d2 (M a) (M b) (p 0) (p 1)≠0):Dg k M 2 p W:=by
 refine⟨_,λj=>if j=0 then (λx=>d2 (M a) (M b) x (p 1)) else λx=>d2 (M a) (M b) (p 0) x,h,λj hj=>?_⟩;rcases(show j=0\/j=1 by omega)with rfl|rfl
 ·refine⟨?_,rfl,λi hi hne=>?_,λx=>hB _ _⟩
  ·refine cast (congrArg (Sp k M) ?_) (Sp.bDS ha hb (M b (p 1)) (-(M a (p 1))))
   funext x
   simp only[if_true,d2]; grind
  ·simp only[if_true,d2]; grind
 ·refine⟨?_,rfl,λi hi hne=>?_,λx=>hB _ _⟩
  ·refine cast (congrArg (Sp k M) ?_) (Sp.bDS ha hb (-(M b (p 0))) (M a (p 0)))
   funext x
   simp only[d2,Nat.one_ne_zero,if_false]; grind
  ·simp only[d2,Nat.one_ne_zero,if_false]; grind
theorem bGV {p W a b c}(hB:∀ x y z,(d3 (M a) (M b) (M c) x y z).natAbs<=W)(ha:a<k)(hb:b<k)(hc:c<k)(h:d3 (M a) (M b) (M c) (p 0) (p 1) (p 2)≠0):Dg k M 3 p W:=by
 refine⟨_,λj=>if j=0 then (λx=>d3 (M a) (M b) (M c) x (p 1) (p 2)) else if j=1 then (λx=>d3 (M a) (M b) (M c) (p 0) x (p 2)) else λx=>d3 (M a) (M b) (M c) (p 0) (p 1) x,h,λj hj=>?_⟩;rcases(show j=0\/j=1\/j=2 by omega)with rfl|rfl|rfl
 ·refine⟨?_,rfl,λi hi hne=>?_,λx=>hB _ _ _⟩
  ·refine cast (congrArg (Sp k M) ?_) (Sp.bAI ha hb hc (d2 (M b) (M c) (p 1) (p 2)) (-(d2 (M a) (M c) (p 1) (p 2))) (d2 (M a) (M b) (p 1) (p 2)))
   funext x
   show _=d3 (M a) (M b) (M c) x (p 1) (p 2);simp only[d3,d2]; grind
  ·show (λx=>d3 (M a) (M b) (M c) x (p 1) (p 2)) (p i)=0;rcases(show i=1\/i=2 by omega)with rfl|rfl
   ·simp only[d3,d2]; grind
   ·simp only[d3,d2]; grind
 ·refine⟨?_,rfl,λi hi hne=>?_,λx=>hB _ _ _⟩
  ·refine cast (congrArg (Sp k M) ?_) (Sp.bAI ha hb hc (-(d2 (M b) (M c) (p 0) (p 2))) (d2 (M a) (M c) (p 0) (p 2)) (-(d2 (M a) (M b) (p 0) (p 2))))
   funext x
   show _=d3 (M a) (M b) (M c) (p 0) x (p 2);simp only[d3,d2]; grind
  ·show (λx=>d3 (M a) (M b) (M c) (p 0) x (p 2)) (p i)=0;rcases(show i=0\/i=2 by omega)with rfl|rfl
   ·simp only[d3,d2]; grind
   ·simp only[d3,d2]; grind
 ·refine⟨?_,rfl,λi hi hne=>?_,λx=>hB _ _ _⟩
  ·refine cast (congrArg (Sp k M) ?_) (Sp.bAI ha hb hc (d2 (M b) (M c) (p 0) (p 1)) (-(d2 (M a) (M c) (p 0) (p 1))) (d2 (M a) (M b) (p 0) (p 1)))
   funext x
   show _=d3 (M a) (M b) (M c) (p 0) (p 1) x;simp only[d3,d2]; grind
  ·show (λx=>d3 (M a) (M b) (M c) (p 0) (p 1) x) (p i)=0;rcases(show i=0\/i=1 by omega)with rfl|rfl
   ·simp only[d3,d2]; grind
   ·simp only[d3,d2]; grind
theorem bHE {p W a b c d}(hB:∀ x y z u,(d4 (M a) (M b) (M c) (M d) x y z u).natAbs<=W)(ha:a<k)(hb:b<k)(hc:c<k)(hd:d<k)(h:d4 (M a) (M b) (M c) (M d) (p 0) (p 1) (p 2) (p 3)≠0):Dg k M 4 p W:=by
 refine⟨_,λj=>if j=0 then (λx=>d4 (M a) (M b) (M c) (M d) x (p 1) (p 2) (p 3)) else if j=1 then (λx=>d4 (M a) (M b) (M c) (M d) (p 0) x (p 2) (p 3)) else if j=2 then (λx=>d4 (M a) (M b) (M c) (M d) (p 0) (p 1) x (p 3)) else λx=>d4 (M a) (M b) (M c) (M d) (p 0) (p 1) (p 2) x,h,λj hj=>?_⟩;rcases(show j=0\/j=1\/j=2\/j=3 by omega)with rfl|rfl|rfl|rfl
 ·refine⟨?_,rfl,λi hi hne=>?_,λx=>hB _ _ _ _⟩
  ·refine cast (congrArg (Sp k M) ?_) (Sp.bBY ha hb hc hd (d3 (M b) (M c) (M d) (p 1) (p 2) (p 3)) (-(d3 (M a) (M c) (M d) (p 1) (p 2) (p 3))) (d3 (M a) (M b) (M d) (p 1) (p 2) (p 3)) (-(d3 (M a) (M b) (M c) (p 1) (p 2) (p 3))))
   funext x
   show _=d4 (M a) (M b) (M c) (M d) x (p 1) (p 2) (p 3);simp only[d4,d3,d2]; grind
  ·show (λx=>d4 (M a) (M b) (M c) (M d) x (p 1) (p 2) (p 3)) (p i)=0;rcases(show i=1\/i=2\/i=3 by omega)with rfl|rfl|rfl
   ·simp only[d4,d3,d2]; grind
   ·simp only[d4,d3,d2]; grind
   ·simp only[d4,d3,d2]; grind
 ·refine⟨?_,rfl,λi hi hne=>?_,λx=>hB _ _ _ _⟩
  ·refine cast (congrArg (Sp k M) ?_) (Sp.bBY ha hb hc hd (-(d3 (M b) (M c) (M d) (p 0) (p 2) (p 3))) (d3 (M a) (M c) (M d) (p 0) (p 2) (p 3)) (-(d3 (M a) (M b) (M d) (p 0) (p 2) (p 3))) (d3 (M a) (M b) (M c) (p 0) (p 2) (p 3)))
   funext x
   show _=d4 (M a) (M b) (M c) (M d) (p 0) x (p 2) (p 3);simp only[d4,d3,d2]; grind
  ·show (λx=>d4 (M a) (M b) (M c) (M d) (p 0) x (p 2) (p 3)) (p i)=0;rcases(show i=0\/i=2\/i=3 by omega)with rfl|rfl|rfl
   ·simp only[d4,d3,d2]; grind
   ·simp only[d4,d3,d2]; grind
   ·simp only[d4,d3,d2]; grind
 ·refine⟨?_,rfl,λi hi hne=>?_,λx=>hB _ _ _ _⟩
  ·refine cast (congrArg (Sp k M) ?_) (Sp.bBY ha hb hc hd (d3 (M b) (M c) (M d) (p 0) (p 1) (p 3)) (-(d3 (M a) (M c) (M d) (p 0) (p 1) (p 3))) (d3 (M a) (M b) (M d) (p 0) (p 1) (p 3)) (-(d3 (M a) (M b) (M c) (p 0) (p 1) (p 3))))
   funext x
   show _=d4 (M a) (M b) (M c) (M d) (p 0) (p 1) x (p 3);simp only[d4,d3,d2]; grind
  ·show (λx=>d4 (M a) (M b) (M c) (M d) (p 0) (p 1) x (p 3)) (p i)=0;rcases(show i=0\/i=1\/i=3 by omega)with rfl|rfl|rfl
   ·simp only[d4,d3,d2]; grind
   ·simp only[d4,d3,d2]; grind
   ·simp only[d4,d3,d2]; grind
 ·refine⟨?_,rfl,λi hi hne=>?_,λx=>hB _ _ _ _⟩
  ·refine cast (congrArg (Sp k M) ?_) (Sp.bBY ha hb hc hd (-(d3 (M b) (M c) (M d) (p 0) (p 1) (p 2))) (d3 (M a) (M c) (M d) (p 0) (p 1) (p 2)) (-(d3 (M a) (M b) (M d) (p 0) (p 1) (p 2))) (d3 (M a) (M b) (M c) (p 0) (p 1) (p 2)))
   funext x
   show _=d4 (M a) (M b) (M c) (M d) (p 0) (p 1) (p 2) x;simp only[d4,d3,d2]; grind
  ·show (λx=>d4 (M a) (M b) (M c) (M d) (p 0) (p 1) (p 2) x) (p i)=0;rcases(show i=0\/i=1\/i=2 by omega)with rfl|rfl|rfl
   ·simp only[d4,d3,d2]; grind
   ·simp only[d4,d3,d2]; grind
   ·simp only[d4,d3,d2]; grind
def fac(E:Nat):Nat->Nat
 | 0=>1
 | 1=>E
 | 2=>2*(E*E)
 | 3=>6*(E*E*E)
 | _=>24*(E*E*E*E)
theorem aUR {r E H p}(hr:r<=4)(hH:Hn r H p)(hs:∀ j,j<r->∃ t ,t≠0/\Sp k M (λi=>t*H j i))(hE:∀ j,j<k->∀ x,(M j x).natAbs<=E):Dg k M r p (fac E r):=by
 have pv:∀ j,j<r->H j (p j)≠0:=λj hj=>by have:=hH.pos j hj; omega
 have lo:∀ i j,i<j->j<r->H j (p i)=0:=λi j hij hj=>hH.low j hj _ (hH.inc i j hij hj)
 rcases(show r=0\/r=1\/r=2\/r=3\/r=4 by omega)with rfl|rfl|rfl|rfl|rfl
 ·exact⟨1,λ_ _=>0,by decide,λj hj=>by omega⟩
 ·obtain⟨t,ht,h0⟩:=hs 0 Z;obtain⟨a,ha,q0⟩:=a16 ht h0 (pv 0 Z);exact bHA (hE a ha) ha q0
 ·obtain⟨t,ht,h0⟩:=hs 0 Z;obtain⟨a,ha,q0⟩:=a16 ht h0 (pv 0 Z);obtain⟨t,ht,h0⟩:=hs 1 Z;obtain⟨b,hb,q1⟩:=a57 ht h0 (lo 0 1 Z Z) (pv 1 Z) q0;exact bGT (d2B (hE a ha) (hE b hb)) ha hb q1
 ·obtain⟨t,ht,h0⟩:=hs 0 Z;obtain⟨a,ha,q0⟩:=a16 ht h0 (pv 0 Z);obtain⟨t,ht,h0⟩:=hs 1 Z;obtain⟨b,hb,q1⟩:=a57 ht h0 (lo 0 1 Z Z) (pv 1 Z) q0;obtain⟨t,ht,h0⟩:=hs 2 Z;obtain⟨c,hc,q2⟩:=bC6 ht h0 (lo 0 2 Z Z) (lo 1 2 Z Z) (pv 2 Z) q1;exact bGV (d3B (hE a ha) (hE b hb) (hE c hc)) ha hb hc q2
 ·obtain⟨t,ht,h0⟩:=hs 0 Z;obtain⟨a,ha,q0⟩:=a16 ht h0 (pv 0 Z);obtain⟨t,ht,h0⟩:=hs 1 Z;obtain⟨b,hb,q1⟩:=a57 ht h0 (lo 0 1 Z Z) (pv 1 Z) q0;obtain⟨t,ht,h0⟩:=hs 2 Z;obtain⟨c,hc,q2⟩:=bC6 ht h0 (lo 0 2 Z Z) (lo 1 2 Z Z) (pv 2 Z) q1;obtain⟨t,ht,h0⟩:=hs 3 Z;obtain⟨d,hd,q3⟩:=bGF ht h0 (lo 0 3 Z Z) (lo 1 3 Z Z) (lo 2 3 Z Z) (pv 3 Z) q2
  exact bHE (d4B (hE a ha) (hE b hb) (hE c hc) (hE d hd)) ha hb hc hd q3
end
theorem Hn.zero {k:Nat} {M:Nat->V} {c:Nat->Nat} (h:Hn k M c) {v:V} (hv:Sp k M v) (hz:∀ i,i<k->v (c i)=0):v=λ_=>0 :=
 h.small hv λi hi=>by have:=h.pos i hi; rw[hz i hi]; constructor <;> omega
theorem Hn.a7Q:∀ {k:Nat} {M:Nat->V} {c:Nat->Nat},Hn k M c->∀ {v:V},Sp k M v->∀ j,j<k->(∀ i,i<j->v (c i)=0)->M j (c j) ∣ v (c j)
 | 0,_,_,_,_,_,j,hj,_=>Z
 | k+1,M,c,h,v,hv,j,hj,hz=>by
  obtain⟨t,u,hu,rfl⟩:=hv.first;have h0:=h.aK8 hu (Nat.le_refl _);cases j with
  | zero=>exact⟨t,by simp only[h0,Int.zero_add]; exact Int.mul_comm _ _⟩
  | succ j =>
   have h1:=hz 0 Z;have hp:=h.pos 0 Z;simp only[h0,Int.zero_add]at h1;have ht:t=0:=by
    rcases Int.mul_eq_zero.1 h1 with h2|h2
    ·exact h2
    ·omega
   subst ht;have:=Hn.a7Q h.tail hu j Z λi hi=>by have:=hz (i+1) Z; simpa using this
   simpa using this
def sm(f:Nat->Int):Nat->Int
 | 0=>0
 | n+1=>sm f n+f n
theorem aL5 {f}:∀ {n},(∀ i,i<n->f i=0)->sm f n=0
 | 0,_=>rfl
 | n+1,h=>by rw[sm,aL5 λi hi=>h i Z,h n R]; rfl
theorem a0H {f j}:∀ {n},j<n->(∀ i,i<n->i≠j->f i=0)->sm f n=f j
 | 0,h,_=>Z
 | n+1,h,hz=>by
  rw[sm]
  by_cases hj:j=n
  ·subst hj;rw[aL5 λi hi=>hz i Z Z,Int.zero_add]
  ·rw[a0H Z λi hi=>hz i Z,hz n R (Ne.symm hj),Int.add_zero]
theorem a9V {f B}:∀ {n},(∀ i,i<n->(f i).natAbs<=B)->(sm f n).natAbs<=n*B
 | 0,_=>by simp[sm]
 | n+1,h=>by
  have h1:=a9V (n:=n) λi hi=>h i Z
  have h2:=h n R;rw[Nat.succ_mul];show (sm f n+f n).natAbs<=_;omega
theorem Sp.sm {k M}{w:Nat->V}{s:Nat->Int}:∀ {n},(∀ j,j<n->Sp k M (w j))->Sp k M (λx=>Lz.sm (λj=>s j*w j x) n)
 | 0,_=>Sp.zero
 | n+1,h=>Sp.comb (s n) (Sp.sm λj hj=>h j Z) (h n R)
theorem Hn.a95 {r W:Nat} {H:Nat->V} {p:Nat->Nat} (h:Hn r H p) (hd:Dg r H r p W):∀ i,i<r->∀ x,(H i x).natAbs<=r*W:=by
 obtain⟨D,w,hD,hw⟩:=hd;intro i hi x;have hz:(λy=>D*H i y-Lz.sm (λj=>H i (p j)*w j y) r)=λ_=>0:=by
  refine h.zero (Sp.sub (Sp.smul D (Sp.mem hi)) (Sp.sm λj hj=>(hw j hj).1)) λl hl=>?_
  rw[a0H (f:=λj=>H i (p j)*w j (p l)) hl λj hj hne=>by rw[(hw j hj).2.2.1 l hl (Ne.symm hne),Int.mul_zero]];rw[(hw l hl).2.1];grind
 have h1:=congrFun hz x;have h2:D*H i x=Lz.sm (λj=>H i (p j)*w j x) r:=by
  have:D*H i x-Lz.sm (λj=>H i (p j)*w j x) r=0:=h1;omega
 have h3:(Lz.sm (λj=>H i (p j)*w j x) r).natAbs<=r*(D.natAbs*W):=by
  refine a9V λj hj=>aK1 ?_ ((hw j hj).2.2.2 x)
  have e1:H j (p j) ∣ D:=by
   have:=h.a7Q (hw j hj).1 j hj λl hl=>(hw j hj).2.2.1 l Z Z
   rwa[(hw j hj).2.1]at this
  have e2:=Int.natAbs_dvd_natAbs.2 e1;have e3:=Nat.le_of_dvd Z e2;rcases Nat.lt_trichotomy i j with g|g|g
  ·have:=h.red i j g hj;omega
  ·subst g; exact e3
  ·rw[h.low i hi _ (h.inc j i g hi)]; simp
 rw[<- h2,Int.natAbs_mul]at h3;have e:r*(D.natAbs*W)=D.natAbs*(r*W):=zf
 rw[e]at h3;exact Nat.le_of_mul_le_mul_left h3 Z
end Go.Lz
namespace Go.PM
open Go Go.RowKit Go.Proofs Go.Lz
theorem a7D a n v:Zr (a+n) v=Zr a v++Zr n (λy=>v (a+y)):=by
 unfold Zr;rw[List.range_add,List.map_append,List.map_map];rfl
theorem bEA:Zn 1=ByteArray.mk #[49]:=Y
def aD9(J:Nat->Nat) (i o n:Nat) (A:List (List ByteArray)) (t:Nat):=bG ((J i,o,n),(),(n:Int),(t:Int),A,())
section
variable {o k n:Nat} {m:List (Nat×Nat×Nat)} {A:List (List ByteArray)} {J:Nat->Nat} {M:Nat->V}
theorem l6.ext (h:l6 o k n m A J M) R:l6 o k n m (A++R) J M :=
 ⟨h.ml,λi hi=>by
  obtain⟨pre,h1,h2⟩:=h.at_ i hi;grind,h.inj⟩
theorem l6.take (h:l6 o k n m A J M){d}(hd:d<=k):l6 o d n (m.take d) A J M :=
 ⟨by rw[h.ml,<- List.map_take,List.take_range,Nat.min_eq_left hd],λi hi=>h.at_ i Z,λi j hi hj=>h.inj i j Z Z⟩
theorem a9X(h:l6 o k n m A J M) (hn:n<1048576) {i:Nat} (hi:i<k) :
  ∃ L:Int,iU () ((J i,o,n),()) A=some ((L,()),A)/\((L = -1/\∀ x,x<n->M i x=0)\/∃ x,x<n/\L=(x:Int)/\M i x≠0/\∀ y,y<x->M i y=0):=by
 have hg:∀ t,t<n->PM.dE A (J i)=o+n/\PM.dQ A (J i) ((o+t)*1) ByteArray.empty=Zn (M i t):=λt ht=>⟨h.dE hi,by rw[Nat.mul_one]; exact h.dQ hi ht⟩
 have step1:∀ t,t<n->∀ b,decide (M i t=0)=b->aD9 J i o n A t=(bif b then some (.inl ((J i,o,n),(),(n:Int),((t+1:Nat):Int),A,())) else some (.inr (.inl ((t:Int),A,())))):=λt ht b hb=>by
  have e1:ltI (t:Int) (n:Int)=true:=by rw[aE]; exact oT Z
  have e2:aF (t:Int) n=true:=by rw[aK]; exact oT Z
  have e3:((t:Nat):Int).toNat=t:=oN _;have e4:Nat.blt ((o+t)*1) (o+n)=true:=by rw[bW]; exact oT Z
  have e5:=bC t Z;unfold aD9;simp only[bG,e1,e2,e3,(hg t ht).1,e4,(hg t ht).2,oC,D4,TS,aD,hb,e5];cases b <;> rfl
 by_cases hz:∀ x,x<n->M i x=0
 ·refine⟨-1,?_,.inl ⟨rfl,hz⟩⟩;have key:=bH (step:=bG) (N:=2^64) (λt=>((J i,o,n),(),(n:Int),(t:Int),A,())) n (.inr (A,())) Z (λt ht=>step1 t ht true (oT (hz t ht))) (by
   have e1:ltI (n:Int) (n:Int)=false:=by rw[aE]; exact oF Z
   simp only[bG,e1,oD])
  have key:cM ((J i,o,n),(),((n:Nat):Int),0,A,())=_:=key;simp only[iU,bR,key,aD,lM]
 ·obtain⟨x,hx1,hx2,hx3⟩:∃ x,x<n/\M i x≠0/\∀ y,y<x->M i y=0:=by
   obtain⟨x0,h1⟩:=Classical.not_forall.1 hz;obtain⟨h1,h2⟩:=Classical.not_imp.1 h1;have:∀ N x0,x0<N->x0<n->M i x0≠0->∃ x,x<n/\M i x≠0/\∀ y,y<x->M i y=0:=by
    intro N
    induction N with
    | zero=>intro x0 h; omega
    | succ N ih =>
     intro x0 h0 h1 h2
     by_cases hy:∀ y,y<x0->M i y=0
     ·exact⟨x0,h1,h2,hy⟩
     ·obtain⟨y,g1⟩:=Classical.not_forall.1 hy;obtain⟨g1,g2⟩:=Classical.not_imp.1 g1;exact ih y Z Z g2
   exact this (x0+1) x0 Z h1 h2
  refine⟨(x:Int),?_,.inr ⟨x,hx1,rfl,hx2,hx3⟩⟩;have key:=bH (step:=bG) (N:=2^64) (λt=>((J i,o,n),(),(n:Int),(t:Int),A,())) x (.inl ((x:Int),A,())) Z (λt ht=>step1 t Z true (oT (hx3 t ht))) (step1 x hx1 false (oF hx2));have key:cM ((J i,o,n),(),((n:Nat):Int),0,A,())=_:=key;simp only[iU,bR,key,aD,I3]
theorem a6O(hn:n<1048576) (A:List (List ByteArray)):p8 () ((n:Int),()) A=some (Zr n (λ_=>0),A):=by
 have e1:ltI (n:Int) 0=false:=by rw[aE]; exact oF Z
 have e2:ltI (n:Int) (n:Int)=false:=by rw[aE]; exact oF Z
 have e3:ltI 1048576 (n:Int)=false:=by rw[aE]; exact oF Z
 have e4:((n:Nat):Int).toNat=n:=oN _;have e5:=aSF (List.replicate n 0) (by simp; omega) (λa ha=>by have:=List.eq_of_mem_replicate ha; omega);have e6:(List.replicate n (0:Int)).map Zn=Zr n (λ_=>0):=by
  unfold Zr;rw[List.map_replicate];refine List.ext_getElem R λi h1 h2=>R
 rw[e6]at e5;simp only[p8,e1,e2,e3,e4,e5,aD,Bool.not_false,oC]
theorem a5Q(M:Nat->V) {c:Nat} (hc:c<n):(List.range k).map (λi=>Zn (M i c))++(Zr n (λ_=>0)).set c (ByteArray.mk #[49])=Zr (k+n) (wide n k M c):=by
 rw[a7D]
 congr 1
 ·unfold Zr;refine List.map_congr_left λi hi=>?_
  have:=List.mem_range.1 hi;simp only[wide,this,if_true]
 ·refine List.ext_getElem (by simp[AG]) λi h1 h2=>?_
  rw[AG]at h2;rw[List.getElem_set];have e1:¬ k+i<k:=Z
  by_cases hic:c=i
  ·subst hic;simp only[if_true,Zr,List.getElem_map,List.getElem_range,wide,e1,if_false];exact bEA.symm
  ·have e2:¬ k+i=k+c:=Z
   simp only[hic,if_false,Zr,List.getElem_map,List.getElem_range,wide,e1,e2]
theorem a3M(hk:k<1048576) (hn:n<1048576) (hkn:k+n<1048576) (h:l6 o k n m A J M) :
  iY (m,(n:Int),[],(n:Int),0,A,())=some (m,(n:Int),(List.range n).map (λc=>(A.length+c,0,k+n)),A++(List.range n).map (λc=>Zr (k+n) (wide n k M c)),()):=by
 have key:=bH (step:=iZ) (N:=2^64)
  (λt=>(m,(n:Int),(List.range t).map (λc=>(A.length+c,0,k+n)),(n:Int),(t:Int),A++(List.range t).map (λc=>Zr (k+n) (wide n k M c)),())) n
  (m,(n:Int),(List.range n).map (λc=>(A.length+c,0,k+n)),A++(List.range n).map (λc=>Zr (k+n) (wide n k M c)),()) Z (λt ht=>?_) ?_
 ·have e0:A++(List.range 0).map (λc=>Zr (k+n) (wide n k M c))=A:=ze
  have key:iY (m,(n:Int),[],(n:Int),0,A++(List.range 0).map (λc=>Zr (k+n) (wide n k M c)),())=_:=key;rwa[e0]at key
 ·generalize hR:(List.range t).map (λc=>Zr (k+n) (wide n k M c))=R;have h':=h.ext R;generalize hB:A++R=B at h' ⊢;have hlen:B.length=A.length+t:=by rw[<- hB,<- hR]; simp
  have col:=bH (step:=iS) (N:=2^64)
   (λs=>(m,(n:Int),(List.range t).map (λc=>(A.length+c,0,k+n)),(t:Int),(List.range s).map (λi=>Zn (M i t)),(n:Int),(t:Int),m,(m.length:Int),(s:Int),B,())) k
   (m,(n:Int),(List.range t).map (λc=>(A.length+c,0,k+n)),(t:Int),(List.range k).map (λi=>Zn (M i t)),(n:Int),(t:Int),B,()) Z (λs hs=>?_) ?_
  ·have col:mI (m,(n:Int),(List.range t).map (λc=>(A.length+c,0,k+n)),(t:Int),[],(n:Int),(t:Int),m,(m.length:Int),0,B,())=_:=col;have e1:ltI (t:Int) (n:Int)=true:=by rw[aE]; exact oT Z
   have e2:aF (t:Int) n=true:=by rw[aK]; exact oT Z
   have e3:((t:Nat):Int).toNat=t:=oN _;have e4:Nat.blt t n=true:=by rw[bW]; exact oT ht
   have e5:(Zr n (λ_=>0)).length=n:=AG _ _;have e6:Nat.ble n 1048576=true:=by rw[cT]; exact oT Z
   have e7:Nat.ble ((List.range k).map (λi=>Zn (M i t))).length 1048576=true:=by rw[cT,List.length_map,List.length_range]; exact oT Z
   have e8:=a5Q (n:=n) (k:=k) M ht;have e9:(Zr (k+n) (wide n k M t)).length=k+n:=AG _ _;have e10:Nat.ble [(A.length+t,0,k+n)].length 1048576=true:=rfl;have e11:Nat.ble ((List.range t).map (λc=>(A.length+c,0,k+n))).length 1048576=true:=by rw[cT,List.length_map,List.length_range]; exact oT Z
   have e12:=bC t Z;have e13:(List.range t).map (λc=>(A.length+c,0,k+n))++[(A.length+t,0,k+n)]=(List.range (t+1)).map (λc=>(A.length+c,0,k+n)):=by rw[List.range_succ,List.map_append]; rfl
   have e14:B++[Zr (k+n) (wide n k M t)]=A++(List.range (t+1)).map (λc=>Zr (k+n) (wide n k M c)):=by rw[<- hB,<- hR,List.range_succ,List.map_append,List.append_assoc]; rfl
   have e15:((Zr n (λ_=>0)).set t (ByteArray.mk #[49])).length=n:=by rw[List.length_set,AG]
   simp only[iZ,e1,oC,col,aD,a6O hn,e5,e2,e3,e4,e15,e6,e7,e8,e9,hlen,e10,e11,e12,e13,e14]
  ·have e1:ltI (s:Int) (k:Int)=true:=by rw[aE]; exact oT Z
   have e2:aF (s:Int) k=true:=by rw[aK]; exact oT Z
   have e3:((s:Nat):Int).toNat=s:=oN _;have e4:aF (t:Int) n=true:=by rw[aK]; exact oT Z
   have e5:((t:Nat):Int).toNat=t:=oN _;have e6:Nat.blt ((o+t)*1) (o+n)=true:=by rw[bW]; exact oT Z
   have e7:PM.dQ B (J s) ((o+t)*1) ByteArray.empty=Zn (M s t):=by rw[Nat.mul_one]; exact h'.dQ hs ht
   have e8:Nat.ble [Zn (M s t)].length 1048576=true:=rfl;have e9:Nat.ble ((List.range s).map (λi=>Zn (M i t))).length 1048576=true:=by rw[cT,List.length_map,List.length_range]; exact oT Z
   have e10:=bC s Z;have e11:(List.range s).map (λi=>Zn (M i t))++[Zn (M s t)]=(List.range (s+1)).map (λi=>Zn (M i t)):=by rw[List.range_succ,List.map_append]; rfl
   simp only[iS,h.len,e1,e2,e3,h'.get hs,e4,e5,h'.dE hs,e6,e7,e8,e9,e10,e11,oC]
  ·have e1:ltI (k:Int) (k:Int)=false:=by rw[aE]; exact oF Z
   simp only[iS,h.len,e1,oD]
 ·have e1:ltI (n:Int) (n:Int)=false:=by rw[aE]; exact oF Z
  simp only[iZ,e1,oD]
end
theorem Hn.split {d W p}(h:Hn d W p) k:∃ j,j<=d/\(∀ i,i<j->p i<k)/\∀ i,j<=i->i<d->k<=p i:=by
 have:∀ t,t<=d->∃ j,j<=t/\(∀ i,i<j->p i<k)/\∀ i,j<=i->i<t->k<=p i:=by
  intro t
  induction t with
  | zero=>simp
  | succ t ih =>
   intro ht;obtain⟨j,h1,h2,h3⟩:=ih Z
   by_cases hj:j=t
   ·by_cases hp:p t<k
    ·exact⟨t+1,by omega,λi hi=>by
      grind,λi g1 g2=>by omega⟩
    ·exact⟨j,by omega,h2,λi g1 g2=>by
      grind⟩
   ·exact⟨j,by omega,h2,λi g1 g2=>by
     by_cases e:i=t
     ·subst e;have a1:=h3 j (oM _) Z;have a2:=h.inc j i Z Z;omega
     ·exact h3 i g1 Z⟩
 exact this d (oM _)
section
variable {o k n d:Nat} {m:List (Nat×Nat×Nat)} {A:List (List ByteArray)} {J:Nat->Nat} {M:Nat->V}
theorem l6.behind (h:l6 o d (k+n) m A J M){j}(hj:j<=d):l6 (o+k) (d-j) n ((List.range (d-j)).map λi=>(J (j+i),o+k,n)) A (λi=>J (j+i)) (λi y=>M (j+i) (k+y)) :=
 ⟨rfl,λi hi=>by
  obtain⟨pre,h1,h2⟩:=h.at_ (j+i) Z;refine⟨pre++Zr k (M (j+i)),by rw[oH,AG,h1],?_⟩;rw[h2,a7D,List.append_assoc],λa b ha hb e=>by
  have:=h.inj (j+a) (j+b) Z Z e;omega⟩
theorem aXK(hkn:k+n<1048576) (hd:d<1048576) (h:l6 o d (k+n) m A J M) {p:Nat->Nat} (hH:Hn d M p) (hw:Wd d (k+n) M) {j:Nat} (hj:j<=d) (h1:∀ i,i<j->p i<k) (h2:∀ i,j<=i->i<d->k<=p i) :
  iR ((k:Int),(n:Int),[],m,(m.length:Int),0,A,())=some ((n:Int),(List.range (d-j)).map (λi=>(J (j+i),o+k,n)),A,()):=by
 have key:=bH (step:=fI) (N:=2^64)
  (λt=>((k:Int),(n:Int),(List.range (t-j)).map (λi=>(J (j+i),o+k,n)),m,(m.length:Int),(t:Int),A,())) d
  ((n:Int),(List.range (d-j)).map (λi=>(J (j+i),o+k,n)),A,()) Z (λt ht=>?_) ?_
 ·have key:iR ((k:Int),(n:Int),(List.range (0-j)).map (λi=>(J (j+i),o+k,n)),m,(m.length:Int),0,A,())=_:=key;rwa[Nat.zero_sub]at key
 ·have e1:ltI (t:Int) (d:Int)=true:=by rw[aE]; exact oT Z
  have e2:aF (t:Int) d=true:=by rw[aK]; exact oT Z
  have e3:((t:Nat):Int).toNat=t:=oN _;obtain⟨L,q1,q2⟩:=a9X h Z ht;have hp:=hH.pos t ht;have hpl:p t<k+n:=by
   refine Classical.byContradiction λhc=>?_
   have:=hw t ht (p t) Z;omega
  have hL:L=(p t:Int):=by
   rcases q2 with ⟨_,q3⟩|⟨x,g1,g2,g3,g4⟩
   ·have:=q3 (p t) hpl; omega
   ·rw[g2]
    congr 1
    rcases Nat.lt_trichotomy x (p t)with g|g|g
    ·exact absurd (hH.low t ht x g) g3
    ·exact g
    ·have:=g4 (p t) g; omega
  subst hL;have e4:=bC t Z
  by_cases htj:t<j
  ·have e5:ltI (p t:Int) (k:Int)=true:=by rw[aE]; exact oT (by have:=h1 t htj; omega)
   have e6:t+1-j=0:=Z
   have e7:t-j=0:=Z
   simp only[fI,h.len,e1,e2,e3,h.get ht,q1,aD,e5,e4,e6,e7,oC,oD,Bool.not_true]
  ·have e5:ltI (p t:Int) (k:Int)=false:=by rw[aE]; exact oF (by have:=h2 t Z ht; omega)
   have e6:ltI (k:Int) 0=false:=by rw[aE]; exact oF Z
   have e7:((k:Nat):Int).toNat=k:=oN _;have e8:Nat.ble k (k+n)=true:=by rw[cT]; exact oT Z
   have e9:Nat.ble (k+n) (k+n)=true:=by rw[cT]; exact oT Z
   have e10:k+n-k=n:=Z
   have e11:Nat.ble [(J t,o+k,n)].length 1048576=true:=rfl;have e12:Nat.ble ((List.range (t-j)).map (λi=>(J (j+i),o+k,n))).length 1048576=true:=by rw[cT,List.length_map,List.length_range]; exact oT Z
   have e13:(List.range (t-j)).map (λi=>(J (j+i),o+k,n))++[(J t,o+k,n)]=(List.range (t+1-j)).map (λi=>(J (j+i),o+k,n)):=by
    rw[show t+1-j=(t-j)+1 by omega,List.range_succ,List.map_append];have:j+(t-j)=t:=Z
    simp only[List.map_cons,List.map_nil,this]
   simp only[fI,h.len,e1,e2,e3,h.get ht,q1,aD,e5,e4,e6,e7,e8,e9,e10,e11,e12,e13,oC,oD,Bool.not_false]
 ·have e1:ltI (d:Int) (d:Int)=false:=by rw[aE]; exact oF Z
  simp only[fI,h.len,e1,oD]
theorem Wd.wide (hw:Wd k n M):Wd n (k+n) (wide n k M):=λi hi x hx=>by
 have e1:¬ x<k:=Z
 have e2:¬ x=k+i:=Z
 simp only[Lz.wide,e1,e2,if_false]
theorem Big.wide {E}(hE:Big k n M E)(h1:1<=E):Big n (k+n) (wide n k M) E:=λi hi x hx=>by
 simp only[Lz.wide];split
 next hk=> exact hE x hk i hi
 grind
theorem aJ7 {W:Nat->V} {p:Nat->Nat} (hH:Hn d W p) (hs:Same n (wide n k M) d W) {j:Nat} (hj:j<=d) (h1:∀ i,i<j->p i<k) (h2:∀ i,j<=i->i<d->k<=p i) :
  Hn (d-j) (λi y=>W (j+i) (k+y)) (λi=>p (j+i)-k)/\xP n k M (d-j) (λi y=>W (j+i) (k+y)):=by
 refine⟨⟨λa b hab hb=>?_,λi hi x hx=>?_,λi hi=>?_,λa b hab hb=>?_⟩,a4Z hH hs hj h1 h2⟩
 ·have g1:=h2 (j+a) Z Z;have g2:=hH.inc (j+a) (j+b) Z Z;show p (j+a)-k<p (j+b)-k;omega
 ·exact hH.low (j+i) Z (k+x) (by have:x<p (j+i)-k:=hx; omega)
 ·have g1:=h2 (j+i) Z Z;show 0<W (j+i) (k+(p (j+i)-k));rw[show k+(p (j+i)-k)=p (j+i)by omega];exact hH.pos (j+i) Z
 ·have g1:=h2 (j+b) Z Z;show 0<=W (j+a) (k+(p (j+b)-k))/\W (j+a) (k+(p (j+b)-k))<W (j+b) (k+(p (j+b)-k));rw[show k+(p (j+b)-k)=p (j+b)by omega];exact hH.red (j+a) (j+b) Z Z
theorem aRW {E T:Nat->Nat} (hk:k<1048576) (hn:n<1048576) (hkn:k+n<1048576) (h:l6 o k n m A J M) (hw:Wd k n M) (hE:Big k n M (E 0)) (h1E:1<=E 0) (hb:Bds n (k+n) E T)
  (hK:∀ r K p,r<=n->Hn r K p->xP n k M r K->∃ E2 T2:Nat->Nat,Big r n K (E2 0)/\Bds r n E2 T2) :
  ∃ m' A' J' K p r,cE () (m,(n:Int),()) A=some (m',A')/\l6 k r n m' A' J' K/\r<=n/\Hn r K p/\xP n k M r K/\Wd r n K:=by
 have hl:=a3M hk hn hkn h;have hL:l6 0 n (k+n) ((List.range n).map λc=>(A.length+c,0,k+n)) (A++(List.range n).map λc=>Zr (k+n) (wide n k M c)) (λc=>A.length+c) (wide n k M) :=
  ⟨rfl,λi hi=>⟨[],rfl,by
   rw[List.getElem?_append_right Z,show A.length+i-A.length=i by omega,List.getElem?_map,List.getElem?_range hi];rfl⟩,λi j _ _ e=>by omega⟩
 obtain⟨m1,A1,J1,W,d,p,g1,g2,g3,g4,g5,g6,g7⟩:=aLY hn hkn hL hw.wide (hE.wide h1E) hb;obtain⟨j,b1,b2,b3⟩:=Hn.split g4 k;have hL2:=g3.take g2;have hwd:Wd d (k+n) W:=λi hi x hx=>g6 i Z x hx
 have hbl:=aXK hkn Z hL2 g4 hwd b1 b2 b3;obtain⟨c1,c2⟩:=aJ7 g4 g5 b1 b2 b3;have hL3:=hL2.behind b1;have hwK:Wd (d-j) n (λi y=>W (j+i) (k+y)):=λi hi x hx=>hwd (j+i) Z (k+x) Z
 obtain⟨E2,T2,k1,k2⟩:=hK _ _ _ Z c1 c2;obtain⟨m2,A2,J2,K,r,p2,f1,f2,f3,f4,f5,f6,f7⟩:=aLY (show d-j<1048576 by omega) hn hL3 hwK k1 k2;rw[Nat.zero_add]at f3;refine⟨m2.take r,A2,J2,K,p2,r,?_,f3.take f2,by omega,f4,?_,λi hi x hx=>f6 i Z x hx⟩
 ·have e1:aB .i64 ((k:Int)+(n:Int))=((k+n:Nat):Int):=by rw[wrap64 Z Z]; omega
  have hml:=h.len;simp only[cE,hl,aD,hml,e1,g1,jZ,hbl,f1]
 ·intro y;rw[<- f5 y];exact c2 y
end
theorem IP n v:(Vr n v).length=n:=by simp[Vr]
theorem aOT {n i} v (h:i<n):(Vr n v).getD i 0=v i:=by simp[Vr,h]
theorem aZJ {n v B}(h:∀ x,x<n->(v x).natAbs<=B):∀ a∈Vr n v,a.natAbs<=B:=by
 intro a ha;obtain⟨x,hx,rfl⟩:=List.mem_map.1 ha;grind
def Mr(d n:Nat) (M:Nat->V):List (List Int):=(List.range d).map λi=>Vr n (M i)
theorem tK d n M:(Mr d n M).length=d:=by simp[Mr]
theorem aU2 {d n i} M (h:i<d) z:(Mr d n M).getD i z=Vr n (M i):=by simp[Mr,h]
theorem aNS {d n M r}(h:r∈Mr d n M):∃ i,i<d/\r=Vr n (M i):=by
 obtain⟨i,hi,rfl⟩:=List.mem_map.1 h;grind
theorem a7E(r:List Int)(hl:r.length<1048576)(hr:∀ a∈r,a.natAbs<=1000000000):jT (r,(),())=some (false,()):=by
 have key:=bH (step:=eU) (N:=2^64) (λt=>(r,(),(r.length:Int),(t:Int),())) r.length (.inr ()) Z (λt ht=>?_) ?_
 ·have key:aW eU (2^64) (r,(),(r.length:Int),0,())=some (.inr ()):=key;have e2:ltI (-1) 0=true:=O
  simp only[jT,rM,nB,key,aD,lM,e2,Bool.not_true]
 ·have e1:ltI (t:Int) (r.length:Int)=true:=by rw[aE]; exact oT Z
  have e2:aF (t:Int) r.length=true:=by rw[aK]; exact oT Z
  have e3:((t:Nat):Int).toNat=t:=oN _;have e4:r.getD t 0=r[t]:=by simp[List.getD,ht]
  have b:=hr r[t] (List.getElem_mem ht);have e5:ltI r[t] (-1000000000)=false:=by rw[aE]; exact oF Z
  have e6:ltI 1000000000 r[t]=false:=by rw[aE]; exact oF Z
  have e7:=bC t Z;simp only[eU,e1,e2,e3,e4,Y6,e5,e6,aD,oC,oD,e7]
 ·have e1:ltI (r.length:Int) (r.length:Int)=false:=by rw[aE]; exact oF Z
  simp only[eU,e1,oD]
theorem aMQ(rows:List (List Int)){n}(hk:rows.length<=12)(hn:n<=12)(hlen:∀ r∈rows,r.length=n)(hr:∀ r∈rows,∀ a∈r,a.natAbs<=1000000000):Q5 (rows,())=some (0,()):=by
 have key:=bH (step:=xD) (N:=2^64) (λt=>(rows,rows,(rows.length:Int),(t:Int),())) rows.length (.inr ()) Z (λt ht=>?_) ?_
 ·have key:aW xD (2^64) (rows,rows,(rows.length:Int),0,())=some (.inr ()):=key;have e1:ltI 12 (rows.length:Int)=false:=by rw[aE]; exact oF Z
  simp only[Q5,KD,e1,oD,key,aD,lM]
 ·have e1:ltI (t:Int) (rows.length:Int)=true:=by rw[aE]; exact oT Z
  have e2:aF (t:Int) rows.length=true:=by rw[aK]; exact oT Z
  have e3:((t:Nat):Int).toNat=t:=oN _;have e4:rows.getD t []=rows[t]:=by simp[List.getD,ht]
  have e4':rows.getD 0 []=rows[0]:=by simp[List.getD,show 0<rows.length by omega]
  have hm:=List.getElem_mem ht;have hm0:=List.getElem_mem (show 0<rows.length by omega);have e5:ltI 12 (rows[t].length:Int)=false:=by rw[aE,hlen _ hm]; exact oF Z
  have e6:aF 0 rows.length=true:=by rw[aK]; exact oT Z
  have e7:eqI (rows[t].length:Int) (rows[0].length:Int)=true:=by rw[bP,hlen _ hm,hlen _ hm0]; exact oT rfl
  have e8:=a7E rows[t] (by rw[hlen _ hm]; omega) (hr _ hm);have e9:=bC t Z;simp only[xD,e1,e2,e3,e4,e4',e5,e6,e7,e8,e9,aD,Bool.not_true,oC,oD]
 ·have e1:ltI (rows.length:Int) (rows.length:Int)=false:=by rw[aE]; exact oF Z
  simp only[xD,e1,oD]
theorem a8R {n c:Nat} {v:V} (hn:n<1048576) (hc:c<n) (hz:∀ x,x<c->v x=0) (hp:v c≠0):KE (Vr n v,())=some ((c:Int),()):=by
 have hl:=IP n v;have key:=bH (step:=eR) (N:=2^64) (λt=>(Vr n v,(),(n:Int),(t:Int),())) c (.inl ((c:Int),())) Z (λt ht=>?_) ?_
 ·have key:aW eR (2^64) (Vr n v,(),(n:Int),0,())=some (.inl ((c:Int),())):=key;simp only[KE,rH,nG,hl,key,aD,I3]
 ·have e1:ltI (t:Int) (n:Int)=true:=by rw[aE]; exact oT Z
  have e2:aF (t:Int) n=true:=by rw[aK]; exact oT Z
  have e3:((t:Nat):Int).toNat=t:=oN _;have e4:(Vr n v).getD t 0=0:=by rw[aOT v Z]; exact hz t ht
  have e5:eqI 0 0=true:=O
  have e9:=bC t Z;simp only[eR,hl,e1,e2,e3,e4,FK,e5,e9,aD,Bool.not_true,oC,oD]
 ·have e1:ltI (c:Int) (n:Int)=true:=by rw[aE]; exact oT Z
  have e2:aF (c:Int) n=true:=by rw[aK]; exact oT Z
  have e3:((c:Nat):Int).toNat=c:=oN _;have e4:eqI ((Vr n v).getD c 0) 0=false:=by rw[aOT v hc,bP]; exact oF hp
  simp only[eR,hl,e1,e2,e3,FK,e4,aD,Bool.not_false,oC]
theorem Hn.a0R {d n:Nat} {M:Nat->V} {p:Nat->Nat} (h:Hn d M p) (hw:∀ i,i<d->∀ x,n<=x->M i x=0) {i:Nat} (hi:i<d):p i<n:=by
 rcases oG (p i) n with g|g
 ·exact g
 ·have:=hw i hi _ g;have:=h.pos i hi;omega
theorem a62 {d n t M p}(h:Hn d M p)(hw:∀ i,i<d->∀ x,n<=x->M i x=0)(hd:d<1048576)(hn:n<1048576)(ht:t<d) :
  fC (Mr t n M,((p t:Int),Vr n (M t),()),())=some (false,()):=by
 have hl:=tK t n M;have hp:=Hn.a0R h hw ht;have key:=bH (step:=dB) (N:=2^64) (λs=>(Mr t n M,((p t:Int),Vr n (M t),()),(t:Int),(s:Int),())) t (.inr ()) Z (λs hs=>?_) ?_
 ·have key:aW dB (2^64) (Mr t n M,((p t:Int),Vr n (M t),()),(t:Int),0,())=some (.inr ()):=key;have e2:ltI (-1) 0=true:=O
  simp only[fC,lN,jG,hl,key,aD,lM,e2,Bool.not_true]
 ·have e1:ltI (s:Int) (t:Int)=true:=by rw[aE]; exact oT Z
  have e2:aF (s:Int) t=true:=by rw[aK]; exact oT Z
  have e3:∀ a:Nat,((a:Nat):Int).toNat=a:=λa=>oN _
  have e4:=aU2 (n:=n) M hs [];have e5:aF (p t:Int) n=true:=by rw[aK]; exact oT Z
  obtain⟨r1,r2⟩:=h.red s t hs ht;have e6:ltI (M s (p t)) 0=false:=by rw[aE]; exact oF Z
  have e7:ltI (M s (p t)) (M t (p t))=true:=by rw[aE]; exact oT r2
  have e9:=bC s Z;simp only[dB,hl,e1,e2,e3,e4,IE,IP,e5,aOT _ hp,e6,e7,e9,aD,Bool.not_true,oC,oD]
 ·have e1:ltI (t:Int) (t:Int)=false:=by rw[aE]; exact oF Z
  simp only[dB,e1,oD]
theorem a2R {d n M p}(h:Hn d M p)(hw:∀ i,i<d->∀ x,n<=x->M i x=0)(hd:d<1048576)(hn:n<1048576):HV (Mr d n M,())=some (true,()):=by
 have hl:=tK d n M;obtain⟨q,hq⟩:∃ q:Nat->Int,q=λt=>if t=0 then -1 else (p (t-1):Int):=⟨_,rfl⟩
 have key:=bH (step:=sX) (N:=2^64) (λt=>(Mr d n M,q t,Mr d n M,(d:Int),(t:Int),())) d (.inr ()) Z (λt ht=>?_) ?_
 ·have q0:q 0 = -1:=by rw[hq]; rfl
  rw[q0]at key;have key:aW sX (2^64) (Mr d n M,-1,Mr d n M,(d:Int),0,())=some (.inr ()):=key;simp only[HV,D7,hl,key,aD,lM]
 ·have hp:=Hn.a0R h hw ht;have e1:ltI (t:Int) (d:Int)=true:=by rw[aE]; exact oT Z
  have e2:aF (t:Int) d=true:=by rw[aK]; exact oT Z
  have e3:∀ a:Nat,((a:Nat):Int).toNat=a:=λa=>oN _
  have e4:=aU2 (n:=n) M ht [];have e5:=a8R hn hp (h.low t ht) (by have:=h.pos t ht; omega);have e6:ltI (q t) (p t:Int)=true:=by
   rw[aE,hq];dsimp only;split
   ·exact oT Z
   ·have:=h.inc (t-1) t Z ht;exact oT Z
  have e7:aF (p t:Int) n=true:=by rw[aK]; exact oT Z
  have e8:ltI (M t (p t)) 0=false:=by rw[aE]; exact oF (by have:=h.pos t ht; omega)
  have e9:ltI (t:Int) 0=false:=by rw[aE]; exact oF Z
  have e10:Nat.ble 0 t=true:=rfl;have e11:Nat.ble t d=true:=by rw[cT]; exact oT Z
  have e12:((Mr d n M).drop 0).take (t-0)=Mr t n M:=by
   rw[List.drop_zero,Nat.sub_zero];unfold Mr;rw[<- List.map_take,List.take_range,Nat.min_eq_left Z]
  have e13:=a62 h hw hd hn ht;have e14:=bC t Z;have e15:q (t+1)=(p t:Int):=by rw[hq]; simp
  simp only[sX,hl,e1,e2,e3,e4,e5,aD,e6,IP,e7,aOT _ hp,e8,e9,e10,e11,e12,e13,e14,e15,Bool.not_true,Bool.not_false,oC,oD]
 ·have e1:ltI (d:Int) (d:Int)=false:=by rw[aE]; exact oF Z
  simp only[sX,e1,oD]
theorem aME {d n:Nat} {M:Nat->V} {p:Nat->Nat} (h:Hn d M p) (hw:∀ i,i<d->∀ x,n<=x->M i x=0) (hd:d<=12) (hn:n<=12) (hM:∀ i,i<d->∀ x,x<n->(M i x).natAbs<=1000000000):zT (((n:Int),Mr d n M),())=some (0,()):=by
 have hlen:∀ r∈Mr d n M,r.length=n:=λr hr=>by
  obtain⟨i,_,rfl⟩:=aNS hr;exact IP _ _
 have hr:∀ r∈Mr d n M,∀ a∈r,a.natAbs<=1000000000:=λr hr=>by
  obtain⟨i,hi,rfl⟩:=aNS hr;exact aZJ (hM i hi)
 have e0:eqI 0 0=true:=O
 have c1:=aVE (Mr d n M) (n:=n) (by rw[tK]; exact hd) hn hlen hr;have c2:=aMQ (Mr d n M) (n:=n) (by rw[tK]; exact hd) hn hlen hr;simp only[zT,c1,aD,e0,Bool.not_true,oD,OU,c2,a2R h hw Z Z,oC]
end Go.PM
namespace Go.Lz
theorem aZY {E d}(h:1<=E)(hd:d<=4):fac E d<=24*(E*E*E*E):=by
 have h1 :=Nat.le_mul_of_pos_left E h;have h2:E*E<=E*E*E:=Nat.le_mul_of_pos_right _ h;have h3:E*E*E<=E*E*E*E:=Nat.le_mul_of_pos_right _ h;rcases(show d=0\/d=1\/d=2\/d=3\/d=4 by omega)with rfl|rfl|rfl|rfl|rfl <;> simp only[fac] <;> omega
def un(q:Nat):V:=λc=>if c=q then 1 else 0
theorem aYT b {q}:∀ {n},(q<n->dot n (un q) b=b q)/\(n<=q->dot n (un q) b=0)
 | 0=>⟨λh=>by omega,λ_=>rfl⟩
 | n+1=>by
  have ih:=aYT b (q:=q) (n:=n);refine⟨λh=>?_,λh=>?_⟩
  ·show dot n (un q) b+un q n*b n=b q
   by_cases hq:q=n
   ·subst hq;rw[ih.2 (Nat.le_refl _)];simp[un]
   ·rw[ih.1 Z];have:¬ n=q:=λe=>hq e.symm
    simp[un,this]
  ·show dot n (un q) b+un q n*b n=0;have:¬ n=q:=Z
   rw[ih.2 Z];simp[un,this]
theorem a5W {n} b (s:Nat->Int)(U:Nat->V):∀ d,dot n (λc=>sm (λj=>s j*U j c) d) b=sm (λj=>s j*dot n (U j) b) d
 | 0=>aHA b n
 | d+1=>by
  show dot n (λc=>sm (λj=>s j*U j c) d+s d*U d c) b=_;rw[aBQ,a5W b s U d];rfl
theorem a8S {n k r r2 d W:Nat} {M K S H:Nat->V} {p:Nat->Nat} (hw:∀ i,i<k->∀ x,n<=x->M i x=0) (hH:Hn d H p) (hs:Same k M d H) (hp:∀ j,j<d->p j<n) (hd:Dg k M d p W) (h1:xP n k M r K) (h2:xP n r K r2 S) :
  ∃ D:Int,D≠0/\∀ v,Sp r2 S v->Sp k M (λx=>D*v x):=by
 obtain⟨D,w,h0,hw'⟩:=hd;refine⟨D,h0,λv hv=>?_⟩;have hwid:∀ {b:V},Sp k M b->∀ x,n<=x->b x=0:=λhb x hx=>Sp.aB7 (λj hj=>hw j hj x hx) hb
 -- what the rows of the lattice are
 have comb:∀ b,Sp k M b->∀ x,D*b x=sm (λj=>b (p j)*w j x) d:=λb hb x=>by
  have hz:(λy=>D*b y-sm (λj=>b (p j)*w j y) d)=λ_=>0:=by
   refine hH.zero ((hs _).1 (Sp.sub (Sp.smul D hb) (Sp.sm λj hj=>(hw' j hj).1))) λl hl=>?_
   rw[a0H (f:=λj=>b (p j)*w j (p l)) hl λj hj hne=>by rw[(hw' j hj).2.2.1 l hl (Ne.symm hne),Int.mul_zero]];rw[(hw' l hl).2.1];grind
  have:=congrFun hz x;have:D*b x-sm (λj=>b (p j)*w j x) d=0:=this;omega
 have main:∀ x,D*v x=sm (λj=>v (p j)*w j x) d:=λx=>by
  by_cases hx:x<n
  ·-- a row of the kernel
   have hy:∀ b:V,dot n (λc=>sm (λj=>-(w j x)*un (p j) c) d+D*un x c) b=D*b x-sm (λj=>b (p j)*w j x) d:=λb=>by
    rw[aBQ,a5W,(aYT b).1 hx];have:sm (λj=>-(w j x)*dot n (un (p j)) b) d = -(sm (λj=>b (p j)*w j x) d):=by
     have:∀ e,e<=d->sm (λj=>-(w j x)*dot n (un (p j)) b) e = -(sm (λj=>b (p j)*w j x) e):=by
      intro e
      induction e with
      | zero=>exact λ_=>rfl
      | succ e ih =>
       intro he;rw[sm,sm,ih Z,(aYT b).1 (hp e Z)];grind
     exact this d (Nat.le_refl _)
    rw[this];omega
   have hk:Ker n k M (λc=>sm (λj=>-(w j x)*un (p j) c) d+D*un x c):=by
    refine⟨λc hc=>?_,λi hi=>?_⟩
    ·have e1:¬ c=x:=Z
     show sm (λj=>-(w j x)*un (p j) c) d+D*un x c=0;rw[aL5 λj hj=>by
      have:=hp j hj;have e2:¬ c=p j:=Z
      simp[un,e2]]
     simp[un,e1]
    ·rw[hy,comb _ (Sp.mem hi) x]; omega
   have hv2:=(h2 v).1 hv;have:=hv2.span ((h1 _).2 hk);rw[JV,hy]at this;omega
  ·have g1:=((h2 v).1 hv).1 x Z;rw[g1,aL5 λj hj=>by rw[hwid (hw' j hj).1 x Z,Int.mul_zero],Int.mul_zero]
 have:=Sp.sm (k:=k) (M:=M) (w:=w) (s:=λj=>v (p j)) (n:=d) λj hj=>(hw' j hj).1
 refine cast (congrArg _ ?_) this
 funext x
 exact(main x).symm
section
variable {k:Nat} {M:Nat->V}
end
end Go.Lz
namespace Go.PM
open Go Go.RowKit Go.Proofs Go.Lz
def dg(D:Nat):Nat->Nat
 | 0=>D
 | d+1=>6*dg D d+2
theorem bF7 D {a b}(h:a<=b):dg D a<=dg D b:=by
 induction h with
 | refl=>simp
 | step _ ih=>rw[dg]; omega
theorem bDV {D k n}(h:∀ d,d<k->d<n->10*dg D d+4<=400000):Bds k n (λd=>10^dg D d) (λd=>10^(5*dg D d+1)):=by
 have e5:∀ a:Nat,(10^a)^5=10^(5*a):=λa=>by rw[<- Nat.pow_mul,Nat.mul_comm]
 refine⟨λd hd hdn=>⟨Nat.pow_pos O,Nat.pow_le_pow_right O Z,λ_=>?_,?_⟩,λd hd _=>?_⟩
 ·show 9*(10^dg D d)^5<=10^(5*dg D d+1);rw[e5,Nat.pow_succ];omega
 ·have h1:(10^(5*dg D d+1)+1:Nat)<10^(5*dg D d+1+1):=by
   rw[Nat.pow_succ 10 (5*dg D d+1)];have:0<10^(5*dg D d+1):=Nat.pow_pos O;omega
  have h2:=tS (u:=10^(5*dg D d+1)+1) (k:=5*dg D d+1) h1;have:=h d hd hdn;have e:yD=400000:=rfl;show 2*Lib.nDigits (10^(5*dg D d+1)+1)<=yD;omega
 ·show 10^dg D d+(10^dg D d+1)*10^(5*dg D d+1)<=10^(6*dg D d+2);generalize ha:dg D d=a;have h1:(10^(5*a+1):Nat)=10*10^(5*a):=by rw[Nat.pow_succ]; omega
  have h2:(10^(6*a+2):Nat)=100*(10^a*10^(5*a)):=by rw[<- Nat.pow_add,show a+5*a=6*a by omega,Nat.pow_add]; omega
  have h3:(10^a:Nat)<=10^a*10^(5*a):=Nat.le_mul_of_pos_right _ (Nat.pow_pos O);have h4:(10^(5*a):Nat)<=10^a*10^(5*a):=Nat.le_mul_of_pos_left _ (Nat.pow_pos O);have h5:(10^a+1)*(10*10^(5*a))=10*(10^a*10^(5*a))+10*10^(5*a):=W
  rw[h1,h2,h5];omega
theorem a3N {D k n}(hk:k<=4\/n<=4)(hD:D<=154):Bds k n (λd=>10^dg D d) (λd=>10^(5*dg D d+1)):=bDV λd hd hn=>by
 have h1:=bF7 D (show d<=3 by omega);have h2:dg D 3=6*(6*(6*D+2)+2)+2:=rfl;omega
theorem aRF {k n D:Nat} {M:Nat->V} (hk:k<=4\/n<=4) (hkk:k<1048576) (hn:n<1048576) (hw:Wd k n M) (hE:Big k n M (10^D)) (hD:D<=154):∃ d H p,d<=k/\Hn d H p/\Same k M d H/\Wd d n H:=by
 have hL:l6 0 k n ((List.range k).map λc=>(c,0,n)) ((List.range k).map λc=>Zr n (M c)) (λc=>c) M :=
  ⟨rfl,λi hi=>⟨[],rfl,by rw[List.getElem?_map,List.getElem?_range hi]; rfl⟩,λi j _ _ e=>e⟩
 obtain⟨m',A',J',H,d,p,_,g2,g3,g4,g5,g6,g7⟩:=aLY Z hn hL hw (E:=λd=>10^dg D d) (T:=λd=>10^(5*dg D d+1)) hE (a3N hk hD);exact⟨d,H,p,g2,g4,g5,λi hi x hx=>g6 i Z x hx⟩
theorem Hn.FI {d n H p}(h:Hn d H p)(hw:Wd d n H):d<=n/\∀ j,j<d->p j<n:=by
 have hp:∀ j,j<d->p j<n:=λj hj=>Hn.a0R h hw hj
 have:∀ j,j<d->j<=p j:=by
  intro j
  induction j with
  | zero=>simp
  | succ j ih=>intro hj; have:=h.inc j (j+1) R hj; omega
 grind
theorem aIW {k n E D r:Nat} {M K:Nat->V} {p:Nat->Nat} (hn:n<=4) (hk:k<1048000) (hw:Wd k n M) (hE:Big k n M E) (h1:1<=E) (hD:E<=10^D) (hD2:D<=154) (hH:Hn r K p) (hI:xP n k M r K) :
  ∀ i,i<r->∀ x,(K i x).natAbs<=4*(24*(E*E*E*E)):=by
 have hB:=hE.wide (k:=k) (M:=M) h1;obtain⟨d,W,q,g1,g2,g3,g4⟩:=aRF (k:=n) (n:=k+n) (M:=wide n k M) (.inl hn) Z Z hw.wide (λi hi x hx=>oR (hB i hi x hx) hD) hD2;obtain⟨j,b1,b2,b3⟩:=Hn.split g2 k;obtain⟨c1,c2⟩:=aJ7 g2 g3 b1 b2 b3;obtain⟨e1,_,e3⟩:=Hn.unique hH c1 λv=>(hI v).trans (c2 v).symm
 have hdg:=(aUR (k:=n) (M:=wide n k M) (E:=E) Z g2 (λj hj=>⟨1,by decide,by
  have:=(g3 _).2 (Sp.mem hj);refine cast (oZ _ ?_) this
  funext x; simp⟩) (hB.all hw.wide)).mono λv=>(g3 v).1
 have hle:=Hn.a95 g2 hdg;intro i hi x;rw[e3 i hi];refine oR (hle (j+i) Z (k+x)) (Nat.mul_le_mul Z (aZY h1 Z))
theorem a4N {k n E D r r2:Nat} {M K S:Nat->V} {p2:Nat->Nat} (hk:k<=4) (hn:n<=4) (hw:Wd k n M) (hE:Big k n M E) (h1:1<=E) (hD:E<=10^D) (hD2:D<=154) (hI:xP n k M r K) (hS:Hn r2 S p2) (hI2:xP n r K r2 S) :
  ∀ i,i<r2->∀ x,(S i x).natAbs<=4*(24*(E*E*E*E)):=by
 obtain⟨d,H,p,g1,g2,g3,g4⟩:=aRF (.inl hk) Z Z hw (λi hi x hx=>oR (hE i hi x hx) hD) hD2;have a1:=(Hn.FI g2 g4);have hdg:=aUR (k:=k) (M:=M) (E:=E) Z g2 (λj hj=>⟨1,by decide,by
  have:=(g3 _).2 (Sp.mem hj);refine cast (oZ _ ?_) this
  funext x; simp⟩) (hE.all hw)
 obtain⟨D0,h0,hsp⟩:=a8S hw g2 g3 a1.2 hdg hI hI2;have hwS:Wd r2 n S:=λi hi x hx=>hI2.width hi x hx
 have a2:=Hn.FI hS hwS;have hdS:=(aUR (k:=k) (M:=M) (E:=E) Z hS (λj hj=>⟨D0,h0,hsp _ (Sp.mem hj)⟩) (hE.all hw)).mono (k':=r2) (M':=S) λv hv=>by
  refine(hI2 v).2 ⟨λc hc=>Sp.aB7 (λj hj=>hw j hj c hc) hv,λx hx=>?_⟩;rw[JV];exact((hI _).1 (Sp.mem hx)).span hv
 have hle:=Hn.a95 hS hdS;intro i hi x;refine oR (hle i hi x) (Nat.mul_le_mul Z (aZY h1 Z))
theorem bCL {d n M}(hw:Wd d n M){i}(hi:i<d):aB4 (Mr d n M) i=M i:=by
 unfold aB4;rw[aU2 M hi];exact bB6 λx hx=>hw i hi x hx
theorem l6.congr {o k n m A J M M'}(h:l6 o k n m A J M)(e:∀ i,i<k->M i=M' i):l6 o k n m A J M' :=
 ⟨h.ml,λi hi=>by rw[<- e i hi]; exact h.at_ i hi,h.inj⟩
theorem aE6 {d n M}(hd:d<=12)(hn:n<=12)(hw:Wd d n M)(hM:Big d n M 1000000000):∃ m A,fM () (Mr d n M,()) []=some (m,A)/\l6 0 d n m A (λi=>i) M:=by
 have hlen:∀ r∈Mr d n M,r.length=n:=λr hr=>by
  obtain⟨i,hi,rfl⟩:=aNS hr;exact IP _ _
 obtain⟨m,A,h1,h2⟩:=aPD (Mr d n M) (by rw[tK]; omega) Z hlen λr hr a ha=>by
  obtain⟨i,hi,rfl⟩:=aNS hr;have:=aZJ (λx hx=>hM i hi x hx) a ha;omega
 rw[tK]at h2;exact⟨m,A,h1,h2.congr λi hi=>bCL hw hi⟩
section
variable {d n:Nat} {B:Nat->V}
theorem p9:(1000000000:Nat)=10^9:=O
theorem p38:4*(24*((10^9)*(10^9)*(10^9)*(10^9)))<=10^38:=R
theorem bF5:4*(24*((10^38)*(10^38)*(10^38)*(10^38)))<=10^154:=R
theorem aFK {m:List (Nat×Nat×Nat)} {A:List (List ByteArray)} {J:Nat->Nat} (hd:d<=4) (hn:n<=4) (hw:Wd d n B) (hB:Big d n B (10^9)) (h:l6 0 d n m A J B) :
  ∃ m' A' J' K p r,cE () (m,(n:Int),()) A=some (m',A')/\l6 d r n m' A' J' K/\r<=n/\Hn r K p/\xP n d B r K/\Wd r n K/\Big r n K (10^38):=by
 have hk:=λ(r:Nat) (K:Nat->V) (p:Nat->Nat) (hH:Hn r K p) (hI:xP n d B r K)=>aIW (E:=10^9) (D:=9) hn Z hw hB O (oM _) O hH hI
 obtain⟨m',A',J',K,p,r,g1,g2,g3,g4,g5,g6⟩:=aRW (E:=λd=>10^dg 9 d) (T:=λd=>10^(5*dg 9 d+1)) (show d<1048576 by omega) (show n<1048576 by omega) Z h hw hB (show 1<=10^dg 9 0 from Nat.pow_pos O) (a3N (.inl hn) O) λr K p hr hH hI =>
  ⟨λd=>10^dg 38 d,λd=>10^(5*dg 38 d+1),λi hi x _=>oR (hk r K p hH hI i hi x) p38,a3N (.inl Z) O⟩
 exact⟨m',A',J',K,p,r,g1,g2,g3,g4,g5,g6,λi hi x _=>oR (hk r K p g4 g5 i hi x) p38⟩
theorem aOF {o:Nat} {m:List (Nat×Nat×Nat)} {A:List (List ByteArray)} {J:Nat->Nat} (hd:d<=4) (hn:n<=4) (hw:Wd d n B) (hB:Big d n B (10^38)) (h:l6 o d n m A J B) :
  ∃ m' A' J' K p r,cE () (m,(n:Int),()) A=some (m',A')/\l6 d r n m' A' J' K/\r<=n/\Hn r K p/\xP n d B r K/\Wd r n K/\Big r n K (10^154):=by
 have hk:=λ(r:Nat) (K:Nat->V) (p:Nat->Nat) (hH:Hn r K p) (hI:xP n d B r K)=>aIW (E:=10^38) (D:=38) hn Z hw hB (Nat.pow_pos O) (oM _) O hH hI
 obtain⟨m',A',J',K,p,r,g1,g2,g3,g4,g5,g6⟩:=aRW (E:=λd=>10^dg 38 d) (T:=λd=>10^(5*dg 38 d+1)) (show d<1048576 by omega) (show n<1048576 by omega) Z h hw hB (show 1<=10^dg 38 0 from Nat.pow_pos O) (a3N (.inl hn) O) λr K p hr hH hI =>
  ⟨λd=>10^dg 154 d,λd=>10^(5*dg 154 d+1),λi hi x _=>oR (hk r K p hH hI i hi x) bF5,a3N (.inl Z) O⟩
 exact⟨m',A',J',K,p,r,g1,g2,g3,g4,g5,g6,λi hi x _=>oR (hk r K p g4 g5 i hi x) bF5⟩
theorem aBO {q:Nat->Nat} (hH:Hn d B q) (hn:n<=4) (hw:Wd d n B) (hB:Big d n B 1000000000) {K:Nat->V} {p:Nat->Nat} {r:Nat} (hK:Hn r K p) (hI:xP n d B r K) (ok:∀ i,i<r->∀ x,x<n->(K i x).natAbs<=1000000000) :
  o4 (((n:Int),Mr d n B),())=some (((n:Int),Mr r n K),0,()):=by
 have hd:=(Hn.FI hH hw).1;obtain⟨m,A,a1,a2⟩:=aE6 Z Z hw hB;obtain⟨m',A',J',K',p',r',g1,g2,g3,g4,g5,g6,g7⟩:=aFK Z hn hw (by rw[<- p9]; exact hB) a2;obtain⟨e1,_,e3⟩:=Hn.unique hK g4 λv=>(hI v).trans (g5 v).symm
 subst e1;have g2':=g2.congr (M':=K) λi hi=>(e3 i hi).symm
 have hs:=aMX g2' (oM _) Z Z ok (n:Int);rw[List.take_of_length_le (by rw[g2'.len]; exact oM _)]at hs;have e0:eqI 0 0=true:=O
 simp only[o4,aME hH hw Z Z hB,aD,e0,Bool.not_true,oD,a1,g1,hs];rfl
theorem aKH {q:Nat->Nat} (hH:Hn d B q) (hn:n<=4) (hw:Wd d n B) (hB:Big d n B 1000000000) {K:Nat->V} {r:Nat} (hI:xP n d B r K) {S:Nat->V} {s:Nat->Nat} {t:Nat} (hS:Hn t S s) (hI2:xP n r K t S) (ok:∀ i,i<t->∀ x,x<n->(S i x).natAbs<=1000000000) :
  tG (((n:Int),Mr d n B),())=some (((n:Int),Mr t n S),0,()):=by
 have hd:=(Hn.FI hH hw).1;obtain⟨m,A,a1,a2⟩:=aE6 Z Z hw hB;obtain⟨m',A',J',K',p',r',g1,g2,g3,g4,g5,g6,g7⟩:=aFK Z hn hw (by rw[<- p9]; exact hB) a2;obtain⟨m2,A2,J2,S',p2,t',b1,b2,b3,b4,b5,b6,b7⟩:=aOF Z hn g6 g7 g2;have hsame:Same r' K' r K:=λv=>(g5 v).trans (hI v).symm
 obtain⟨e1,_,e3⟩:=Hn.unique hS b4 λv=>(hI2 v).trans ((Ker.same hsame).symm.trans (b5 v).symm)
 subst e1;have g2':=b2.congr (M':=S) λi hi=>(e3 i hi).symm
 have hs:=aMX g2' (oM _) Z Z ok (n:Int);rw[List.take_of_length_le (by rw[g2'.len]; exact oM _)]at hs;have e0:eqI 0 0=true:=O
 simp only[tG,aME hH hw Z Z hB,aD,e0,Bool.not_true,oD,a1,g1,b1,hs];rfl
end
end Go.PM
namespace Go.PM
open Go Go.RowKit Go.Proofs Tryz
set_option maxHeartbeats 4000000
abbrev tX:List (Nat×Kd):=[(0,.list TyE),(1,.list TyE),(12,.int .i64),(13,.int .i64)]
abbrev CC:List (Ex×List (Nat×Kd)):=[(.ret,[(4,.bool)]),(.exit 0,[])]
def bQ(x:Shape.den tX):oS tX CC:=match x with
 | (v0,v1,v12,v13,()) =>
  bif ltI v13 v12 then
   bif aF v13 v0.length then bif aF v13 v1.length then bif !(eqI (v0.getD v13.toNat 0) (v1.getD v13.toNat 0)) then
    some (.inr (.inl (false,())))
   else some (.inl (v0,v1,v12,(aB .i64 (v13+1)),())) else none else none
  else some (.inr (.inr ((()))))
def iD(x:Shape.den tX):oX CC:=aW bQ (2^64) x
def dK(x:aM [.list TyE,.list TyE]):oK [.bool]:=match x with
 | (v0,v1,()) =>
  bif !(eqI (v0.length:Int) (v1.length:Int)) then
   some (false,())
  else aC (iD (v0,v1,(v0.length:Int),0,())) λz1 =>
  mY z1 (λa2=>some (a2.1,())) λb3 =>
  some (true,())
abbrev S8:Ent:=⟨75,_,_,dK⟩
theorem CF:Ent.OK tP S8:=oU (aR oW) func75 4 (lp:=iD) rfl Y (by rintro⟨v0,v1,v12,v13,⟨⟩⟩; kernel_rfl) (by rintro⟨v0,v1,⟨⟩⟩; kernel_rfl)
def BL(x:aM [.list TyE,.list TyE]):oK [.bool]:=match x with
 | (v0,v1,()) =>
  aC (dK (v0,v1,())) λy1 =>
  some (y1.1,())
abbrev aFH:Ent:=⟨41,_,_,BL⟩
theorem UZ:Ent.OK tP aFH:=oI (aR (oV CF oW)) func41 Y (by rintro⟨v0,v1,⟨⟩⟩; kernel_rfl)
abbrev dL:List (Nat×Kd):=[(1,.list TyD),(2,.fn 41),(15,.list TyD),(16,.int .i64),(17,.int .i64)]
abbrev gU:List (Ex×List (Nat×Kd)):=[(.ret,[(6,.bool)]),(.exit 0,[])]
def aU(x:Shape.den dL):oS dL gU:=match x with
 | (v1,v2,v15,v16,v17,()) =>
  bif ltI v17 v16 then
   bif aF v17 v15.length then bif aF v17 v1.length then aC (BL ((v15.getD v17.toNat []),(v1.getD v17.toNat []),())) λy2 =>
   bif y2.1 then
    some (.inl (v1,(),v15,v16,(aB .i64 (v17+1)),()))
   else some (.inr (.inl (false,()))) else none else none
  else some (.inr (.inr ((()))))
def bY(x:Shape.den dL):oX gU:=aW aU (2^64) x
def aX(x:aM [.list TyD,.list TyD,.fn 41]):oK [.bool]:=match x with
 | (v0,v1,v2,()) =>
  bif !(eqI (v0.length:Int) (v1.length:Int)) then
   some (false,())
  else aC (bY (v1,(),v0,(v0.length:Int),0,())) λz3 =>
  mY z3 (λa4=>some (a4.1,())) λb5 =>
  some (true,())
abbrev sJ:Ent:=⟨87,_,_,aX⟩
theorem rD:Ent.OK tP sJ:=oU (aR (oV UZ oW)) func87 4 (lp:=bY) rfl Y (by rintro⟨v1,v2,v15,v16,v17,⟨⟩⟩; kernel_rfl) (by rintro⟨v0,v1,v2,⟨⟩⟩; kernel_rfl)
def EH(x:aM [.agg TyH,.agg TyH]):oK [.bool]:=match x with
 | (v0,v1,()) =>
  bif eqI v0.1 v1.1 then
   aC (aX (v0.2,v1.2,(),())) λy1 =>
   some (y1.1,())
  else some (false,())
abbrev aO6:Ent:=⟨53,_,_,EH⟩
theorem aHX:Ent.OK tP aO6:=oI (aR (oV rD oW)) func53 Y (by rintro⟨v0,v1,⟨⟩⟩; kernel_rfl)
end Go.PM
namespace Go.PM
open Go Go.RowKit Go.Proofs Tryz
set_option maxHeartbeats 4000000
def GI(x:aM [.list TyE,.list TyE]):oK [.bool]:=match x with
 | (v0,v1,()) =>
  aC (dK (v0,v1,())) λy1 =>
  some (y1.1,())
abbrev aC8:Ent:=⟨88,_,_,GI⟩
theorem YT:Ent.OK tP aC8:=oI (aR (oV CF oW)) func88 Y (by rintro⟨v0,v1,⟨⟩⟩; kernel_rfl)
abbrev dN:List (Nat×Kd):=[(1,.list TyD),(2,.fn 88),(15,.list TyD),(16,.int .i64),(17,.int .i64)]
abbrev gT:List (Ex×List (Nat×Kd)):=[(.ret,[(6,.bool)]),(.exit 0,[])]
def aT(x:Shape.den dN):oS dN gT:=match x with
 | (v1,v2,v15,v16,v17,()) =>
  bif ltI v17 v16 then
   bif aF v17 v15.length then bif aF v17 v1.length then aC (GI ((v15.getD v17.toNat []),(v1.getD v17.toNat []),())) λy2 =>
   bif y2.1 then
    some (.inl (v1,(),v15,v16,(aB .i64 (v17+1)),()))
   else some (.inr (.inl (false,()))) else none else none
  else some (.inr (.inr ((()))))
def bX(x:Shape.den dN):oX gT:=aW aT (2^64) x
def aY(x:aM [.list TyD,.list TyD,.fn 88]):oK [.bool]:=match x with
 | (v0,v1,v2,()) =>
  bif !(eqI (v0.length:Int) (v1.length:Int)) then
   some (false,())
  else aC (bX (v1,(),v0,(v0.length:Int),0,())) λz3 =>
  mY z3 (λa4=>some (a4.1,())) λb5 =>
  some (true,())
abbrev sT:Ent:=⟨87,_,_,aY⟩
theorem rB:Ent.OK tP sT:=oU (aR (oV YT oW)) func87 4 (lp:=bX) rfl Y (by rintro⟨v1,v2,v15,v16,v17,⟨⟩⟩; kernel_rfl) (by rintro⟨v0,v1,v2,⟨⟩⟩; kernel_rfl)
def DG(x:aM [.list TyD,.list TyD]):oK [.bool]:=match x with
 | (v0,v1,()) =>
  aC (aY (v0,v1,(),())) λy1 =>
  some (y1.1,())
abbrev aHB:Ent:=⟨55,_,_,DG⟩
theorem aBL:Ent.OK tP aHB:=oI (aR (oV rB oW)) func55 Y (by rintro⟨v0,v1,⟨⟩⟩; kernel_rfl)
abbrev J0:List (Nat×Kd):=[(0,.int .i64),(3,.int .i64)]
abbrev UT:List (Ex×List (Nat×Kd)):=[(.ret,[(2,.bool)]),(.exit 0,[])]
def aDA(x:Shape.den J0):oS J0 UT:=match x with
 | (v0,v3,()) =>
  bif !(ltI v0 (aB .i64 (v3*v3))) then
   bif eqI v3 0 then none else bif eqI (v0.tmod v3) 0 then
    some (.inr (.inl (false,())))
   else some (.inl (v0,(aB .i64 (v3+1)),()))
  else some (.inr (.inr ((()))))
def P1(x:Shape.den J0):oX UT:=aW aDA (2^64) x
def aBR(x:aM [.int .i64]):oK [.bool]:=match x with
 | (v0,()) =>
  bif ltI v0 2 then
   some (false,())
  else bif ltI 97 v0 then
   some (false,())
  else aC (P1 (v0,2,())) λz1 =>
  mY z1 (λa2=>some (a2.1,())) λb3 =>
  some (true,())
abbrev aOY:Ent:=⟨81,_,_,aBR⟩
theorem aGG:Ent.OK tP aOY:=oU (aR oW) func81 4 (lp:=P1) rfl Y (by rintro⟨v0,v3,⟨⟩⟩; kernel_rfl) (by rintro⟨v0,⟨⟩⟩; kernel_rfl)
abbrev PE:List (Nat×Kd):=[(0,.list TyE),(13,.list TyE),(14,.int .i64),(15,.int .i64)]
abbrev ZH:List (Ex×List (Nat×Kd)):=[(.ret,[(2,.int .i64)]),(.exit 1,[])]
def aHI(x:Shape.den PE):oS PE ZH:=match x with
 | (v0,v13,v14,v15,()) =>
  bif ltI v15 v14 then
   bif aF v15 v13.length then aC (aBR ((v13.getD v15.toNat 0),())) λy2 =>
   bif y2.1 then
    bif ltI 0 v15 then
     bif aF (aB .i64 (v15-1)) v0.length then bif !(ltI (v0.getD ((aB .i64 (v15-1)).toNat) 0) (v13.getD v15.toNat 0)) then
      some (.inr (.inl (6,())))
     else some (.inl (v0,v13,v14,(aB .i64 (v15+1)),())) else none
    else some (.inl (v0,v13,v14,(aB .i64 (v15+1)),()))
   else some (.inr (.inl (25,()))) else none
  else some (.inr (.inr ((()))))
def UE(x:Shape.den PE):oX ZH:=aW aHI (2^64) x
def FW(x:aM [.list TyE]):oK [.int .i64]:=match x with
 | (v0,()) =>
  bif eqI (v0.length:Int) 0 then
   some (13,())
  else bif ltI 6 (v0.length:Int) then
   some (4,())
  else aC (UE (v0,v0,(v0.length:Int),0,())) λz3 =>
  mY z3 (λa4=>some (a4.1,())) λb5 =>
  some (0,())
abbrev aU5:Ent:=⟨50,_,_,FW⟩
theorem ZI:Ent.OK tP aU5:=oU (aR (oV aGG oW)) func50 6 (lp:=UE) rfl Y (by rintro⟨v0,v13,v14,v15,⟨⟩⟩; kernel_rfl) (by rintro⟨v0,⟨⟩⟩; kernel_rfl)
def rO(x:aM [.agg TyG]):oK [.int .i64]:=match x with
 | (v0,()) =>
  aC (FW (v0.1,())) λy1 =>
  bif !(eqI y1.1 0) then
   some (y1.1,())
  else aC (zT (((v0.1.length:Int),v0.2.1),())) λy2 =>
  bif !(eqI y2.1 0) then
   some (y2.1,())
  else aC (tG (((v0.1.length:Int),v0.2.1),())) λy3 =>
  bif !(eqI y3.2.1 0) then
   some (7,())
  else aC (EH (y3.1,((v0.1.length:Int),v0.2.1),())) λy4 =>
  bif y4.1 then
   aC (o4 (((v0.1.length:Int),v0.2.1),())) λy5 =>
   bif !(eqI y5.2.1 0) then
    some (14,())
   else aC (DG (y5.1.2,v0.2.2,())) λy6 =>
   bif y6.1 then
    some (0,())
   else some (14,())
  else some (7,())
abbrev SU:Ent:=⟨21,_,_,rO⟩
theorem LI:Ent.OK tP SU:=oI (aR (oV JD (oV KU (oV aHX (oV N5 (oV ZI (oV aBL oW))))))) func21 Y (by rintro⟨v0,⟨⟩⟩; kernel_rfl)
abbrev CT:List (Nat×Kd):=[(2,.box 33 TyG),(14,.list TyD),(15,.int .i64),(16,.int .i64)]
abbrev LD:List (Ex×List (Nat×Kd)):=[(.ret,[(4,.int .i64)]),(.exit 0,[])]
def zN(x:Shape.den CT):oS CT LD:=match x with
 | (v2,v14,v15,v16,()) =>
  bif ltI v16 v15 then
   bif aF v16 v14.length then aC (vO ((v14.getD v16.toNat []),())) λy3 =>
   bif !(eqI y3.1 0) then
    some (.inr (.inl (y3.1,())))
   else bif !(eqI ((v14.getD v16.toNat []).length:Int) (v2.1.length:Int)) then
    some (.inr (.inl (5,())))
   else some (.inl (v2,v14,v15,(aB .i64 (v16+1)),())) else none
  else some (.inr (.inr ((()))))
def zL(x:Shape.den CT):oX LD:=aW zN (2^64) x
def BK(x:aM [.agg TyG,.list TyD]):oK [.int .i64]:=match x with
 | (v0,v1,()) =>
  aC (rO (v0,())) λy1 =>
  bif !(eqI y1.1 0) then
   some (y1.1,())
  else aC (zL (v0,v1,(v1.length:Int),0,())) λz4 =>
  mY z4 (λa5=>some (a5.1,())) λb6 =>
  some (0,())
abbrev aFC:Ent:=⟨30,_,_,BK⟩
theorem Z0:Ent.OK tP aFC:=oU (aR (oV M8 (oV LI oW))) func30 5 (lp:=zL) rfl Y (by rintro⟨v2,v14,v15,v16,⟨⟩⟩; kernel_rfl) (by rintro⟨v0,v1,⟨⟩⟩; kernel_rfl)
abbrev lV:List (Nat×Kd):=[(1,.list TyE),(5,.own 74 .str),(7,.list TyE),(8,.str),(12,.list TyD),(13,.int .i64),(14,.int .i64),(18,.list TyE),(19,.int .i64),(20,.int .i64)]
abbrev qA:List (Ex×List (Nat×Kd)):=[(.exit 2,[(1,.list TyE),(5,.own 74 .str),(8,.str),(12,.list TyD),(13,.int .i64),(14,.int .i64)])]
def mX(x:Shape.den lV):oS lV qA:=match x with
 | (v1,v5,v7,v8,v12,v13,v14,v18,v19,v20,()) =>
  bif ltI v20 v19 then
   bif aF v20 v18.length then aC (kR ((v18.getD v20.toNat 0),())) λy5 =>
   bif aF v20 v7.length then aC (kR ((v7.getD v20.toNat 0),())) λy6 =>
   aC (RV (y5.1,y6.1,())) λy7 =>
   aC (SZ (v8,y7.1,())) λy8 =>
   some (.inl (v1,v5,v7,y8.1,v12,v13,v14,v18,v19,(aB .i64 (v20+1)),())) else none else none
  else some (.inr ((v1,v5,v8,v12,v13,v14,())))
def nA(x:Shape.den lV):oX qA:=aW mX (2^64) x
abbrev lW:List (Nat×Kd):=[(1,.list TyE),(5,.own 74 .str),(12,.list TyD),(13,.int .i64),(14,.int .i64)]
abbrev p5:List (Ex×List (Nat×Kd)):=[(.exit 0,[(5,.own 74 .str)])]
def nE(x:Shape.den lW):oS lW p5:=match x with
 | (v1,v5,v12,v13,v14,()) =>
  bif ltI v14 v13 then
   bif aF v14 v12.length then aC (nA (v1,v5,(v12.getD v14.toNat []),(ByteArray.mk #[48]),v12,v13,v14,v1,(v1.length:Int),0,())) λz10 =>
   bif Nat.ble [z10.2.2.1].length 1048576 then bif Nat.ble z10.2.1.length 1048576 then some (.inl (z10.1,(z10.2.1++[z10.2.2.1]),z10.2.2.2.1,z10.2.2.2.2.1,(aB .i64 (z10.2.2.2.2.2.1+1)),())) else none else none else none
  else some (.inr ((v5,())))
def sE(x:Shape.den lW):oX p5:=aW nE (2^64) x
def zH(x:aM [.agg TyG,.list TyE]):oK [.list .str]:=match x with
 | (v0,v1,()) =>
  aC (sE (v1,[],v0.2.2,(v0.2.2.length:Int),0,())) λz11 =>
  some (z11.1,())
def P5:Code:=cQ f31
abbrev GL:Env:=DW [aOM,aFD,aIZ]
theorem BZ:eS tP GL:=aR ⟨aDY,aD2,JY,trivial⟩
def rC:Code:=iH P5 0
def C5:Code:=iH rC 0
def DX(id:Nat):Option eE:=bif Nat.beq id 7 then some ⟨lV,qA,nA⟩ else bif Nat.beq id 3 then some ⟨lW,p5,sE⟩ else none
theorem TA:∀ x,jQ tP GL 42 (aP f31) DX C5 lV qA x=mX x:=by
 rintro⟨v1,v5,v7,v8,v12,v13,v14,v18,v19,v20,⟨⟩⟩
 kernel_rfl
theorem VO:eJ tP 42 C5 ⟨lV,qA,nA⟩:=fG BZ.callee aZ.mixed _ (aQ (l:=[]) Y trivial) TA
theorem TQ:∀ x,jQ tP GL 42 (aP f31) DX rC lW p5 x=nE x:=by
 rintro⟨v1,v5,v12,v13,v14,⟨⟩⟩
 kernel_rfl
theorem YH:bB rC=[C5]:=Y
theorem UY:eJ tP 42 rC ⟨lW,p5,sE⟩:=fG BZ.callee aZ.mixed _ (aQ YH ⟨fB (i:=7) Y rfl VO,trivial⟩) TQ
abbrev aC6:Ent:=⟨31,_,_,zH⟩
theorem YJ:Ent.OK tP aC6:=aE3 aZ BZ func31 (c:=P5) Y (keep:=aP f31) (lt:=DX) (aQ (l:=[rC]) Y ⟨fB (i:=3) Y rfl UY,trivial⟩) (by rintro⟨v0,v1,⟨⟩⟩; kernel_rfl)
abbrev BG:List (Nat×Kd):=[(7,.own 3 TyE),(21,.list .str),(22,.int .i64),(23,.int .i64)]
abbrev J4:List (Ex×List (Nat×Kd)):=[(.ret,[(4,.list TyE),(5,.int .i64)]),(.exit 0,[(7,.own 3 TyE)])]
def cF(x:Shape.den BG):oS BG J4:=match x with
 | (v7,v21,v22,v23,()) =>
  bif ltI v23 v22 then
   bif aF v23 v21.length then aC (nM ((v21.getD v23.toNat ByteArray.empty),())) λy4 =>
   bif y4.2.1 then
    bif ltI 1000000000 y4.1 then
     some (.inr (.inl ([],4,())))
    else bif ltI y4.1 (-1000000000) then
     some (.inr (.inl ([],4,())))
    else bif Nat.ble [y4.1].length 1048576 then bif Nat.ble v7.length 1048576 then some (.inl ((v7++[y4.1]),v21,v22,(aB .i64 (v23+1)),())) else none else none
   else some (.inr (.inl ([],4,()))) else none
  else some (.inr (.inr ((v7,()))))
def r9(x:Shape.den BG):oX J4:=aW cF (2^64) x
def dD(x:aM [.agg TyG,.list TyE]):oK [.list TyE,.int .i64]:=match x with
 | (v0,v1,()) =>
  aC (BK (v0,[v1],())) λy1 =>
  bif !(eqI y1.1 0) then
   some ([],y1.1,())
  else aC (zH (v0,v1,())) λy2 =>
  aC (r9 ([],y2.1,(y2.1.length:Int),0,())) λz5 =>
  mY z5 (λa6=>some (a6.1,a6.2.1,())) λb7 =>
  some (b7.1,0,())
abbrev zF:Ent:=⟨12,_,_,dD⟩
theorem BO:Ent.OK tP zF:=oU (aR (oV Z0 (oV YJ (oV ZG oW)))) func12 6 (lp:=r9) rfl Y (by rintro⟨v7,v21,v22,v23,⟨⟩⟩; kernel_rfl) (by rintro⟨v0,v1,⟨⟩⟩; kernel_rfl)
end Go.PM
namespace Go.PM
open Go Go.RowKit Go.Proofs Tryz
set_option maxHeartbeats 4000000
def DY(x:aM [.int .u8]):oK [.list TyE]:=match x with
 | (v0,()) =>
  bif eqI ([[2,3,5],[2,3,5,7],[2,3],[2,3,7],[2,5,7],[3,5,7],[2,3,5,11],[2],[2,3,7,13],[3,5,7,13]].length:Int) 0 then none else bif aF ((IntKind.wrap .i64 v0).tmod ([[2,3,5],[2,3,5,7],[2,3],[2,3,7],[2,5,7],[3,5,7],[2,3,5,11],[2],[2,3,7,13],[3,5,7,13]].length:Int)) [[2,3,5],[2,3,5,7],[2,3],[2,3,7],[2,5,7],[3,5,7],[2,3,5,11],[2],[2,3,7,13],[3,5,7,13]].length then some (([[2,3,5],[2,3,5,7],[2,3],[2,3,7],[2,5,7],[3,5,7],[2,3,5,11],[2],[2,3,7,13],[3,5,7,13]].getD (((IntKind.wrap .i64 v0).tmod ([[2,3,5],[2,3,5,7],[2,3],[2,3,7],[2,5,7],[3,5,7],[2,3,5,11],[2],[2,3,7,13],[3,5,7,13]].length:Int)).toNat) []),()) else none
abbrev aBS:Ent:=⟨26,_,_,DY⟩
theorem V7:Ent.OK tP aBS:=oI (aR oW) func26 Y (by rintro⟨v0,⟨⟩⟩; kernel_rfl)
abbrev wX:List (Nat×Kd):=[(0,.list TyE),(3,.box 48 TyI),(5,.own 3 TyE),(6,.int .i64)]
abbrev F3:List (Ex×List (Nat×Kd)):=[(.exit 0,[(5,.own 3 TyE)])]
def pC(x:Shape.den wX):oS wX F3:=match x with
 | (v0,v3,v5,v6,()) =>
  bif ltI v6 (v0.length:Int) then
   bif ltI v6 4 then
    bif eqI v6 0 then
     bif Nat.ble [((IntKind.wrap .i64 v3.1).tmod 10)].length 1048576 then bif Nat.ble v5.length 1048576 then some (.inl (v0,v3,(v5++[((IntKind.wrap .i64 v3.1).tmod 10)]),(aB .i64 (v6+1)),())) else none else none
    else bif eqI v6 1 then
     bif Nat.ble [((IntKind.wrap .i64 v3.2.1).tmod 10)].length 1048576 then bif Nat.ble v5.length 1048576 then some (.inl (v0,v3,(v5++[((IntKind.wrap .i64 v3.2.1).tmod 10)]),(aB .i64 (v6+1)),())) else none else none
    else bif eqI v6 2 then
     bif Nat.ble [((IntKind.wrap .i64 v3.2.2.1).tmod 10)].length 1048576 then bif Nat.ble v5.length 1048576 then some (.inl (v0,v3,(v5++[((IntKind.wrap .i64 v3.2.2.1).tmod 10)]),(aB .i64 (v6+1)),())) else none else none
    else bif eqI v6 3 then bif Nat.ble [((IntKind.wrap .i64 v3.2.2.2).tmod 10)].length 1048576 then bif Nat.ble v5.length 1048576 then some (.inl (v0,v3,(v5++[((IntKind.wrap .i64 v3.2.2.2).tmod 10)]),(aB .i64 (v6+1)),())) else none else none else none
   else some (.inr ((v5,())))
  else some (.inr ((v5,())))
def uS(x:Shape.den wX):oX F3:=aW pC (2^64) x
def lR(x:aM [.list TyE,.agg TyI]):oK [.list TyE]:=match x with
 | (v0,v1,()) =>
  aC (uS (v0,v1,[],0,())) λz1 =>
  some (z1.1,())
abbrev JW:Ent:=⟨15,_,_,lR⟩
theorem F9:Ent.OK tP JW:=oU (aR oW) func15 3 (lp:=uS) rfl Y (by rintro⟨v0,v3,v5,v6,⟨⟩⟩; kernel_rfl) (by rintro⟨v0,v1,⟨⟩⟩; kernel_rfl)
def uC(x:aM [.list TyE,.list TyD,.bool]):oK [.agg TyG,.int .i64]:=match x with
 | (v0,v1,v2,()) =>
  aC (FW (v0,())) λy1 =>
  bif !(eqI y1.1 0) then
   some (([],([],[])),y1.1,())
  else aC (JA ((v0.length:Int),v1,())) λy2 =>
  bif !(eqI y2.2.1 0) then
   some (([],([],[])),y2.2.1,())
  else aC (tG (y2.1,())) λy3 =>
  aC (o4 (y2.1,())) λy4 =>
  bif !(eqI y3.2.1 0) then
   some (([],([],[])),4,())
  else bif !(eqI y4.2.1 0) then
   some (([],([],[])),4,())
  else bif v2 then
   some ((v0,(y4.1.2,y3.1.2)),0,())
  else some ((v0,(y3.1.2,y4.1.2)),0,())
abbrev aC3:Ent:=⟨27,_,_,uC⟩
theorem X1:Ent.OK tP aC3:=oI (aR (oV JD (oV aOA (oV N5 (oV ZI oW))))) func27 Y (by rintro⟨v0,v1,v2,⟨⟩⟩; kernel_rfl)
abbrev C7:List (Nat×Kd):=[(1,.box 24 TyP),(2,.box 33 TyG),(3,.list TyE),(4,.own 39 TyD),(5,.int .i64)]
abbrev LJ:List (Ex×List (Nat×Kd)):=[(.exit 0,[(1,.box 24 TyP),(2,.box 33 TyG),(3,.list TyE),(4,.own 39 TyD)])]
def tC(x:Shape.den C7):oS C7 LJ:=match x with
 | (v1,v2,v3,v4,v5,()) =>
  bif ltI v5 (v1.2.1.length:Int) then
   bif ltI v5 3 then
    bif aF v5 v1.2.1.length then aC (lR (v3,((v1.2.1.getD v5.toNat (0,(0,(0,0)))).1,((v1.2.1.getD v5.toNat (0,(0,(0,0)))).2.1,((v1.2.1.getD v5.toNat (0,(0,(0,0)))).2.2.1,(v1.2.1.getD v5.toNat (0,(0,(0,0)))).2.2.2))),())) λy3 =>
    bif Nat.ble [y3.1].length 1048576 then bif Nat.ble v4.length 1048576 then some (.inl (v1,v2,v3,(v4++[y3.1]),(aB .i64 (v5+1)),())) else none else none else none
   else some (.inr ((v1,v2,v3,v4,())))
  else some (.inr ((v1,v2,v3,v4,())))
def AE(x:Shape.den C7):oX LJ:=aW tC (2^64) x
def B2(x:aM [.agg TyP]):oK [.agg TyG]:=match x with
 | (v0,()) =>
  aC (DY (v0.1,())) λy1 =>
  aC (AE (v0,([],([],[])),y1.1,[],0,())) λz4 =>
  aC (uC (z4.2.2.1,z4.2.2.2.1,z4.1.2.2,())) λy5 =>
  some (y5.1,())
abbrev RL:Ent:=⟨9,_,_,B2⟩
theorem ZQ:Ent.OK tP RL:=oU (aR (oV F9 (oV V7 (oV X1 oW)))) func9 4 (lp:=AE) rfl Y (by rintro⟨v1,v2,v3,v4,v5,⟨⟩⟩; kernel_rfl) (by rintro⟨v0,⟨⟩⟩; kernel_rfl)
def BV(x:aM [.agg TyP]):oK [.bool]:=match x with
 | (v0,()) =>
  some (!(ltI 3 (v0.2.1.length:Int)),())
abbrev RI:Ent:=⟨7,_,_,BV⟩
theorem ZT:Ent.OK tP RI:=oI (aR oW) func7 Y (by rintro⟨v0,⟨⟩⟩; kernel_rfl)
end Go.PM
namespace Go.PM
open Go Go.RowKit Go.Proofs Go.Lz
theorem YQ {α:Type} z:∀ {a b:List α},a.length=b.length->a≠b->∃ x,x<a.length/\(∀ y,y<x->a.getD y z=b.getD y z)/\a.getD x z≠b.getD x z
 | [],[],_,h=>absurd rfl h
 | [],_::_,h,_=>by simp at h
 | _::_,[],h,_=>by simp at h
 | s::a,t::b,hl,h=>by
  by_cases e:s=t
  ·subst e;obtain⟨x,h1,h2,h3⟩:=YQ z (by simpa using hl) (λe=>h (by rw[e]));refine⟨x+1,by simpa using h1,λy hy=>?_,by grind⟩;cases y with
   | zero=>rfl
   | succ y=>grind
  ·exact⟨0,by simp,λy hy=>by omega,by simpa using e⟩
theorem aQ4(a b:List Int)(ha:a.length<1048576):dK (a,b,())=some (decide (a=b),()):=by
 by_cases hl:a.length=b.length
 ·have e0:eqI (a.length:Int) (b.length:Int)=true:=by rw[bP]; exact oT Z
  have step:∀ t,t<a.length->∀ c,decide (a.getD t 0=b.getD t 0)=c->bQ (a,b,(a.length:Int),(t:Int),())=(bif c then some (.inl (a,b,(a.length:Int),((t+1:Nat):Int),())) else some (.inr (.inl (false,())))):=λt ht c hc=>by
   have e1:ltI (t:Int) (a.length:Int)=true:=by rw[aE]; exact oT Z
   have e2:aF (t:Int) a.length=true:=by rw[aK]; exact oT Z
   have e3:aF (t:Int) b.length=true:=by rw[aK]; exact oT Z
   have e4:((t:Nat):Int).toNat=t:=oN _;have e5:=bC t Z;simp only[bQ,e1,e2,e3,e4,e5,oC,bP,hc];cases c <;> rfl
  by_cases he:a=b
  ·subst he;have key:=bH (step:=bQ) (N:=2^64) (λt=>(a,a,(a.length:Int),(t:Int),())) a.length (.inr ()) Z (λt ht=>step t ht true R) (by
    have e1:ltI (a.length:Int) (a.length:Int)=false:=by rw[aE]; exact oF Z
    simp only[bQ,e1,oD])
   have key:iD (a,a,(a.length:Int),0,())=_:=key;simp only[dK,e0,Bool.not_true,oD,key,aD,lM,decide_true]
  ·obtain⟨x,h1,h2,h3⟩:=YQ 0 hl he;have key:=bH (step:=bQ) (N:=2^64) (λt=>(a,b,(a.length:Int),(t:Int),())) x (.inl (false,())) Z (λt ht=>step t Z true (oT (h2 t ht))) (step x h1 false (oF h3));have key:iD (a,b,(a.length:Int),0,())=_:=key;simp only[dK,e0,Bool.not_true,oD,key,aD,I3,oF he]
 ·have e0:eqI (a.length:Int) (b.length:Int)=false:=by rw[bP]; exact oF Z
  have he:¬ a=b:=λe=>hl (by rw[e])
  simp only[dK,e0,Bool.not_false,oC,oF he]
theorem aXE(a b:List (List Int))(ha:a.length<1048576)(hr:∀ r∈a,r.length<1048576):aX (a,b,(),())=some (decide (a=b),()):=by
 by_cases hl:a.length=b.length
 ·have e0:eqI (a.length:Int) (b.length:Int)=true:=by rw[bP]; exact oT Z
  have step:∀ t,t<a.length->∀ c,decide (a.getD t []=b.getD t [])=c->aU (b,(),a,(a.length:Int),(t:Int),())=(bif c then some (.inl (b,(),a,(a.length:Int),((t+1:Nat):Int),())) else some (.inr (.inl (false,())))):=λt ht c hc=>by
   have e1:ltI (t:Int) (a.length:Int)=true:=by rw[aE]; exact oT Z
   have e2:aF (t:Int) a.length=true:=by rw[aK]; exact oT Z
   have e3:aF (t:Int) b.length=true:=by rw[aK]; exact oT Z
   have e4:((t:Nat):Int).toNat=t:=oN _;have e5:=bC t Z;have e6:(a.getD t []).length<1048576:=by
    have:a.getD t []=a[t]:=by simp[List.getD,ht]
    rw[this]; exact hr _ (List.getElem_mem ht)
   have e7:=aQ4 (a.getD t []) (b.getD t []) e6;simp only[aU,e1,e2,e3,e4,e5,oC,BL,e7,aD,hc]
  by_cases he:a=b
  ·subst he;have key:=bH (step:=aU) (N:=2^64) (λt=>(a,(),a,(a.length:Int),(t:Int),())) a.length (.inr ()) Z (λt ht=>step t ht true R) (by
    have e1:ltI (a.length:Int) (a.length:Int)=false:=by rw[aE]; exact oF Z
    simp only[aU,e1,oD])
   have key:bY (a,(),a,(a.length:Int),0,())=_:=key;simp only[aX,e0,Bool.not_true,oD,key,aD,lM,decide_true]
  ·obtain⟨x,h1,h2,h3⟩:=YQ [] hl he;have key:=bH (step:=aU) (N:=2^64) (λt=>(b,(),a,(a.length:Int),(t:Int),())) x (.inl (false,())) Z (λt ht=>step t Z true (oT (h2 t ht))) (step x h1 false (oF h3));have key:bY (b,(),a,(a.length:Int),0,())=_:=key;simp only[aX,e0,Bool.not_true,oD,key,aD,I3,oF he]
 ·have e0:eqI (a.length:Int) (b.length:Int)=false:=by rw[bP]; exact oF Z
  have he:¬ a=b:=λe=>hl (by rw[e])
  simp only[aX,e0,Bool.not_false,oC,oF he]
theorem aXG(a b:List (List Int))(ha:a.length<1048576)(hr:∀ r∈a,r.length<1048576):aY (a,b,(),())=some (decide (a=b),()):=by
 by_cases hl:a.length=b.length
 ·have e0:eqI (a.length:Int) (b.length:Int)=true:=by rw[bP]; exact oT Z
  have step:∀ t,t<a.length->∀ c,decide (a.getD t []=b.getD t [])=c->aT (b,(),a,(a.length:Int),(t:Int),())=(bif c then some (.inl (b,(),a,(a.length:Int),((t+1:Nat):Int),())) else some (.inr (.inl (false,())))):=λt ht c hc=>by
   have e1:ltI (t:Int) (a.length:Int)=true:=by rw[aE]; exact oT Z
   have e2:aF (t:Int) a.length=true:=by rw[aK]; exact oT Z
   have e3:aF (t:Int) b.length=true:=by rw[aK]; exact oT Z
   have e4:((t:Nat):Int).toNat=t:=oN _;have e5:=bC t Z;have e6:(a.getD t []).length<1048576:=by
    have:a.getD t []=a[t]:=by simp[List.getD,ht]
    rw[this]; exact hr _ (List.getElem_mem ht)
   have e7:=aQ4 (a.getD t []) (b.getD t []) e6;simp only[aT,e1,e2,e3,e4,e5,oC,GI,e7,aD,hc]
  by_cases he:a=b
  ·subst he;have key:=bH (step:=aT) (N:=2^64) (λt=>(a,(),a,(a.length:Int),(t:Int),())) a.length (.inr ()) Z (λt ht=>step t ht true R) (by
    have e1:ltI (a.length:Int) (a.length:Int)=false:=by rw[aE]; exact oF Z
    simp only[aT,e1,oD])
   have key:bX (a,(),a,(a.length:Int),0,())=_:=key;simp only[aY,e0,Bool.not_true,oD,key,aD,lM,decide_true]
  ·obtain⟨x,h1,h2,h3⟩:=YQ [] hl he;have key:=bH (step:=aT) (N:=2^64) (λt=>(b,(),a,(a.length:Int),(t:Int),())) x (.inl (false,())) Z (λt ht=>step t Z true (oT (h2 t ht))) (step x h1 false (oF h3));have key:bX (b,(),a,(a.length:Int),0,())=_:=key;simp only[aY,e0,Bool.not_true,oD,key,aD,I3,oF he]
 ·have e0:eqI (a.length:Int) (b.length:Int)=false:=by rw[bP]; exact oF Z
  have he:¬ a=b:=λe=>hl (by rw[e])
  simp only[aY,e0,Bool.not_false,oC,oF he]
theorem aP4(n n':Int)(a b:List (List Int))(ha:a.length<1048576)(hr:∀ r∈a,r.length<1048576):EH ((n,a),(n',b),())=some (decide (n=n')&&decide (a=b),()):=by
 by_cases h:n=n'
 ·subst h;have e0:eqI n n=true:=by rw[bP]; simp
  simp only[EH,e0,oC,aXE a b ha hr,aD,decide_true,Bool.true_and]
 ·have e0:eqI n n'=false:=by rw[bP]; grind
  simp only[EH,e0,oD,h,decide_false,Bool.false_and]
theorem bBG(a b:List (List Int))(ha:a.length<1048576)(hr:∀ r∈a,r.length<1048576):DG (a,b,())=some (decide (a=b),()):=by simp only[DG,aXG a b ha hr,aD]
end Go.PM
namespace Go.Lz
theorem xP.back {n m k k2 A K K2}(hA:∀ i,i<m->∀ c,n<=c->A i c=0)(h1:xP n m A k K)(h2:xP n k K k2 K2):xP n k2 K2 k K:=by
 intro y;rw[h1];constructor
 ·intro g;refine⟨g.1,λx hx=>?_⟩;have:=((h2 _).1 (Sp.mem hx));rw[JV];exact this.span ((h1 y).2 g)
 ·rintro⟨g1,g2⟩;refine⟨g1,λx hx=>?_⟩;have :=(h2 _).2 ⟨hA x hx,λz hz=>by rw[JV]; exact((h1 _).1 (Sp.mem hz)).2 x hx⟩;exact Ker.span ⟨g1,g2⟩ this
theorem xP.of_same {n m m' k A A' K}(h:Same m A m' A')(h1:xP n m A k K):xP n m' A' k K:=λy=>(h1 y).trans (Ker.same h)
end Go.Lz
namespace Go.PM
open Go Go.RowKit Go.Proofs Go.Lz
structure RT (ps:List Int) (n d r:Nat) (C K:Nat->V):Prop where
 pr:FW (ps,())=some (0,())
 len:ps.length=n
 n4:n<=4
 hc:∃ q,Hn d C q
 hk:∃ p,Hn r K p
 wc:Wd d n C
 wk:Wd r n K
 bc:Big d n C 1000000000
 bk:Big r n K 1000000000
 ker:xP n d C r K
 ker2:xP n r K d C
theorem a7P {d n M}(hn:n<=4):∀ r∈Mr d n M,r.length<1048576:=λr hr=>by
 obtain⟨i,_,rfl⟩:=aNS hr;rw[IP]; omega
theorem RT.check {ps n d r C K}(h:RT ps n d r C K):rO ((ps,(Mr d n C,Mr r n K)),())=some (0,()):=by
 obtain⟨q,hc⟩:=h.hc;obtain⟨p,hk⟩:=h.hk;have n4:=h.n4;have d4:=(Hn.FI hc h.wc).1;have r4:=(Hn.FI hk h.wk).1;have e0:eqI 0 0=true:=by rfl
 have e1:ps.length=n:=by rw[h.len]
 have s1:=aKH hc n4 h.wc h.bc h.ker hc h.ker2 h.bc;have s2:=aBO hc n4 h.wc h.bc hk h.ker h.bk;have s3:=aME hc h.wc Z Z h.bc;have s4:=aP4 n n (Mr d n C) (Mr d n C) (by rw[tK]; omega) (a7P n4);have s5:=bBG (Mr r n K) (Mr r n K) (by rw[tK]; omega) (a7P n4);simp only[decide_true,Bool.and_self]at s4 s5;simp only[rO,h.pr,aD,e0,Bool.not_true,oD,e1,s3,s1,s4,oC,s2,s5]
theorem a5K {ps:List Int} {n:Nat} (hp:FW (ps,())=some (0,())) (hl:ps.length=n) (hn:n<=4) (rows:List (List Int)) (hk:rows.length<=4) (hlen:∀ r∈rows,r.length=n) (hr:∀ r∈rows,∀ a∈r,a.natAbs<=10) (vals:Bool) :
  ∃ d r C K,uC (ps,rows,vals,())=some ((ps,(Mr d n C,Mr r n K)),0,())/\RT ps n d r C K/\Big r n K 960000/\Big d n C 960000:=by
 have hrow:∀ i,i<rows.length->∃ r,r∈rows/\aB4 rows i=kG r:=λi hi=>⟨rows[i],List.getElem_mem hi,by unfold aB4; simp[List.getD,hi]⟩
 have hw:Wd rows.length n (aB4 rows):=λi hi x hx=>by
  obtain⟨r,hr1,hr2⟩:=hrow i hi;rw[hr2]; unfold kG;have:=hlen r hr1;simp[List.getD,List.getElem?_eq_none (show r.length<=x by omega)]
 have hB:Big rows.length n (aB4 rows) 10:=λi hi x hx=>by
  obtain⟨r,hr1,hr2⟩:=hrow i hi;rw[hr2]; unfold kG;have hl:=hlen r hr1;have:r.getD x 0=r[x]' Z:=by simp[List.getD,show x<r.length by omega]
  rw[this];exact hr r hr1 _ (List.getElem_mem _)
 have b10:4*(24*(10*10*10*10))<=1000000000:=O
 obtain⟨d,M,q,g1,g2,g3,g4,g5,g6⟩:=of_eq rows (n:=n) Z Z hlen (E:=λd=>10^dg 1 d) (T:=λd=>10^(5*dg 1 d+1)) hr (show 10^dg 1 0<=1000000000 by decide) (a3N (.inl hk) O) λd H p hd hH hs hwd i hi x hx=>by
  have hdg:=(aUR (k:=rows.length) (M:=aB4 rows) (E:=10) Z hH (λj hj=>⟨1,by decide,by
   have:=(hs _).2 (Sp.mem hj);refine cast (oZ _ ?_) this
   funext x; simp⟩) (hB.all hw)).mono λv=>(hs v).1
  exact oR (oR (Hn.a95 hH hdg i hi x) (Nat.mul_le_mul Z (aZY O Z))) b10
 have hd:=(Hn.FI g3 g5).1;obtain⟨m,A,a1,a2⟩:=aE6 Z Z g5 g6;obtain⟨m',A',J',K,p,r,k1,k2,k3,k4,k5,k6,k7⟩:=aFK Z hn g5 (by rw[<- p9]; exact g6) a2;obtain⟨m2,A2,J2,S,s,t,c1,c2,c3,c4,c5,c6,c7⟩:=aOF Z hn k6 k7 k2;have hI:xP n rows.length (aB4 rows) r K:=k5.of_same g4.symm;have bK':Big r n K 960000:=λi hi x hx=>aIW (E:=10) (D:=1) hn Z hw hB O O O k4 hI i hi x
 have bS':Big t n S 960000:=λi hi x hx=>a4N (E:=10) (D:=1) hk hn hw hB O O O hI c4 c5 i hi x
 have bK:Big r n K 1000000000:=λi hi x hx=>oR (bK' i hi x hx) O
 have bS:Big t n S 1000000000:=λi hi x hx=>oR (bS' i hi x hx) O
 have s1:=aKH g3 hn g5 g6 k5 c4 c5 bS;have s2:=aBO g3 hn g5 g6 k4 k5 bK;have back:=xP.back g5 k5 c5;have e0:eqI 0 0=true:=O
 have e1:((ps.length:Nat):Int)=(n:Int):=by rw[hl]
 have g1':JA ((n:Int),rows,())=some (((n:Int),Mr d n M),0,()):=g1;cases vals with
 | false =>
  refine⟨t,r,S,K,?_,⟨hp,hl,hn,⟨s,c4⟩,⟨p,k4⟩,c6,k6,bS,bK,back,c5⟩,bK',bS'⟩;simp only[uC,hp,aD,e0,Bool.not_true,oD,e1,g1',s1,s2]
 | true =>
  refine⟨r,t,K,S,?_,⟨hp,hl,hn,⟨p,k4⟩,⟨s,c4⟩,k6,c6,bK,bS,c5,back⟩,bS',bK'⟩;simp only[uC,hp,aD,e0,Bool.not_true,oD,oC,e1,g1',s1,s2]
def L12:List (List Int):=[[2,3,5],[2,3,5,7],[2,3],[2,3,7],[2,5,7],[3,5,7],[2,3,5,11],[2],[2,3,7,13],[3,5,7,13]]
theorem bEI:∀ i,i<10->FW (L12.getD i [],())=some (0,())/\(L12.getD i []).length<=4:=by
 intro i hi;rcases(show i=0\/i=1\/i=2\/i=3\/i=4\/i=5\/i=6\/i=7\/i=8\/i=9 by omega)with rfl|rfl|rfl|rfl|rfl|rfl|rfl|rfl|rfl|rfl
 all_goals exact⟨by rfl,by decide⟩
theorem a5G(v:Int)(h0:0<=v)(h1:v<256):DY (v,())=some (L12.getD (v%10).toNat [],()):=by
 have e1:IntKind.wrap .i64 v=v:=TZ Z Z;have e2:v.tmod 10=v%10:=Int.tmod_eq_emod_of_nonneg h0;have e3:aF (v%10) 10=true:=by rw[aK]; grind
 have e4:eqI 10 0=false:=O
 have hl:L12.length=10:=O
 show (bif eqI L12.length 0 then none else bif aF ((IntKind.wrap .i64 v).tmod (L12.length:Int)) L12.length then some ((L12.getD (((IntKind.wrap .i64 v).tmod L12.length).toNat) []),()) else none)=_;grind
def KW(t:Int×Int×Int×Int):Nat->Int
 | 0=>t.1
 | 1=>t.2.1
 | 2=>t.2.2.1
 | _=>t.2.2.2
def I8(t:Int×Int×Int×Int):Prop:=∀ i,i<4->-128<=KW t i/\KW t i<128
theorem aKC(ps:List Int)(hl:ps.length<=4) t (ht:I8 t):lR (ps,t,())=some ((List.range ps.length).map (λi=>(KW t i).tmod 10),()):=by
 have w0:IntKind.wrap .i64 t.1=t.1:=TZ (by have:=ht 0 Z; simp only[KW]at this; omega) (by have:=ht 0 Z; simp only[KW]at this; omega);have w1:IntKind.wrap .i64 t.2.1=t.2.1:=TZ (by have:=ht 1 Z; simp only[KW]at this; omega) (by have:=ht 1 Z; simp only[KW]at this; omega);have w2:IntKind.wrap .i64 t.2.2.1=t.2.2.1:=TZ (by have:=ht 2 Z; simp only[KW]at this; omega) (by have:=ht 2 Z; simp only[KW]at this; omega)
 have w3:IntKind.wrap .i64 t.2.2.2=t.2.2.2:=TZ (by have:=ht 3 Z; simp only[KW]at this; omega) (by have:=ht 3 Z; simp only[KW]at this; omega);have key:=bH (step:=pC) (N:=2^64) (λs=>(ps,(t.1,(t.2.1,(t.2.2.1,t.2.2.2))),(List.range s).map (λi=>(KW t i).tmod 10),(s:Int),())) ps.length ((List.range ps.length).map (λi=>(KW t i).tmod 10),()) Z (λs hs=>?_) ?_
 ·have key:uS (ps,(t.1,(t.2.1,(t.2.2.1,t.2.2.2))),[],0,())=_:=key;simp only[lR,key,aD]
 ·have e1:ltI (s:Int) (ps.length:Int)=true:=by rw[aE]; exact oT Z
  have e2:ltI (s:Int) 4=true:=by rw[aE]; exact oT Z
  have e3:=bC s Z;have e4:∀ x:Int,Nat.ble [x].length 1048576=true:=λ_=>rfl
  have e5:Nat.ble ((List.range s).map (λi=>(KW t i).tmod 10)).length 1048576=true:=by rw[cT,List.length_map,List.length_range]; exact oT Z
  have e6:(List.range (s+1)).map (λi=>(KW t i).tmod 10)=(List.range s).map (λi=>(KW t i).tmod 10)++[(KW t s).tmod 10]:=by rw[List.range_succ,List.map_append]; rfl
  simp only[pC,e1,e2,oC,e4,e5,w0,w1,w2,w3,e3,e6];rcases(show s=0\/s=1\/s=2\/s=3 by omega)with rfl|rfl|rfl|rfl <;> rfl
 ·have e1:ltI (ps.length:Int) (ps.length:Int)=false:=by rw[aE]; exact oF Z
  simp only[pC,e1,oD]
theorem a99(v:Int) (h0:0<=v) (h1:v<256) (rows:List (Int×Int×Int×Int)) (hk:rows.length<=3) (hr:∀ t∈rows,I8 t) (vals:Bool) :
  ∃ d r C K,B2 ((v,(rows,vals)),())=some ((L12.getD (v%10).toNat [],(Mr d (L12.getD (v%10).toNat []).length C,Mr r (L12.getD (v%10).toNat []).length K)),())/\RT (L12.getD (v%10).toNat []) (L12.getD (v%10).toNat []).length d r C K/\Big r (L12.getD (v%10).toNat []).length K 960000/\Big d (L12.getD (v%10).toNat []).length C 960000:=by
 obtain⟨hp,hl⟩:=bEI (v%10).toNat Z;have hP:=a5G v h0 h1;generalize L12.getD (v%10).toNat []=ps at hp hl hP ⊢;have key:=bH (step:=tC) (N:=2^64) (λs=>((v,(rows,vals)),([],([],[])),ps,(rows.take s).map (λt=>(List.range ps.length).map (λi=>(KW t i).tmod 10)),(s:Int),())) rows.length
  ((v,(rows,vals)),([],([],[])),ps,rows.map (λt=>(List.range ps.length).map (λi=>(KW t i).tmod 10)),()) Z (λs hs=>?_) ?_
 ·have key:AE ((v,(rows,vals)),([],([],[])),ps,[],0,())=_:=key;obtain⟨d,r,C,K,b1,b2⟩:=a5K hp rfl hl (rows.map (λt=>(List.range ps.length).map (λi=>(KW t i).tmod 10))) (by rw[List.length_map]; omega) (λr hr=>by
   obtain⟨t,_,rfl⟩:=List.mem_map.1 hr;simp) (λr hr a ha=>by
   obtain⟨t,_,rfl⟩:=List.mem_map.1 hr;obtain⟨i,_,rfl⟩:=List.mem_map.1 ha;rw[Int.natAbs_tmod];have:=Nat.mod_lt (KW t i).natAbs (show 0<(10:Int).natAbs by decide);have e:(10:Int).natAbs=10:=rfl;omega) vals
  refine⟨d,r,C,K,?_,b2⟩;simp only[B2,hP,aD,key,b1]
 ·have e1:ltI (s:Int) (rows.length:Int)=true:=by rw[aE]; exact oT Z
  have e2:ltI (s:Int) 3=true:=by rw[aE]; exact oT Z
  have e3:=bC s Z;have e4:aF (s:Int) rows.length=true:=by rw[aK]; exact oT Z
  have e5:((s:Nat):Int).toNat=s:=oN _;have e6:rows.getD s (0,0,0,0)=rows[s]:=by simp[List.getD,hs]
  have e7:=aKC ps hl rows[s] (hr _ (List.getElem_mem hs));have e8:∀ x:List Int,Nat.ble [x].length 1048576=true:=λ_=>rfl
  have e9:Nat.ble ((rows.take s).map (λt=>(List.range ps.length).map (λi=>(KW t i).tmod 10))).length 1048576=true:=by rw[cT,List.length_map,List.length_take]; exact oT Z
  have e10:(rows.take (s+1)).map (λt=>(List.range ps.length).map (λi=>(KW t i).tmod 10))=(rows.take s).map (λt=>(List.range ps.length).map (λi=>(KW t i).tmod 10))++[(List.range ps.length).map (λi=>(KW rows[s] i).tmod 10)]:=by rw[List.take_succ_eq_append_getElem hs,List.map_append]; rfl
  simp only[tC,e1,e2,oC,e4,e5,e6,e7,aD,e8,e9,e3,e10]
 ·have e1:ltI (rows.length:Int) (rows.length:Int)=false:=by rw[aE]; exact oF Z
  simp only[tC,e1,oD,List.take_length]
theorem aSK {a b E F}:∀ {n},(∀ x,x<n->(a x).natAbs<=E)->(∀ x,x<n->(b x).natAbs<=F)->(dot n a b).natAbs<=n*(E*F)
 | 0,_,_=>by simp[dot]
 | n+1,ha,hb=>by
  have h1:=aSK (n:=n) (λx hx=>ha x Z) (λx hx=>hb x Z);have h2:=aK1 (ha n R) (hb n R);rw[Nat.succ_mul];show (dot n a b+a n*b n).natAbs<=_;omega
section
variable {n r:Nat} {K:Nat->V}
theorem aRP(hn:n<=12)(hr:r<=12)(ps:List Int)(C:List (List Int))(x:List Int)(hl:x.length=n)(hx:∀ a∈x,a.natAbs<=1000000000)(hw:Wd r n K)(hK:Big r n K 1000000000) :
  zH ((ps,(C,Mr r n K)),x,())=some ((List.range r).map (λi=>Zn (dot n (kG x) (K i))),()):=by
 have hxv:∀ t,t<n->(kG x t).natAbs<=1000000000:=λt ht=>by
  unfold kG;have:x.getD t 0=x[t]' Z:=by simp[List.getD,show t<x.length by omega]
  rw[this];exact hx _ (List.getElem_mem _)
 have inner:∀ i,i<r->∀ (v5:List ByteArray) (v12:List (List Int)) (v13 v14:Int),nA (x,v5,Vr n (K i),ByteArray.mk #[48],v12,v13,v14,x,(x.length:Int),0,())=some (x,v5,Zn (dot n (kG x) (K i)),v12,v13,v14,()):=λi hi v5 v12 v13 v14=>by
  have key:=bH (step:=mX) (N:=2^64) (λt=>(x,v5,Vr n (K i),Zn (dot t (kG x) (K i)),v12,v13,v14,x,(x.length:Int),(t:Int),())) n (x,v5,Zn (dot n (kG x) (K i)),v12,v13,v14,()) Z (λt ht=>?_) ?_
  ·have z:Zn (dot 0 (kG x) (K i))=ByteArray.mk #[48]:=by
    show Zn 0=_
    kernel_rfl
   have key:nA (x,v5,Vr n (K i),Zn (dot 0 (kG x) (K i)),v12,v13,v14,x,(x.length:Int),0,())=_:=key;rwa[z]at key
  ·have e1:ltI (t:Int) (x.length:Int)=true:=by rw[aE]; exact oT Z
   have e2:aF (t:Int) x.length=true:=by rw[aK]; exact oT Z
   have e3:((t:Nat):Int).toNat=t:=oN _;have e4:aF (t:Int) n=true:=by rw[aK]; exact oT Z
   have b1:=hxv t ht;have b2:=hK i hi t ht;have b3:=aSK (n:=t) (a:=kG x) (b:=K i) (λy hy=>hxv y Z) (λy hy=>hK i hi y Z);have b4:=aK1 b1 b2;have e5:kR (x.getD t 0,())=some (Zn (kG x t),()):=vQ _ (by have:x.getD t 0=kG x t:=rfl; omega) (by have:x.getD t 0=kG x t:=rfl; omega);have e6:kR ((Vr n (K i)).getD t 0,())=some (Zn (K i t),()):=by rw[aOT _ ht]; exact vQ _ Z Z
   have d1:=tS (u:=(kG x t).natAbs) (k:=9) Z;have d2:=tS (u:=(K i t).natAbs) (k:=9) Z;have e7:=aNN (kG x t) (K i t) Z;have d3:=tS (u:=(dot t (kG x) (K i)).natAbs) (k:=20) Z;have d4:=tS (u:=(kG x t*K i t).natAbs) (k:=20) Z;have e8:=aM9 (dot t (kG x) (K i)) (kG x t*K i t) Z Z;have e9:=bC t Z;have e10:dot t (kG x) (K i)+kG x t*K i t=dot (t+1) (kG x) (K i):=rfl
   simp only[mX,e1,e2,e3,e5,aD,IP,e4,e6,e7,e8,e9,e10,oC]
  ·have e1:ltI (n:Int) (x.length:Int)=false:=by rw[aE]; exact oF Z
   simp only[mX,e1,oD]
 have key:=bH (step:=nE) (N:=2^64) (λt=>(x,(List.range t).map (λi=>Zn (dot n (kG x) (K i))),Mr r n K,((Mr r n K).length:Int),(t:Int),())) r ((List.range r).map (λi=>Zn (dot n (kG x) (K i))),()) Z (λt ht=>?_) ?_
 ·have key:sE (x,[],Mr r n K,((Mr r n K).length:Int),0,())=_:=key;simp only[zH,key,aD]
 ·have e1:ltI (t:Int) (r:Int)=true:=by rw[aE]; exact oT Z
  have e2:aF (t:Int) r=true:=by rw[aK]; exact oT Z
  have e3:((t:Nat):Int).toNat=t:=oN _;have e4:∀ s:ByteArray,Nat.ble [s].length 1048576=true:=λ_=>rfl
  have e5:Nat.ble ((List.range t).map (λi=>Zn (dot n (kG x) (K i)))).length 1048576=true:=by rw[cT,List.length_map,List.length_range]; exact oT Z
  have e6:=bC t Z;have e7:(List.range (t+1)).map (λi=>Zn (dot n (kG x) (K i)))=(List.range t).map (λi=>Zn (dot n (kG x) (K i)))++[Zn (dot n (kG x) (K t))]:=by rw[List.range_succ,List.map_append]; rfl
  simp only[nE,tK,e1,e2,e3,aU2 K ht,inner t ht,aD,e4,e5,e6,e7,oC]
 ·have e1:ltI (r:Int) (r:Int)=false:=by rw[aE]; exact oF Z
  simp only[nE,tK,e1,oD]
end
section
variable {ps:List Int} {n d r:Nat} {C K:Nat->V}
theorem aYB(h:RT ps n d r C K)(x:List Int)(hl:x.length=n)(hx:∀ a∈x,a.natAbs<=1000000000):BK ((ps,(Mr d n C,Mr r n K)),[x],())=some (0,()):=by
 have n4:=h.n4;have e0:eqI 0 0=true:=O
 have c1:=aHR x Z hx;have e1:eqI ((x.length:Nat):Int) ((ps.length:Nat):Int)=true:=by rw[bP]; exact oT (by rw[hl,h.len])
 have key:=bH (step:=zN) (N:=2^64) (λt=>((ps,(Mr d n C,Mr r n K)),[x],1,(t:Int),())) 1 (.inr ()) Z (λt ht=>?_) ?_
 ·have key:zL ((ps,(Mr d n C,Mr r n K)),[x],([x].length:Int),0,())=_:=key;simp only[BK,h.check,aD,e0,Bool.not_true,oD,key,lM]
 ·obtain rfl:t=0:=Z
  have e2:ltI ((0:Nat):Int) 1=true:=O
  have e3:=bC 0 Z;simp only[zN,e2,oC,e3];show (bif aF ((0:Nat):Int) 1 then aC (vO (x,())) _ else none)=_;have e4:aF ((0:Nat):Int) 1=true:=O
  simp only[e4,oC,c1,aD,e0,Bool.not_true,oD];grind
 rfl
def tmp(n r:Nat) (K:Nat->V) (x:List Int):List Int:=Vr r λi=>dot n (kG x) (K i)
theorem aRR(h:RT ps n d r C K) x (hl:x.length=n)(hx:∀ a∈x,a.natAbs<=1000000000)(hd:∀ i,i<r->(dot n (kG x) (K i)).natAbs<=1000000000) :
  dD ((ps,(Mr d n C,Mr r n K)),x,())=some (tmp n r K x,0,()):=by
 have n4:=h.n4;obtain⟨p,hk⟩:=h.hk;have r4:=(Hn.FI hk h.wk).1;have e0:eqI 0 0=true:=O
 have t1:=aRP Z Z ps (Mr d n C) x hl hx h.wk h.bk;generalize hz:(List.range r).map (λi=>Zn (dot n (kG x) (K i)))=zs at t1;have hzl:zs.length=r:=by rw[<- hz]; simp
 have key:=bH (step:=cF) (N:=2^64) (λt=>((List.range t).map (λi=>dot n (kG x) (K i)),zs,(r:Int),(t:Int),())) r (.inr (tmp n r K x,())) Z (λt ht=>?_) ?_
 ·have key:r9 ([],zs,(zs.length:Int),0,())=some (.inr (tmp n r K x,())):=by rw[hzl]; exact key
  simp only[dD,aYB h x hl hx,aD,e0,Bool.not_true,oD,t1,key,lM]
 ·have e2:ltI (t:Int) (r:Int)=true:=by rw[aE]; exact oT Z
  have e3:aF (t:Int) zs.length=true:=by rw[aK]; exact oT Z
  have e4:zs.getD ((t:Int)).toNat ByteArray.empty=Zn (dot n (kG x) (K t)):=by rw[<- hz]; simp[List.getD,ht]
  have hb:=hd t ht;have e5:=aJX (dot n (kG x) (K t)) (by have:=tS (u:=(dot n (kG x) (K t)).natAbs) (k:=17) Z; omega);have e6:ltI 1000000000 (dot n (kG x) (K t))=false:=by rw[aE]; exact oF Z
  have e7:ltI (dot n (kG x) (K t)) (-1000000000)=false:=by rw[aE]; exact oF Z
  have e8:Nat.ble [dot n (kG x) (K t)].length 1048576=true:=rfl;have e9:Nat.ble ((List.range t).map (λi=>dot n (kG x) (K i))).length 1048576=true:=Nat.ble_eq_true_of_le (by simp; omega);have e10:=bC t Z;simp only[cF,e2,oC,e3,e4,e5,aD,e6,oD,e7,e8,e9,e10];rw[List.range_succ,List.map_append]; rfl
 ·have e2:ltI (r:Int) (r:Int)=false:=by rw[aE]; exact oF Z
  simp only[cF,e2,oD]; rfl
end
theorem aGO:∀ (l:List UInt8) (acc m:Nat),Lib.decFrom acc l=some m->acc<=m
 | [],acc,m,h=>by
  simp only[Lib.decFrom]at h;injection h with h; omega
 | c::r,acc,m,h=>by
  by_cases hd:48<=c.toNat/\c.toNat<=57
  ·simp only[Lib.decFrom,Lib.digitVal,if_pos hd]at h;have:=aGO r _ m h;omega
  ·simp only[Lib.decFrom,Lib.digitVal,if_neg hd]at h;cases h
theorem bFV:∀ (l:List UInt8) (acc m:Nat),acc<18446744073709551616->Lib.decFrom acc l=some m->Lib.parseUint10 acc l=if m<18446744073709551616 then .ok m else .range
 | [],acc,m,ha,h=>by
  simp only[Lib.decFrom]at h;injection h with h;subst h;rw[if_pos ha]; rfl
 | c::r,acc,m,ha,h=>by
  by_cases hd:48<=c.toNat/\c.toNat<=57
  ·simp only[Lib.decFrom,Lib.digitVal,if_pos hd]at h;have hge:=aGO r _ m h;simp only[Lib.parseUint10,if_pos hd]
   by_cases h1:1844674407370955162<=acc
   ·rw[if_pos h1,if_neg Z]
   ·rw[if_neg h1]
    by_cases h2:18446744073709551616<=acc*10+(c.toNat-48)
    ·rw[if_pos h2,if_neg Z]
    ·rw[if_neg h2];exact bFV r _ m Z h
  ·simp only[Lib.decFrom,Lib.digitVal,if_neg hd]at h;cases h
theorem aV2 {l:List UInt8}{m:Nat}(h:Lib.decNat l=some m):Lib.parseMag l=if m<18446744073709551616 then .ok m else .range:=by
 have hne:l≠[]:=λe=>by subst e; cases h
 have hd:Lib.decFrom 0 l=some m:=by
  unfold Lib.decNat at h;split at h
  ·cases h
  ·exact h
 unfold Lib.parseMag;rw[if_neg hne];exact bFV l 0 m O hd
theorem aWT {n:Int}(h:Lib.nDigits n.natAbs<=400000):(Zn n).size<=1000000000:=by
 rcases(by omega:n<0\/0<=n)with g|g
 ·rw[D2 g]; omega
 ·rw[O1 g,DL]; omega
theorem aLR(n:Int) (h:Lib.nDigits n.natAbs<=400000):∃ v b,nM (Zn n,())=some (v,b,())/\(b=true->v=n)/\(n.natAbs<=1000000000->b=true):=by
 have e1:Nat.ble (Zn n).size 1000000000=true:=by rw[cT]; simpa using aWT h
 have hmag:=aJF n.natAbs;rw[xR]at hmag;have hp:=aV2 hmag;have hne:∀ c r,Lib.decDigits n.natAbs=c::r->c.toNat≠43/\c.toNat≠45:=λc r he=>by
  have:=HJ n.natAbs c (by rw[he]; simp);omega
 have fin:∀ v,Lib.parseIntB 64 (Zn n).data.toList=.ok v->v=n->∃ v b,nM (Zn n,())=some (v,b,())/\(b=true->v=n)/\(n.natAbs<=1000000000->b=true):=λv hv e=>⟨v,true,by
  unfold nM;simp only[e1,oC,hv],λ_=>e,λ_=>rfl⟩
 have bad:Lib.parseIntB 64 (Zn n).data.toList=.range->1000000000<n.natAbs->∃ v b,nM (Zn n,())=some (v,b,())/\(b=true->v=n)/\(n.natAbs<=1000000000->b=true):=λhv hb=>⟨0,false,by
  unfold nM;simp only[e1,oC,hv],(λh=>by cases h),λh=>by omega⟩
 rcases(by omega:n<0\/0<=n)with g|g
 ·have ez:Lib.parseIntB 64 (Zn n).data.toList=Lib.signed (Lib.parseMag (Lib.decDigits n.natAbs)):=by
   rw[Lib.parseIntB_64,VJ g,Lib.atoiAll_minus]
  by_cases h1:n.natAbs<18446744073709551616
  ·rw[if_pos h1]at hp;rw[hp]at ez
   by_cases h2:9223372036854775808<n.natAbs
   ·exact bad (by rw[ez]; simp only[Lib.signed,if_pos h2]) Z
   ·exact fin (-(n.natAbs:Int)) (by rw[ez]; simp only[Lib.signed,if_neg h2]) Z
  ·rw[if_neg h1]at hp;rw[hp]at ez;exact bad (by rw[ez]; rfl) Z
 ·have ez:Lib.parseIntB 64 (Zn n).data.toList=Lib.signless (Lib.parseMag (Lib.decDigits n.natAbs)):=by
   rw[Lib.parseIntB_64,O1 g,xR];cases he:Lib.decDigits n.natAbs with
   | nil=>exact absurd he (FX _)
   | cons c r =>
    obtain⟨a1,a2⟩:=hne c r he;rw[Lib.atoiAll_plain c r a1 a2]
  by_cases h1:n.natAbs<18446744073709551616
  ·rw[if_pos h1]at hp;rw[hp]at ez
   by_cases h2:9223372036854775808<=n.natAbs
   ·exact bad (by rw[ez]; simp only[Lib.signless,if_pos h2]) Z
   ·exact fin (n.natAbs:Int) (by rw[ez]; simp only[Lib.signless,if_neg h2]) Z
  ·rw[if_neg h1]at hp;rw[hp]at ez;exact bad (by rw[ez]; rfl) Z
section
variable {ps:List Int} {n d r:Nat} {C K:Nat->V}
theorem bB7 {n:Nat}{A B:Nat}{u v:V}(hu:∀ i,i<n->(u i).natAbs<=A)(hv:∀ i,i<n->(v i).natAbs<=B):(dot n u v).natAbs<=n*(A*B):=by
 induction n with
 | zero=>simp[dot]
 | succ n ih =>
  have h1:=ih (λi hi=>hu i Z) (λi hi=>hv i Z);have h2:(u n*v n).natAbs<=A*B:=by
   rw[Int.natAbs_mul];exact Nat.mul_le_mul (hu n Z) (hv n Z)
  show (dot n u v+u n*v n).natAbs<=_;rw[Nat.succ_mul];omega
theorem aZ2(h:RT ps n d r C K) (x:List Int) (hl:x.length=n) (hx:∀ a∈x,a.natAbs<=1000000000) :
  ∃ y e,dD ((ps,(Mr d n C,Mr r n K)),x,())=some (y,e,())/\(e=0->y.length=r/\∀ a∈y,a.natAbs<=1000000000)/\y.length<=4:=by
 have n4:=h.n4;obtain⟨p,hk⟩:=h.hk;have r4:=(Hn.FI hk h.wk).1
 by_cases hd:∀ i,i<r->(dot n (kG x) (K i)).natAbs<=1000000000
 ·refine⟨_,_,aRR h x hl hx hd,λ_=>⟨by simp[tmp,Vr],λa ha=>?_⟩,by simp[tmp,Vr]; omega⟩;obtain⟨i,hi,rfl⟩:=List.mem_map.1 ha;exact hd i (List.mem_range.1 hi)
 ·have e0:eqI 0 0=true:=O
  have t1:=aRP Z Z ps (Mr d n C) x hl hx h.wk h.bk;generalize hz:(List.range r).map (λi=>Zn (dot n (kG x) (K i)))=zs at t1;have hzl:zs.length=r:=by rw[<- hz]; simp
  have key:∀ m j,j+m=r->(∀ i,i<j->(dot n (kG x) (K i)).natAbs<=1000000000)->∀ N,m<N->aW cF N ((List.range j).map (λi=>dot n (kG x) (K i)),zs,(r:Int),(j:Int),())=some (.inl ([],4,())):=by
   intro m
   induction m with
   | zero =>
    intro j hj hg N hN;exact(hd λi hi=>hg i Z).elim
   | succ m ih =>
    intro j hj hg N hN;obtain⟨N,rfl⟩:∃ M,N=M+1:=⟨N-1,by omega⟩;have e2:ltI (j:Int) (r:Int)=true:=by rw[aE]; exact oT Z
    have e3:aF (j:Int) zs.length=true:=by rw[aK]; exact oT Z
    have e4:zs.getD ((j:Int)).toNat ByteArray.empty=Zn (dot n (kG x) (K j)):=by rw[<- hz]; simp[List.getD,show j<r by omega]
    have hb:(dot n (kG x) (K j)).natAbs<=n*(1000000000*1000000000):=bB7 (λi hi=>by
     unfold kG;have:x.getD i 0=x[i]' Z:=by simp[List.getD,show i<x.length by omega]
     rw[this]; exact hx _ (List.getElem_mem _)) (λi hi=>h.bk j Z i hi)
    have hb2:n*(1000000000*1000000000)<=4*(1000000000*1000000000):=Nat.mul_le_mul_right _ n4;obtain⟨v,b,s1,s2,s3⟩:=aLR (dot n (kG x) (K j)) (by have:=tS (u:=(dot n (kG x) (K j)).natAbs) (k:=30) Z; omega)
    by_cases g:(dot n (kG x) (K j)).natAbs<=1000000000
    ·obtain rfl:=s3 g;obtain rfl:=s2 rfl;have e6:ltI 1000000000 (dot n (kG x) (K j))=false:=by rw[aE]; exact oF Z
     have e7:ltI (dot n (kG x) (K j)) (-1000000000)=false:=by rw[aE]; exact oF Z
     have e8:Nat.ble [dot n (kG x) (K j)].length 1048576=true:=rfl;have e9:Nat.ble ((List.range j).map (λi=>dot n (kG x) (K i))).length 1048576=true:=Nat.ble_eq_true_of_le (by simp; omega);have e10:=bC j Z;have st:cF ((List.range j).map (λi=>dot n (kG x) (K i)),zs,(r:Int),(j:Int),())=some (.inl ((List.range (j+1)).map (λi=>dot n (kG x) (K i)),zs,(r:Int),((j+1:Nat):Int),())):=by
      simp only[cF,e2,oC,e3,e4,s1,aD,e6,oD,e7,e8,e9,e10];rw[List.range_succ,List.map_append]; rfl
     rw[bV,st];exact ih (j+1) Z (λi hi=>by
      by_cases e:i=j
      ·subst e; exact g
      ·exact hg i Z) N Z
    ·have st:cF ((List.range j).map (λi=>dot n (kG x) (K i)),zs,(r:Int),(j:Int),())=some (.inr (.inl ([],4,()))):=by
      cases b with
      | false=>simp only[cF,e2,oC,e3,e4,s1,aD,oD]
      | true =>
       obtain rfl:=s2 rfl
       by_cases g2:1000000000<dot n (kG x) (K j)
       ·have e6:ltI 1000000000 (dot n (kG x) (K j))=true:=by rw[aE]; exact oT g2
        simp only[cF,e2,oC,e3,e4,s1,aD,e6]
       ·have e6:ltI 1000000000 (dot n (kG x) (K j))=false:=by rw[aE]; exact oF g2
        have e7:ltI (dot n (kG x) (K j)) (-1000000000)=true:=by rw[aE]; exact oT Z
        simp only[cF,e2,oC,e3,e4,s1,aD,e6,oD,e7]
     rw[bV,st]
  have key:=key r 0 Z (λi hi=>by omega) (2^64) Z;have key:r9 ([],zs,(zs.length:Int),0,())=some (.inl ([],4,())):=by rw[hzl]; exact key
  exact⟨[],4,by simp only[dD,aYB h x hl hx,aD,e0,Bool.not_true,oD,t1,key,I3],(λh=>by cases h),by simp⟩
end
end Go.PM
