/- Texts of one proof, joined (8). -/
import Derived.Lib.AtoiAllCases
import Derived.Test.YtbjdceodppagoaaGreatDoorQE7
set_option linter.unusedSimpArgs false
set_option linter.unusedVariables false
set_option maxRecDepth 100000
noncomputable section
namespace Go.PM
open Go Go.RowKit Go.Proofs Go.Lz
theorem SL {T}(hT:2*Lib.nDigits (T+1)<=xL){a}(h:a<=T+1):2*Lib.nDigits a<=xL:=oR (Nat.mul_le_mul_left 2 (xC h)) hT
theorem aRR {a m:Int}{T}(h:a.natAbs<=T)(hm:m≠0):(a.fdiv m).natAbs<=T+1:=by
 have h1:=aTW a m hm;have h2:1<=m.natAbs:=Z
 have h3:(a.fdiv m).natAbs*m.natAbs<=(T+1)*m.natAbs:=by
  rw[Nat.succ_mul];have:T*1<=T*m.natAbs:=Nat.mul_le_mul_left _ h2;omega
 exact Nat.le_of_mul_le_mul_right h3 Z
theorem aOU {T n}(hT:2*Lib.nDigits (T+1)<=xL){u v q}(hu:∀ x,x<n->(u x).natAbs<=T)(hv:∀ x,x<n->(v x).natAbs<=T)(hq:q.natAbs<=T+1):aQM n u v q:=by
 constructor
 ·intro i hi;have h1:=SL hT hq;have h2:=SL hT (Nat.le_succ_of_le (hv i hi));omega
 ·intro i hi;have h2:=SL hT (Nat.le_succ_of_le (hu i hi));omega
def Big(k n:Nat) (M:Nat->V) (T:Nat):Prop:=∀ i,i<k->∀ x,x<n->(M i x).natAbs<=T
theorem Big.cm {k n T M}(h:Big k n M T)(hT:2*Lib.nDigits (T+1)<=xL):Cm k n M:=λi hi x hx=>by
 have:=SL hT (Nat.le_succ_of_le (h i hi x hx));omega
section
variable {o k n d c:Nat} {m:List (Nat×Nat×Nat)} {A:List (List ByteArray)} {J:Nat->Nat} {M M0:Nat->V} {p:Nat->Nat} {T:Nat}
def rdT(M:Nat->V) (d c t:Nat):Nat->V:=λi=>if d<i/\i<d+1+t then (λx=>M i x-(M i c).fdiv (M d c)*M d x) else M i
theorem aVZ(h:lZ o k n m A J M)(hk:k<1048576)(hn:n<1048576)(f:Fo k M0 M d c p)(hd:d<k)(hcn:c<n)(hm:M d c≠0)(hB:Big k n M T)(hT:2*Lib.nDigits (T+1)<=xL)(cols:Int) :
  ∃ A' M' rest,mZ (m,cols,(d:Int),(c:Int),false,aB .i64 (d+1),A,())=some (m,cols,(d:Int),(c:Int),rest,A',())/\lZ o k n m A' J M'/\Rd k M M' d c/\Fo k M0 M' d c p/\(∀ i,i<d->M' i=M i) /\
   (rest=true->∃ i,d<i/\i<k/\M' i c≠0)/\(rest=false->∀ i,d<i->i<k->M' i c=0):=by
 have hat:∀ t i,d<i->i<d+1+t->rdT M d c t i c=(M i c).fmod (M d c):=λt i h1 h2=>by
  unfold rdT;rw[if_pos ⟨h1,h2⟩];exact aLM _ _
 have hd0:∀ t,rdT M d c t d=M d:=λt=>by unfold rdT; rw[if_neg Z]
 have:=aH1 (step:=eE) (N:=2^64) (k-(d+1))
  (λt x=>∃ A' rest,x=(m,cols,(d:Int),(c:Int),rest,((d+1+t:Nat):Int),A',())/\lZ o k n m A' J (rdT M d c t)/\Fo k M0 (rdT M d c t) d c p/\(rest=true->∃ i,d<i/\i<d+1+t/\(M i c).fmod (M d c)≠0)/\(rest=false->∀ i,d<i->i<d+1+t->(M i c).fmod (M d c)=0))
  (λz=>∃ A' rest,z=(m,cols,(d:Int),(c:Int),rest,A',())/\lZ o k n m A' J (rdT M d c (k-(d+1)))/\Fo k M0 (rdT M d c (k-(d+1))) d c p/\(rest=true->∃ i,d<i/\i<k/\(M i c).fmod (M d c)≠0)/\(rest=false->∀ i,d<i->i<k->(M i c).fmod (M d c)=0))
  Z (m,cols,(d:Int),(c:Int),false,aB .i64 ((d:Int)+1),A,()) ?_ ?_ ?_
 ·obtain⟨z,h1,A',rest,rfl,h2,h3,h4,h5⟩:=this;refine⟨A',_,rest,h1,h2,⟨hd0 _,λi g1 g2=>?_⟩,h3,λi hi=>by unfold rdT; rw[if_neg Z],λhr=>?_,λhr i g1 g2=>?_⟩
  ·unfold rdT; rw[if_pos ⟨g1,by omega⟩]
  ·obtain⟨i,g1,g2,g3⟩:=h4 hr;exact⟨i,g1,g2,by rw[hat _ i g1 Z]; exact g3⟩
  ·grind
 ·have e:rdT M d c 0=M:=by
   funext i; unfold rdT; rw[if_neg Z]
  refine⟨A,false,?_,by rw[e]; exact h,by rw[e]; exact f,λhr=>(by cases hr),λ_ i g1 g2=>by omega⟩;rw[bI d Z]
 ·rintro t x ht ⟨A',rest,rfl,hL,hF,hr1,hr2⟩;have hi:d+1+t<k:=Z
  have hMi:rdT M d c t (d+1+t)=M (d+1+t):=by unfold rdT; rw[if_neg Z]
  have e1:ltI ((d+1+t:Nat):Int) (m.length:Int)=true:=by rw[aE,h.len]; exact oT Z
  have e2:aF ((d+1+t:Nat):Int) m.length=true:=by rw[aK,h.len]; exact oT Z
  have e3:(((d+1+t:Nat):Int)).toNat=d+1+t:=oN _;have e4:Nat.blt (d+1+t) m.length=true:=by rw[bT,h.len]; simpa using hi
  have e5:aF (c:Int) n=true:=by rw[aK]; exact oT Z
  have e6:(o+((c:Nat):Int).toNat)*1=o+c:=R
  have e7:Nat.blt (o+c) (o+n)=true:=by rw[bT]; simpa using hcn
  have e8:=bI (d+1+t) Z;have e9:=hL.get hi;have e10:=hL.dE hi;have e11:=hL.dU hi hcn;rw[hMi]at e11;have f2:aF ((d:Nat):Int) m.length=true:=by rw[aK,h.len]; exact oT Z
  have f3:((d:Nat):Int).toNat=d:=oN _;have f4:Nat.blt d m.length=true:=by rw[bT,h.len]; simpa using hd
  have f9:=hL.get hd;have f10:=hL.dE hd;have f11:=hL.dU hd hcn;rw[hd0]at f11;have b1:=hB _ hi c hcn;have b2:=hB _ hd c hcn;have k1:=SL hT (Nat.le_succ_of_le b1);have k2:=SL hT (Nat.le_succ_of_le b2);have c1:=aB4 (M (d+1+t) c) (M d c) (by have:xL=400000:=rfl; omega) (by have:xL=400000:=rfl; omega) hm;obtain⟨A2,c2,c3⟩:=hL.less hn hi hd Z ((M (d+1+t) c).fdiv (M d c)) (by
   rw[hMi,hd0];exact aOU hT (hB _ hi) (hB _ hd) (aRR b1 hm))
  have hup:up (rdT M d c t) (d+1+t) (λx=>rdT M d c t (d+1+t) x-(M (d+1+t) c).fdiv (M d c)*rdT M d c t d x)=rdT M d c (t+1):=by
   funext i
   by_cases e:i=d+1+t
   ·subst e;rw[S5,hMi,hd0];unfold rdT;rw[if_pos Z]
   ·rw[I9 _ _ e];unfold rdT
    by_cases g:d<i/\i<d+1+t
    ·rw[if_pos g,if_pos Z]
    ·rw[if_neg g,if_neg Z]
  rw[hup]at c3;have hF':Fo k M0 (rdT M d c (t+1)) d c p:=by
   rw[<- hup];exact hF.less _ Z hi
  have c4:eqS (Zn ((M (d+1+t) c).fmod (M d c))) (ByteArray.mk #[48])=decide ((M (d+1+t) c).fmod (M d c)=0):=R9 _;have e8':((d+1+t+1:Nat):Int)=((d+1+(t+1):Nat):Int):=Z
  cases rest with
  | true =>
   refine⟨_,?_,A2,true,rfl,c3,hF',λ_=>?_,λhr=>(by cases hr)⟩
   ·simp only[eE,e1,e2,e3,e4,e9,e5,e6,e10,e7,e11,f2,f3,f4,f9,f10,f11,c1,c2,aD,oC,e8,e8']
   ·obtain⟨i,g1,g2,g3⟩:=hr1 rfl;exact⟨i,g1,by omega,g3⟩
  | false =>
   by_cases hz:(M (d+1+t) c).fmod (M d c)=0
   ·have c5:eqS (Zn ((M (d+1+t) c).fmod (M d c))) (ByteArray.mk #[48])=true:=by rw[c4]; exact oT hz
    refine⟨_,?_,A2,false,rfl,c3,hF',λhr=>(by cases hr),λ_ i g1 g2=>?_⟩
    ·simp only[eE,e1,e2,e3,e4,e9,e5,e6,e10,e7,e11,f2,f3,f4,f9,f10,f11,c1,c2,c5,aD,oC,oD,e8,e8',Bool.not_true]
    ·by_cases e:i=d+1+t
     ·subst e; exact hz
     ·exact hr2 rfl i g1 Z
   ·have c5:eqS (Zn ((M (d+1+t) c).fmod (M d c))) (ByteArray.mk #[48])=false:=by rw[c4]; exact oF hz
    refine⟨_,?_,A2,true,rfl,c3,hF',λ_=>⟨d+1+t,by omega,by omega,hz⟩,λhr=>(by cases hr)⟩;simp only[eE,e1,e2,e3,e4,e9,e5,e6,e10,e7,e11,f2,f3,f4,f9,f10,f11,c1,c2,c5,aD,oC,oD,e8,e8',Bool.not_false]
 ·rintro x ⟨A',rest,rfl,hL,hF,hr1,hr2⟩;have e1:ltI ((d+1+(k-(d+1)):Nat):Int) (m.length:Int)=false:=by rw[aE,h.len]; exact oF Z
  refine⟨_,?_,A',rest,rfl,hL,hF,λhr=>?_,λhr i g1 g2=>hr2 hr i g1 Z⟩
  ·simp only[eE,e1,oD]
  ·obtain⟨i,g1,g2,g3⟩:=hr1 hr;exact⟨i,g1,by omega,g3⟩
theorem aWJ {E:Nat} (h:lZ o k n m A J M) (hk:k<1048576) (hn:n<1048576) (f:Fp k M0 M d c p 0) (hcn:c<n) (hB:Big k n M T) (hE:∀ i,i<d->∀ x,x<n->(M i x).natAbs<=E) (hET:E<=T) (hT:2*Lib.nDigits (T+1)<=xL) (cols:Int) :
  ∃ A' M',dG (m,cols,(d:Int),(c:Int),(d:Int),0,A,())=some (m,cols,(d:Int),(c:Int),A',())/\lZ o k n m A' J M'/\Fp k M0 M' d c p d/\(∀ i,d<=i->M' i=M i)/\∀ i,i<d->∀ x,x<n->(M' i x).natAbs<=E+(E+1)*T:=by
 have hd:=f.dk;have:=aH1 (step:=jK) (N:=2^64) d
  (λt x=>∃ A' M',x=(m,cols,(d:Int),(c:Int),(d:Int),(t:Int),A',())/\lZ o k n m A' J M'/\Fp k M0 M' d c p t/\(∀ i,t<=i->M' i=M i)/\∀ i,i<t->∀ x,x<n->(M' i x).natAbs<=E+(E+1)*T)
  (λz=>∃ A' M',z=(m,cols,(d:Int),(c:Int),A',())/\lZ o k n m A' J M'/\Fp k M0 M' d c p d/\(∀ i,d<=i->M' i=M i)/\∀ i,i<d->∀ x,x<n->(M' i x).natAbs<=E+(E+1)*T)
  Z (m,cols,(d:Int),(c:Int),(d:Int),0,A,()) ⟨A,M,rfl,h,f,λ_ _=>rfl,λi hi=>by omega⟩ ?_ ?_
 ·obtain⟨z,h1,A',M',rfl,h2⟩:=this;exact⟨A',M',h1,h2⟩
 ·rintro t x ht ⟨A',M',rfl,hL,hF,hr1,hr2⟩;have hi:t<k:=Z
  have hMi:=hr1 t (oM _);have hMd:=hr1 d Z;have e1:ltI (t:Int) (d:Int)=true:=by rw[aE]; exact oT Z
  have e2:aF (t:Int) m.length=true:=by rw[aK,h.len]; exact oT Z
  have e3:((t:Nat):Int).toNat=t:=oN _;have e4:Nat.blt t m.length=true:=by rw[bT,h.len]; simpa using hi
  have e5:aF (c:Int) n=true:=by rw[aK]; exact oT Z
  have e6:(o+((c:Nat):Int).toNat)*1=o+c:=R
  have e7:Nat.blt (o+c) (o+n)=true:=by rw[bT]; simpa using hcn
  have e8:=bI t Z;have e9:=hL.get hi;have e10:=hL.dE hi;have e11:=hL.dU hi hcn;rw[hMi]at e11;have f2:aF ((d:Nat):Int) m.length=true:=by rw[aK,h.len]; exact oT Z
  have f3:((d:Nat):Int).toNat=d:=oN _;have f4:Nat.blt d m.length=true:=by rw[bT,h.len]; simpa using hd
  have f9:=hL.get hd;have f10:=hL.dE hd;have f11:=hL.dU hd hcn;rw[hMd]at f11;have hm:M d c≠0:=by have:=f.piv; omega
  have b0:=hE t ht c hcn;have b1:=hB _ hi c hcn;have b2:=hB _ hd c hcn;have k1:=SL hT (Nat.le_succ_of_le b1);have k2:=SL hT (Nat.le_succ_of_le b2);have c1:=aB4 (M t c) (M d c) (by have:xL=400000:=rfl; omega) (by have:xL=400000:=rfl; omega) hm;obtain⟨A2,c2,c3⟩:=hL.less hn hi hd Z ((M t c).fdiv (M d c)) (by
   rw[hMi,hMd];exact aOU hT (hB _ hi) (hB _ hd) (aRR b1 hm))
  have hF2:=hF.less ht;rw[hMi,hMd]at hF2 c3;refine⟨_,?_,A2,_,rfl,c3,hF2,λi hi2=>?_,λi hi2 x hx=>?_⟩
  ·simp only[jK,e1,e2,e3,e4,e9,e5,e6,e10,e7,e11,f2,f3,f4,f9,f10,f11,c1,c2,aD,oC,e8]
  ·rw[I9 _ _ Z]; exact hr1 i Z
  ·by_cases e:i=t
   ·subst e;rw[S5];have q1:=aRR b0 hm;have q2:((M i c).fdiv (M d c)*M d x).natAbs=((M i c).fdiv (M d c)).natAbs*(M d x).natAbs:=Int.natAbs_mul _ _;have q3:((M i c).fdiv (M d c)).natAbs*(M d x).natAbs<=(E+1)*T:=Nat.mul_le_mul q1 (hB _ hd x hx);have q4:=hE i Z x hx;omega
   ·rw[I9 _ _ e]; exact hr2 i Z x hx
 ·rintro x ⟨A',M',rfl,hL,hF,hr1,hr2⟩;have e1:ltI (d:Int) (d:Int)=false:=by rw[aE]; exact oF Z
  refine⟨_,?_,A',M',rfl,hL,hF,hr1,hr2⟩;simp only[jK,e1,oD]
end
def Wd(k n:Nat) (M:Nat->V):Prop:=∀ i,i<k->∀ x,n<=x->M i x=0
section
variable {o k n d c:Nat} {m:List (Nat×Nat×Nat)} {A:List (List ByteArray)} {J:Nat->Nat} {M M0:Nat->V} {p:Nat->Nat} {T E:Nat}
theorem Big.all (h:Big k n M T)(hw:Wd k n M):∀ i,i<k->∀ x,(M i x).natAbs<=T:=λi hi x=>by
 rcases oG x n with g|g
 ·exact h i hi x g
 ·rw[hw i hi x g]; simp
theorem pass(h:lZ o k n m A J M) (hk:k<1048576) (hn:n<1048576) (f:Fo k M0 M d c p) (hcn:c<n) (hB:Big k n M T) (hw:Wd k n M) (hE:∀ i,i<d->∀ x,x<n->(M i x).natAbs<=E) (hET:E<=T) (hT:2*Lib.nDigits (T+1)<=xL) {a:Nat} (hd:d<k) (ha:d<=a) (hak:a<k) (hm:M a c≠0)
  (cols:Int) (hfind:jO (m,cols,(d:Int),(c:Int),-1,(d:Int),A,())=some (m,cols,(d:Int),(c:Int),(a:Int),A,())) :
  ∃ m1 A' J' M',lZ o k n m1 A' J' M'/\Rd k (swp M d a) M' d c/\Fo k M0 M' d c p/\(∀ i,i<d->M' i=M i)/\Wd k n M' /\
   ((∃ i,d<i/\i<k/\M' i c≠0)->dJ (m,cols,(d:Int),(c:Int),A,())=some (.inl (m1,cols,(d:Int),(c:Int),A',()))) /\
   ((∀ i,d<i->i<k->M' i c=0)->Big k n M' T->∃ A'' M'' p',dJ (m,cols,(d:Int),(c:Int),A,())=some (.inr (m1,cols,((d+1:Nat):Int),(c:Int),A'',()))/\lZ o k n m1 A'' J' M''/\Fo k M0 M'' (d+1) (c+1) p'/\Wd k n M''/\Big k n M'' (E+(E+1)*T)):=by
 obtain⟨J',hs⟩:∃ J',lZ o k n ((m.set d (J a,o,n)).set a (J d,o,n)) A J' (swp M d a):=⟨_,h.swap hd hak⟩;have hsw:∀ i,i<k->∃ j,j<k/\swp M d a i=M j:=λi hi=>by
  unfold swp;grind
 have hBs:Big k n (swp M d a) T:=λi hi x hx=>by
  obtain⟨j,h1,h2⟩:=hsw i hi;rw[h2]; exact hB j h1 x hx
 have hws:Wd k n (swp M d a):=λi hi x hx=>by
  obtain⟨j,h1,h2⟩:=hsw i hi;rw[h2]; exact hw j h1 x hx
 have hpd:swp M d a d=M a:=by simp[swp]
 obtain⟨A',M',rest,g1,g2,g3,g4,g5,g6,g7⟩:=aVZ hs hk hn (f.swap ha hak) hd hcn (by rw[hpd]; exact hm) hBs hT cols;have hw':Wd k n M':=λi hi x hx=>by
  rcases Nat.lt_trichotomy i d with q|q|q
  ·rw[g5 i q]; exact hws i hi x hx
  ·subst q; rw[g3.1]; exact hws i hi x hx
  ·rw[g3.2 i q hi];simp only[hws i hi x hx,hws d hd x hx,Int.mul_zero,Int.sub_zero]
 have hlow:∀ i,i<d->M' i=M i:=λi hi=>by
  rw[g5 i hi];unfold swp;rw[if_neg Z,if_neg Z]
 -- what the pass begins with
 have e1:ltI (a:Int) 0=false:=by rw[aE]; exact oF Z
 have e2:aF (a:Int) m.length=true:=by rw[aK,h.len]; exact oT Z
 have e3:((a:Nat):Int).toNat=a:=oN _;have e4:Nat.blt a m.length=true:=by rw[bT,h.len]; simpa using hak
 have f2:aF (d:Int) m.length=true:=by rw[aK,h.len]; exact oT Z
 have f3:((d:Nat):Int).toNat=d:=oN _;have f4:Nat.blt d m.length=true:=by rw[bT,h.len]; simpa using hd
 have e9:=h.get hak;have f9:=h.get hd;have s1:(m.set d (J a,o,n)).length=m.length:=R
 have first:dJ (m,cols,(d:Int),(c:Int),A,()) =
   (bif rest then some (.inl ((m.set d (J a,o,n)).set a (J d,o,n),cols,(d:Int),(c:Int),A',()))
   else bif aF (d:Int) ((m.set d (J a,o,n)).set a (J d,o,n)).length then bif Nat.blt d ((m.set d (J a,o,n)).set a (J d,o,n)).length then bif aF (c:Int) (((m.set d (J a,o,n)).set a (J d,o,n)).getD d (0,0,0)).2.2 then
    bif Nat.blt (((((m.set d (J a,o,n)).set a (J d,o,n)).getD d (0,0,0)).2.1+((c:Nat):Int).toNat)*1) (dE A' (((m.set d (J a,o,n)).set a (J d,o,n)).getD d (0,0,0)).1) then
    aC (D5 ((dU A' (((m.set d (J a,o,n)).set a (J d,o,n)).getD d (0,0,0)).1 (((((m.set d (J a,o,n)).set a (J d,o,n)).getD d (0,0,0)).2.1+((c:Nat):Int).toNat)*1) ByteArray.empty),())) λy23 =>
    bif ltI y23.1 0 then
     bif aF (d:Int) ((m.set d (J a,o,n)).set a (J d,o,n)).length then bif Nat.blt d ((m.set d (J a,o,n)).set a (J d,o,n)).length then
     aC (eK () (((((m.set d (J a,o,n)).set a (J d,o,n)).getD d (0,0,0)).1,(((m.set d (J a,o,n)).set a (J d,o,n)).getD d (0,0,0)).2.1,(((m.set d (J a,o,n)).set a (J d,o,n)).getD d (0,0,0)).2.2),()) A') λy24 =>
     aC (dG ((m.set d (J a,o,n)).set a (J d,o,n),cols,(d:Int),(c:Int),(d:Int),0,y24.2,())) λz25 =>
     some (.inr ((z25.1,z25.2.1,(aB .i64 (z25.2.2.1+1)),z25.2.2.2.1,z25.2.2.2.2.1,()))) else none else none
    else aC (dG ((m.set d (J a,o,n)).set a (J d,o,n),cols,(d:Int),(c:Int),(d:Int),0,A',())) λz26 =>
    some (.inr ((z26.1,z26.2.1,(aB .i64 (z26.2.2.1+1)),z26.2.2.2.1,z26.2.2.2.2.1,()))) else none else none else none else none):=by
  simp only[dJ,hfind,aD,e1,oD,e2,e3,e4,f2,f3,f4,e9,f9,s1,oC,g1]
 refine⟨_,A',J',M',g2,g3,g4,hlow,hw',λhex=>?_,λhz hB'=>?_⟩
 ·obtain⟨i,q1,q2,q3⟩:=hex;have hr:rest=true:=by
   cases rest with
   | true=>rfl
   | false=>exact absurd (g7 rfl i q1 q2) q3
  rw[first,hr]; rfl
 ·have hr:rest=false:=by
   cases rest with
   | false=>rfl
   | true =>
    obtain⟨i,q1,q2,q3⟩:=g6 rfl;exact absurd (hz i q1 q2) q3
  have hmd:M' d c≠0:=by rw[g3.1,hpd]; exact hm
  have t1:=g2.len;have t2:aF (d:Int) k=true:=by rw[aK]; exact oT Z
  have t3:Nat.blt d k=true:=by rw[bT]; simpa using hd
  have t4:=g2.get hd;have t5:aF (c:Int) n=true:=by rw[aK]; exact oT Z
  have t6:(o+((c:Nat):Int).toNat)*1=o+c:=R
  have t7:Nat.blt (o+c) (o+n)=true:=by rw[bT]; simpa using hcn
  have t8:=g2.dE hd;have t9:=g2.dU hd hcn;have t10:=aCQ (M' d c);have t11:=bI d Z;have hE':∀ i,i<d->∀ x,x<n->(M' i x).natAbs<=E:=λi hi x hx=>by rw[hlow i hi]; exact hE i hi x hx
  have fin:∀ (A1:List (List ByteArray)) (M1:Nat->V),lZ o k n ((m.set d (J a,o,n)).set a (J d,o,n)) A1 J' M1->Fo k M0 M1 d c p->0<M1 d c->(∀ i,d<i->i<k->M1 i c=0)->Big k n M1 T->Wd k n M1->(∀ i,i<d->M1 i=M' i) ->
    ∃ A'' M'' p',dG ((m.set d (J a,o,n)).set a (J d,o,n),cols,(d:Int),(c:Int),(d:Int),0,A1,())=some ((m.set d (J a,o,n)).set a (J d,o,n),cols,(d:Int),(c:Int),A'',())/\lZ o k n ((m.set d (J a,o,n)).set a (J d,o,n)) A'' J' M''/\Fo k M0 M'' (d+1) (c+1) p'/\Wd k n M''/\Big k n M'' (E+(E+1)*T):=by
   intro A1 M1 q1 q2 q3 q4 q5 q6 q7;obtain⟨A2,M2,r1,r2,r3,r4,r5⟩:=aWJ q1 hk hn { toFo:=q2,dk:=hd,piv:=q3,below:=q4,up:=λi hi=>by omega } hcn q5 (λi hi x hx=>by rw[q7 i hi]; exact hE' i hi x hx) hET hT cols;refine⟨A2,M2,_,r1,r2,r3.done,λi hi x hx=>?_,λi hi x hx=>?_⟩
   ·rcases oG i d with g|g
    ·have hs0:Same k M0 k M2:=r3.same;have h0:∀ j,j<k->M0 j x=0:=λj hj=>Sp.aAH (M:=M1) (λl hl=>q6 l hl x hx) ((q2.same _).1 (Sp.mem hj))
     exact Sp.aAH (M:=M0) h0 ((hs0 _).2 (Sp.mem hi))
    ·rw[r4 i g]; exact q6 i hi x hx
   ·rcases oG i d with g|g
    ·exact r5 i g x hx
    ·rw[r4 i g];have:=q5 i hi x hx;have:T*1<=T*(E+1):=Nat.mul_le_mul_left _ Z;rw[Nat.mul_comm (E+1) T];omega
  by_cases hn0:M' d c<0
  ·obtain⟨A1,u1,u2⟩:=g2.neg hn hd (λx hx=>(hB'.cm hT) d hd x hx);have l1:up M' d (λx=>-(M' d x)) d c = -(M' d c):=by rw[S5]
   obtain⟨A2,M2,p2,r1,r2,r3,r4,r5⟩:=fin A1 _ u2 (g4.neg hd) (by rw[l1]; omega) (λi q1 q2=>by rw[I9 _ _ Z]; exact hz i q1 q2)
    (λi hi x hx=>by
     by_cases e:i=d
     ·subst e; rw[S5,Int.natAbs_neg]; exact hB' i hi x hx
     ·rw[I9 _ _ e]; exact hB' i hi x hx)
    (λi hi x hx=>by
     by_cases e:i=d
     ·subst e; rw[S5,hw' i hi x hx]; rfl
     ·rw[I9 _ _ e]; exact hw' i hi x hx)
    (λi hi=>I9 _ _ Z)
   refine⟨A2,M2,p2,?_,r2,r3,r4,r5⟩;have s2:ltI (M' d c).sign 0=true:=by rw[aE,Int.sign_eq_neg_one_of_neg hn0]; rfl
   rw[first,hr];simp only[oD,t1,t2,t3,t4,t5,t6,t7,t8,t9,t10,aD,oC,s2,u1,r1,t11]
  ·obtain⟨A2,M2,p2,r1,r2,r3,r4,r5⟩:=fin A' _ g2 g4 Z hz hB' hw' (λ_ _=>rfl);refine⟨A2,M2,p2,?_,r2,r3,r4,r5⟩;have s2:ltI (M' d c).sign 0=false:=by rw[aE,Int.sign_eq_one_of_pos Z]; rfl
   rw[first,hr];simp only[oD,t1,t2,t3,t4,t5,t6,t7,t8,t9,t10,aD,oC,s2,r1,t11]
end
structure St (k n d E T:Nat):Prop where
 e1:1<=E
 et:E<=T
 eu:d+1<k->9*E^5<=T
 fit:2*Lib.nDigits (T+1)<=xL
def bB8(o k n d c:Nat) (M0:Nat->V) (cols:Int) (E T:Nat) (z:List (Nat×Nat×Nat)×Int×Int×Int×List (List ByteArray)×Unit):Prop :=
 ∃ m' A' J' M' d' p',z=(m',cols,((d':Nat):Int),(c:Int),A',())/\lZ o k n m' A' J' M'/\Fo k M0 M' d' (c+1) p'/\Wd k n M'/\((d'=d/\Big k n M' E)\/(d'=d+1/\Big k n M' (E+(E+1)*T)))
section
variable {o k n d c:Nat} {m:List (Nat×Nat×Nat)} {A:List (List ByteArray)} {J:Nat->Nat} {M M0:Nat->V} {p:Nat->Nat} {T E:Nat}
theorem a4Z {a g}(h:a<10^g):a<2^(4*g):=by
 refine Nat.lt_of_lt_of_le h ?_;rw[Nat.pow_mul];exact Nat.pow_le_pow_left R g
theorem rounds(hk:k<1048576) (hn:n<1048576) (hcn:c<n) (hT:2*Lib.nDigits (T+1)<=xL) (hET:E<=T) {C:Nat} (hC:3*C<=T) (cols:Int):∀ (R N P:Nat) {m:List (Nat×Nat×Nat)} {A:List (List ByteArray)} {J:Nat->Nat} {M:Nat->V},
  lZ o k n m A J M->Fo k M0 M d c p->Wd k n M->(∀ i,i<d->∀ x,x<n->(M i x).natAbs<=E)->Bt k M d c C->Pt k M d c P->P<2^R->R<N->∃ z,aX dJ N (m,cols,(d:Int),(c:Int),A,())=some z/\bB8 o k n d c M0 cols E T z
 | 0,N,P,m,A,J,M,h,f,hw,hE,hB,hP,hlt,_=>by
  obtain⟨i,w1,w2,w3,w4⟩:=hP;have:=hB.piv;have h1:1*1<=(M d c).natAbs*(M i c).natAbs:=Nat.mul_le_mul Z Z;grind
 | R+1,N+1,P,m,A,J,M,h,f,hw,hE,hB,hP,hlt,hN=>by
  obtain⟨E1,b1,i0,b2,b3,b4,b5⟩:=hB.ex;have hdk:=hB.dk;have hmp:=hB.piv;have hE1:E1<=C:=by
   have h1:E1*1<=E1*((M d c).natAbs^3*(M i0 c).natAbs):=Nat.mul_le_mul_left _ (Nat.mul_pos (Nat.pow_pos Z) Z);grind
  have hBig:Big k n M T:=λi hi x hx=>by
   rcases oG i d with g|g
   ·grind
   ·have:=(b1 i g hi).1 x;omega
  obtain⟨r,f1,f2⟩:=aUM h hk (hBig.cm hT) hcn (Nat.le_of_lt hdk) cols;cases r with
  | none=>exact absurd (f2.none rfl d (oM _) Z) hmp
  | some a =>
   obtain⟨q1,q2,q3,q4⟩:=f2.some a rfl;have hak:a<k:=Z
   have hmin:∀ i,d<=i->i<k->M i c≠0->(M a c).natAbs<=(M i c).natAbs:=λi g1 g2 g3=>q4 i g1 Z g3
   obtain⟨m1,A',J',M',s1,s2,s3,s4,s5,s6,s7⟩:=pass h hk hn f hcn hBig hw hE hET hT hdk q1 hak q3 cols f1;have hE':∀ i,i<d->∀ x,x<n->(M' i x).natAbs<=E:=λi hi x hx=>by rw[s4 i hi]; exact hE i hi x hx
   by_cases hz:∀ i,d<i->i<k->M' i c=0
   ·rcases hB.round q1 hak q3 hmin s2 with ⟨_,A1,g1⟩|⟨g1,_⟩
    ·have hBig':Big k n M' T:=λi hi x hx=>by
      rcases oG i d with g|g
      ·grind
      ·exact oR ((g1 i g hi).1 x) hC
     obtain⟨A2,M2,p2,u1,u2,u3,u4,u5⟩:=s7 hz hBig';exact⟨_,by rw[cM,u1],m1,A2,J',M2,d+1,p2,rfl,u2,u3,u4,.inr ⟨rfl,u5⟩⟩
    ·obtain⟨_,_,i,z1,z2,z3,_⟩:=g1.ex;grind
   ·have hex:∃ i,d<i/\i<k/\M' i c≠0:=by
     obtain⟨i,hi⟩:=Classical.not_forall.1 hz;obtain⟨g1,hi⟩:=Classical.not_forall.1 hi;obtain⟨g2,g3⟩:=Classical.not_forall.1 hi;exact⟨i,g1,g2,g3⟩
    rcases hB.round q1 hak q3 hmin s2 with ⟨g0,_⟩|⟨g1,_⟩
    ·exact absurd g0 hz
    ·have hP':=hB.half q1 hak q3 hmin s2 hz hP;obtain⟨z,v1,v2⟩:=rounds hk hn hcn hT hET hC cols R N (P/2) s1 s3 s5 hE' g1 hP' (by rw[Nat.pow_succ]at hlt; omega) Z;exact⟨z,by rw[cM,s6 hex]; exact v1,v2⟩
theorem column(hk:k<1048576) (hn:n<1048576) (h:lZ o k n m A J M) (f:Fo k M0 M d c p) (hw:Wd k n M) (hd:d<k) (hcn:c<n) (hE:Big k n M E) (st:St k n d E T) (cols:Int) :
  ∃ z,jJ (m,cols,(d:Int),(c:Int),A,())=some z/\bB8 o k n d c M0 cols E T z:=by
 have hBig:Big k n M T:=λi hi x hx=>oR (hE i hi x hx) st.et
 have hEl:∀ i,i<d->∀ x,x<n->(M i x).natAbs<=E:=λi hi x hx=>hE i Z x hx
 obtain⟨r,f1,f2⟩:=aUM h hk (hBig.cm st.fit) hcn (Nat.le_of_lt hd) cols;unfold jJ;obtain⟨N,hN⟩:∃ N,2^64=N+1:=⟨2^64-1,by omega⟩;rw[hN];cases r with
 | none =>
  have e1:ltI (atv none) 0=true:=O
  refine⟨_,?_,m,A,J,M,d,p,rfl,h,f.skip λi h1 h2=>f2.none rfl i h1 Z,hw,.inl ⟨rfl,hE⟩⟩;rw[cM];simp only[dJ,f1,aD,e1,oC]
 | some a =>
  obtain⟨q1,q2,q3,q4⟩:=f2.some a rfl;have hak:a<k:=Z
  obtain⟨m1,A',J',M',s1,s2,s3,s4,s5,s6,s7⟩:=pass h hk hn f hcn hBig hw hEl st.et st.fit hd q1 hak q3 cols f1;have hE':∀ i,i<d->∀ x,x<n->(M' i x).natAbs<=E:=λi hi x hx=>by rw[s4 i hi]; exact hEl i hi x hx
  have hWi:Wi k (swp M d a) d c E E:=(show Wi k M d c E E from λi g1 g2=>⟨λx=>hE.all hw i g2 x,hE.all hw i g2 c⟩).swap q1 hak;have hpd:swp M d a d=M a:=by simp[swp]
  have hfirst:=s2.first hWi hd (by rw[hpd]; exact q3);have hpow:3*(3*(E*E)*E^3)=9*E^5:=W
  by_cases hdk:d+1<k
  ·have h9:=st.eu hdk;rcases hfirst with ⟨hz,g1⟩|g1
   ·have hBig':Big k n M' T:=λi hi x hx=>by
     rcases oG i d with g|g
     ·exact oR (hE' i g x hx) st.et
     ·have:=(g1 i g hi).1 x;have h3:3*(E*E)*1<=3*(E*E)*E^3:=Nat.mul_le_mul_left _ (Nat.pow_pos st.e1);omega
    obtain⟨A2,M2,p2,u1,u2,u3,u4,u5⟩:=s7 hz hBig';exact⟨_,by rw[cM,u1],m1,A2,J',M2,d+1,p2,rfl,u2,u3,u4,.inr ⟨rfl,u5⟩⟩
   ·obtain⟨E1,b1,i0,b2,b3,b4,b5⟩:=g1.ex;have hPt:Pt k M' d c (T*T):=by
     refine⟨i0,b2,b3,b4,Nat.mul_le_mul ?_ ?_⟩
     ·rw[s2.1,hpd]; exact hBig a hak c hcn
     ·have h1:=(g1.sign i0 b2 b3).1;rw[s2.1,hpd]at h1;exact oR (Nat.le_of_lt h1) (hBig a hak c hcn)
    have hT2:T*T<2^(8*Lib.nDigits (T+1)):=by
     have h1:=a4Z (jX (T+1));have h2:(T+1)*(T+1)<2^(4*Lib.nDigits (T+1))*2^(4*Lib.nDigits (T+1)):=Nat.mul_lt_mul'' h1 h1;rw[<- Nat.pow_add]at h2;have h3:4*Lib.nDigits (T+1)+4*Lib.nDigits (T+1)=8*Lib.nDigits (T+1):=Z
     rw[h3]at h2;have h4:T*T<=(T+1)*(T+1):=Nat.mul_le_mul Z Z;omega
    have hex:∃ i,d<i/\i<k/\M' i c≠0:=⟨i0,b2,b3,b4⟩;obtain⟨z,v1,v2⟩:=rounds hk hn hcn st.fit st.et (C:=3*(E*E)*E^3) Z cols (8*Lib.nDigits (T+1)) N (T*T) s1 s3 s5 hE' g1 hPt hT2 (by have:=st.fit; have:xL=400000:=rfl; omega);exact⟨z,by rw[cM,s6 hex]; exact v1,v2⟩
  ·have hz:∀ i,d<i->i<k->M' i c=0:=λi g1 g2=>Z
   have hBig':Big k n M' T:=λi hi x hx=>by
    rcases oG i d with g|g
    ·exact oR (hE' i g x hx) st.et
    ·have:i=d:=Z
     subst this;rw[s2.1,hpd];exact hBig a hak x hx
   obtain⟨A2,M2,p2,u1,u2,u3,u4,u5⟩:=s7 hz hBig';exact⟨_,by rw[cM,u1],m1,A2,J',M2,d+1,p2,rfl,u2,u3,u4,.inr ⟨rfl,u5⟩⟩
structure Bds (k n:Nat) (E T:Nat->Nat):Prop where
 st:∀ d,d<k->d<n->St k n d (E d) (T d)
 up:∀ d,d<k->d<n->E d+(E d+1)*T d<=E (d+1)
theorem a99 {d t p M'}(h:Fo k M M' d t p):d<=t:=by
 have:∀ i,i<d->i<=p i:=by
  intro i
  induction i with
  | zero=>simp
  | succ i ih=>intro hi; have:=h.inc i (i+1) R hi; omega
 rcases Nat.eq_zero_or_pos d with h0|h0
 ·omega
 ·have:=this (d-1) Z; have:=h.lt (d-1) Z; omega
theorem aJZ {E T:Nat->Nat} (hk:k<1048576) (hn:n<1048576) (h:lZ o k n m A J M) (hw:Wd k n M) (hE:Big k n M (E 0)) (hb:Bds k n E T) :
  ∃ m' A' J' M' d p,eA m ((n:Int),()) A=some (m'.take d,A')/\d<=k/\lZ o k n m' A' J' M'/\Hn d M' p/\Same k M d M'/\Wd k n M'/\Big k n M' (E d):=by
 have fin:∀ (N:Nat) {m':List (Nat×Nat×Nat)} {A':List (List ByteArray)} {J':Nat->Nat} {M':Nat->V} {d t:Nat} {p:Nat->Nat},t<=n->n-t<N->lZ o k n m' A' J' M'->Fo k M M' d t p->Wd k n M'->Big k n M' (E d) ->
   ∃ z,aX eF N (m',(n:Int),(d:Int),(t:Int),A',())=some z/\∃ (m':List (Nat×Nat×Nat)) (A':List (List ByteArray)) (J':Nat->Nat) (M':Nat->V) (d:Nat) (p:Nat->Nat),z=(m',(d:Int),A',())/\lZ o k n m' A' J' M'/\(d<=k/\Hn d M' p/\Same k M d M')/\Wd k n M'/\Big k n M' (E d):=by
  intro N
  induction N with
  | zero=>intro m' A' J' M' d t p h1 h2; omega
  | succ N ih =>
   intro m' A' J' M' d t p h1 h2 hL hF hW hB;rw[cM];rcases oG t n with ht|ht
   ·have e1:ltI (t:Int) (n:Int)=true:=by rw[aE]; exact oT Z
    rcases oG d k with hd|hd
    ·have e2:ltI (d:Int) (m'.length:Int)=true:=by rw[aE,hL.len]; exact oT Z
     obtain⟨z,z1,m2,A2,J2,M2,d2,p2,rfl,y1,y2,y3,y4⟩:=column hk hn hL hF hW hd ht hB (hb.st d hd (Nat.lt_of_le_of_lt (a99 hF) ht)) (n:Int);have e3:=bI t Z;have hs:eF (m',(n:Int),(d:Int),(t:Int),A',())=some (.inl (m2,(n:Int),(d2:Int),((t+1:Nat):Int),A2,())):=by simp only[eF,e1,e2,oC,z1,aD,e3]
     rw[hs];refine ih Z Z y1 y2 y3 ?_;rcases y4 with ⟨rfl,y4⟩|⟨rfl,y4⟩
     ·exact y4
     ·exact λi hi x hx=>oR (y4 i hi x hx) (hb.up d hd (Nat.lt_of_le_of_lt (a99 hF) ht))
    ·have hdk:d=k:=by have:=hF.le; omega
     have e2:ltI (d:Int) (m'.length:Int)=false:=by rw[aE,hL.len]; exact oF Z
     refine⟨_,by simp only[eF,e1,e2,oC,oD],m',A',J',M',d,p,rfl,hL,⟨hF.le,hF.hn (.inl hdk)⟩,hW,hB⟩
   ·have htn:t=n:=Z
    subst htn;have e1:ltI (t:Int) (t:Int)=false:=by rw[aE]; exact oF Z
    refine⟨_,by simp only[eF,e1,oD],m',A',J',M',d,p,rfl,hL,⟨hF.le,hF.hn (.inr λi hi x hx=>hW i hi x hx)⟩,hW,hB⟩
 obtain⟨z,z1,m',A',J',M',d,p,rfl,y1,⟨y2,y3,y4⟩,y5,y6⟩:=fin (2^64) (Nat.zero_le n) Z h (Fo.start k M) hw hE;refine⟨m',A',J',M',d,p,?_,y2,y1,y3,y4,y5,y6⟩;have z2:nA (m,(n:Int),0,0,A,())=some (m',(d:Int),A',()):=z1;have e4:ltI (d:Int) 0=false:=by rw[aE]; exact oF Z
 have e5:((d:Nat):Int).toNat=d:=oN _;have hl:=y1.len;unfold eA;simp only[z2,aD,hl,e4,e5,Bool.not_false,oC]
 by_cases hk0:k=0
 ·have hd0:d=0:=Z
  subst hk0; subst hd0;have:m'=[]:=List.eq_nil_of_length_eq_zero hl;subst this;rfl
 ·have e6:Nat.beq k 0=false:=by
   cases k with
   | zero=>exact absurd rfl hk0
   | succ k=>rfl
  have e7:Nat.ble 0 d=true:=rfl;have e8:Nat.ble d k=true:=by rw[dF]; simpa using y2
  have e9:Nat.blt 0 k=true:=by rw[bT]; simp; omega
  simp only[e6,e7,e8,e9,oC,oD,Nat.sub_zero]
end
end Go.PM
namespace Go.PM
open Go Go.RowKit Go.Proofs Tryz
set_option maxHeartbeats 4000000
def VE(x:aM [.int .i64]):oK [.bool]:=match x with
 | (v0,()) =>
  bif !(ltI v0 (-1000000000)) then
   some (!(ltI 1000000000 v0),())
  else some (false,())
abbrev a07:Ent:=⟨78,_,_,VE⟩
theorem aP5:Ent.OK tP a07:=oI (aP oW) func78 Y (by rintro⟨v0,⟨⟩⟩; kernel_rfl)
def I2(x:aM [.int .i64]):oK [.bool]:=match x with
 | (v0,()) =>
  aC (VE (v0,())) λy1 =>
  bif y1.1 then
   some (false,())
  else some (true,())
abbrev aSC:Ent:=⟨77,_,_,I2⟩
theorem aI2:Ent.OK tP aSC:=oI (aP (oV aP5 oW)) func77 Y (by rintro⟨v0,⟨⟩⟩; kernel_rfl)
abbrev o8:List (Nat×Kd):=[(0,.list TyE),(1,.fn 77),(7,.int .i64),(8,.int .i64)]
abbrev vT:List (Ex×List (Nat×Kd)):=[(.ret,[(4,.int .i64)]),(.exit 0,[])]
def bR(x:Shape.den o8):oS o8 vT:=match x with
 | (v0,v1,v7,v8,()) =>
  bif ltI v8 v7 then
   bif aF v8 v0.length then aC (I2 ((v0.getD v8.toNat 0),())) λy2 =>
   bif y2.1 then
    some (.inr (.inl (v8,())))
   else some (.inl (v0,(),v7,(aB .i64 (v8+1)),())) else none
  else some (.inr (.inr ((()))))
def iL(x:Shape.den o8):oX vT:=aX bR (2^64) x
def iG(x:aM [.list TyE,.fn 77]):oK [.int .i64]:=match x with
 | (v0,v1,()) =>
  aC (iL (v0,(),(v0.length:Int),0,())) λz3 =>
  mH z3 (λa4=>some (a4.1,())) λb5 =>
  some ((-1),())
abbrev K5:Ent:=⟨110,_,_,iG⟩
theorem HZ:Ent.OK tP K5:=oU (aP (oV aI2 oW)) func110 2 (lp:=iL) rfl Y (by rintro⟨v0,v1,v7,v8,⟨⟩⟩; kernel_rfl) (by rintro⟨v0,v1,⟨⟩⟩; kernel_rfl)
def jS(x:aM [.list TyE,.fn 77]):oK [.bool]:=match x with
 | (v0,v1,()) =>
  aC (iG (v0,(),())) λy1 =>
  some (!(ltI y1.1 0),())
abbrev H7:Ent:=⟨76,_,_,jS⟩
theorem FA:Ent.OK tP H7:=oI (aP (oV HZ oW)) func76 Y (by rintro⟨v0,v1,⟨⟩⟩; kernel_rfl)
def uU(x:aM [.list TyE]):oK [.int .i64]:=match x with
 | (v0,()) =>
  bif ltI 64 (v0.length:Int) then
   some (4,())
  else aC (jS (v0,(),())) λy1 =>
  bif y1.1 then
   some (4,())
  else some (0,())
abbrev aWO:Ent:=⟨43,_,_,uU⟩
theorem FV:Ent.OK tP aWO:=oI (aP (oV FA oW)) func43 Y (by rintro⟨v0,⟨⟩⟩; kernel_rfl)
abbrev K8:List (Nat×Kd):=[(1,.int .i64),(8,.list TyD),(9,.int .i64),(10,.int .i64)]
abbrev VC:List (Ex×List (Nat×Kd)):=[(.ret,[(4,.int .i64)]),(.exit 0,[])]
def lK(x:Shape.den K8):oS K8 VC:=match x with
 | (v1,v8,v9,v10,()) =>
  bif ltI v10 v9 then
   bif aF v10 v8.length then aC (uU ((v8.getD v10.toNat []),())) λy2 =>
   bif !(eqI y2.1 0) then
    some (.inr (.inl (y2.1,())))
   else bif !(eqI ((v8.getD v10.toNat []).length:Int) v1) then
    some (.inr (.inl (5,())))
   else some (.inl (v1,v8,v9,(aB .i64 (v10+1)),())) else none
  else some (.inr (.inr ((()))))
def AZ(x:Shape.den K8):oX VC:=aX lK (2^64) x
def xB(x:aM [.list TyD,.int .i64]):oK [.int .i64]:=match x with
 | (v0,v1,()) =>
  aC (AZ (v1,v0,(v0.length:Int),0,())) λz3 =>
  mH z3 (λa4=>some (a4.1,())) λb5 =>
  some (0,())
abbrev aN2:Ent:=⟨72,_,_,xB⟩
theorem UU:Ent.OK tP aN2:=oU (aP (oV FV oW)) func72 2 (lp:=AZ) rfl Y (by rintro⟨v1,v8,v9,v10,⟨⟩⟩; kernel_rfl) (by rintro⟨v0,v1,⟨⟩⟩; kernel_rfl)
def DG(x:aM [.int .i64,.list TyD]):oK [.int .i64]:=match x with
 | (v0,v1,()) =>
  bif ltI v0 0 then
   some (3,())
  else bif ltI 12 v0 then
   some (3,())
  else bif ltI 12 (v1.length:Int) then
   some (4,())
  else aC (xB (v1,v0,())) λy1 =>
  some (y1.1,())
abbrev YO:Ent:=⟨82,_,_,DG⟩
theorem SH:Ent.OK tP YO:=oI (aP (oV UU oW)) func82 Y (by rintro⟨v0,v1,⟨⟩⟩; kernel_rfl)
abbrev iH:List (Nat×Kd):=[(4,.bag 94 TyE 39 TyD none),(6,.bag 94 TyE 39 TyD none),(13,.own 152 (.hnd 1)),(14,.int .i64),(15,.int .i64),(100000,.ar 74 .str)]
abbrev kX:List (Ex×List (Nat×Kd)):=[(.ret,[(4,.bag 94 TyE 39 TyD none),(5,.int .i64),(100000,.ar 74 .str)]),(.exit 0,[(4,.bag 94 TyE 39 TyD none),(6,.bag 94 TyE 39 TyD none),(100000,.ar 74 .str)])]
def fS(x:Shape.den iH):oS iH kX:=match x with
 | (v4,v6,v13,v14,v15,u00,()) =>
  bif ltI v15 v14 then
   bif aF v15 v13.length then bif Nat.blt v15.toNat v13.length then aC (j5 () (((v13.getD v15.toNat (0,0,0)).1,(v13.getD v15.toNat (0,0,0)).2.1,(v13.getD v15.toNat (0,0,0)).2.2),()) u00) λy2 =>
   bif !(eqI y2.1.2.1 0) then
    some (.inr (.inl ((0,([],())),y2.1.2.1,y2.2,())))
   else bif Nat.ble [y2.1.1].length 1048576 then bif Nat.ble v6.2.1.length 1048576 then some (.inl ((v4.1,(v4.2.1,())),(v6.1,((v6.2.1++[y2.1.1]),())),v13,v14,(aB .i64 (v15+1)),y2.2,())) else none else none else none else none
  else some (.inr (.inr (((v4.1,(v4.2.1,())),(v6.1,(v6.2.1,())),u00,()))))
def nE(x:Shape.den iH):oX kX:=aX fS (2^64) x
def eB(v0:List (Nat×Nat×Nat))(x:aM [.int .i64])(A:List (List ByteArray)):Option ((aM [.agg TyH,.int .i64])×List (List ByteArray)):=match x with
 | (v1,()) =>
  aC (nE ((0,([],())),(v1,([],())),v0,(v0.length:Int),0,A,())) λz3 =>
  mH z3 (λa4=>some (((a4.1.1,a4.1.2.1),a4.2.1,()),a4.2.2.1)) λb5 =>
  some (((b5.2.1.1,b5.2.1.2.1),0,()),b5.2.2.1)
def sY:Code:=dN f86
abbrev yU:Env:=PI [] [JT]
theorem DM:fX tP yU:=pN trivial ⟨T9,trivial⟩
def vX:Code:=inLoop (aS6 sY 0)
def xT(id:Nat):Option eY:=bif Nat.beq id 3 then some ⟨iH,kX,nE⟩ else none
def xJ(id:Nat):Option eY:=none
theorem MK:∀ x,aXG tP yU 36 (U2 f86) xT xJ false [] vX iH kX x=fS x:=by
 rintro⟨v4,v6,v13,v14,v15,u00,⟨⟩⟩
 kernel_rfl
theorem NJ:UN tP 36 false [] (.loop vX) ⟨iH,kX,nE⟩:=aUO DM.callee bH.mixed _ (OW (l:=[]) Y trivial) MK
theorem OV:pX sY=[.loop vX]:=Y
theorem Q8:∀ l x A,aX3 tP yU f86 (U2 f86) xT xJ sY 74 .str (.own 152 (.hnd 1)) [.int .i64] (.data [.agg TyH,.int .i64]) l x A=eB l x A:=by
 rintro u0 ⟨v1,⟨⟩⟩ A
 kernel_rfl
theorem TN:N2 tP 86 74 .str (.own 152 (.hnd 1)) [.int .i64] (.data [.agg TyH,.int .i64]) eB:=a9C bH DM func86 (c:=sY) Y (keep:=U2 f86) (lt:=xT) (rt:=xJ) (by rfl) (OW OV ⟨aTX (i:=3) Y rfl NJ,trivial⟩) Q8
abbrev sQ:Shr:=(86,TD 1 (arH 74 .str (.own 152 (.hnd 1)) [.int .i64] (.data [.agg TyH,.int .i64]) eB))
theorem vA:qU tP sQ:=sR (g:=86) (f:=arH 74 .str (.own 152 (.hnd 1)) [.int .i64] (.data [.agg TyH,.int .i64]) eB) (C5 TN)
def HR(x:aM [.int .i64,.list TyD]):oK [.agg TyH,.int .i64]:=match x with
 | (v0,v1,()) =>
  aC (DG (v0,v1,())) λy1 =>
  bif !(eqI y1.1 0) then
   some ((0,[]),y1.1,())
  else aC (fH () (v1,()) []) λy2 =>
  aC (eA y2.1 (v0,()) y2.2) λy3 =>
  aC (eB y3.1 (v0,()) y3.2) λy4 =>
  some (y4.1.1,y4.1.2.1,())
def Z6:Code:=dN f64
abbrev aIE:Env:=PI [YO] [yO,sU,sQ]
theorem aL1:fX tP aIE:=pN ⟨SH,trivial⟩ ⟨BH,vF,vA,trivial⟩
def aGD(id:Nat):Option eY:=none
theorem aJF:bA Z6=[]:=Y
theorem aKY:∀ x,aH9 tP aIE f64 (aQ f64) aGD Z6 74 .str _ _ x=HR x:=by
 rintro⟨v0,v1,⟨⟩⟩
 kernel_rfl
abbrev aUZ:Ent:=⟨64,_,_,HR⟩
theorem aL4:Ent.OK tP aUZ:=aMX bH aL1 func64 (c:=Z6) Y (keep:=aQ f64) (lt:=aGD) (aT aJF trivial) aKY
end Go.PM
namespace Go.PM
open Go Go.RowKit Go.Proofs Go.Lz
def lE(r:List Int):V:=λx=>r.getD x 0
def aAE(m:List (List Int)):Nat->V:=λi=>lE (m.getD i [])
def Vr(n:Nat) (v:V):List Int:=(List.range n).map v
theorem a8A r:Zr r.length (lE r)=r.map Zn:=by
 refine List.ext_getElem? λi=>?_
 simp only[Zr]
 by_cases h:i<r.length
 ·simp[lE,h]
 grind
theorem a8X {n v}(hw:∀ x,n<=x->v x=0):lE (Vr n v)=v:=by
 unfold lE Vr;grind
theorem aH5 n (h:Lib.nDigits n.natAbs<=18):nC (Zn n,())=some (n,true,()):=by
 have hs:(Zn n).size<=1000000000:=by
  rcases(by omega:n<0\/0<=n)with g|g
  ·rw[C7 g]; omega
  ·rw[ND g,CQ]; omega
 have e1:Nat.ble (Zn n).size 1000000000=true:=by rw[dF]; simpa using hs
 have e4:Lib.parseIntB 64 (Zn n).data.toList=.ok n:=by
  have hne:∀ c r,Lib.decDigits n.natAbs=c::r->c.toNat≠43/\c.toNat≠45:=λc r he=>by
   have:=F3 n.natAbs c (by rw[he]; simp);omega
  have hmag:=aHL n.natAbs;rw[wZ]at hmag;have hlen:(Lib.decDigits n.natAbs).length<=18:=by rw[Lib.decDigits_length]; exact h
  rw[Lib.parseIntB_64];rcases(by omega:n<0\/0<=n)with g|g
  ·have hn : -(n.natAbs:Int)=n:=Z
   rw[TQ g,Lib.atoiAll_minus,Lib.signed_short hlen,hmag];simp only[Option.map_some,hn];rfl
  ·have hn:(n.natAbs:Int)=n:=Z
   rw[ND g,wZ];cases he:Lib.decDigits n.natAbs with
   | nil=>exact absurd he (EV _)
   | cons c r =>
    obtain⟨h1,h2⟩:=hne c r he;rw[Lib.atoiAll_plain c r h1 h2,<- he,Lib.signless_short hlen,hmag];simp only[Option.map_some,hn];rfl
 unfold nC;grind
theorem aT7(r:List Int)(hl:r.length<=1048576)(hr:∀ a∈r,-9223372036854775808<=a/\a<9223372036854775808) :
  vK ([],r,(r.length:Int),0,())=some (r.map Zn,()):=by
 have key:=bL (step:=qM) (N:=2^64) (λt=>((r.take t).map Zn,r,(r.length:Int),(t:Int),())) r.length (r.map Zn,()) Z (λt ht=>?_) ?_
 ·exact key
 ·have e1:ltI (t:Int) (r.length:Int)=true:=by rw[aE]; exact oT Z
  have e2:aF (t:Int) r.length=true:=by rw[aK]; exact oT Z
  have e3:((t:Nat):Int).toNat=t:=oN _;have e4:r.getD t 0=r[t]:=by simp[List.getD,ht]
  obtain⟨b1,b2⟩:=hr r[t] (List.getElem_mem ht);have e5:=uW r[t] b1 b2;have e6:Nat.ble [Zn r[t]].length 1048576=true:=rfl;have e7:Nat.ble ((r.take t).map Zn).length 1048576=true:=by rw[dF,List.length_map,List.length_take]; exact oT Z
  have e8:=bI t Z;have e9:(r.take t).map Zn++[Zn r[t]]=(r.take (t+1)).map Zn:=by rw[List.take_succ_eq_append_getElem ht,List.map_append]; rfl
  simp only[qM,e1,e2,e3,e4,e5,aD,e6,e7,oC,e8,e9]
 ·have e1:ltI (r.length:Int) (r.length:Int)=false:=by rw[aE]; exact oF Z
  simp only[qM,e1,oD,List.take_length]
theorem aPT(r:List Int)(hl:r.length<=1048576)(hr:∀ a∈r,-9223372036854775808<=a/\a<9223372036854775808):rD (r,())=some (r.map Zn):=by
 have e1:ltI r.length 0=false:=by rfl
 have e2:ltI 1048576 r.length=false:=by rw[aE]; grind
 unfold rD;simp only[e1,e2,Bool.not_false,oC,List.replicate_zero,aT7 r hl hr,aD]
theorem aM5(rows:List (List Int)) {n:Nat} (hk:rows.length<1048576) (hn:n<1048576) (hlen:∀ r∈rows,r.length=n) (hr:∀ r∈rows,∀ a∈r,-9223372036854775808<=a/\a<9223372036854775808) :
  ∃ m A,fH () (rows,()) []=some (m,A)/\lZ 0 rows.length n m A (λi=>i) (aAE rows):=by
 have key:=bL (step:=jW) (N:=2^64)
  (λt=>((List.range t).map (λi=>(i,0,n)),rows,(rows.length:Int),(t:Int),(rows.take t).map (·.map Zn),())) rows.length ((List.range rows.length).map (λi=>(i,0,n)),rows.map (·.map Zn),()) Z (λt ht=>?_) ?_
 ·refine⟨(List.range rows.length).map (λi=>(i,0,n)),rows.map (·.map Zn),?_,rfl,λi hi=>⟨[],rfl,?_⟩,λi j _ _ h=>h⟩
  ·unfold fH rU;have key:aX jW (2^64) ([],rows,(rows.length:Int),0,[],())=_:=key;simp only[key,aD]
  ·rw[List.getElem?_map,List.getElem?_eq_getElem hi];simp only[Option.map_some,List.nil_append];have h1:aAE rows i=lE rows[i]:=by unfold aAE; simp[List.getD,hi]
   rw[h1,<- a8A,hlen rows[i] (List.getElem_mem hi)]
 ·have e1:ltI (t:Int) (rows.length:Int)=true:=by rw[aE]; exact oT Z
  have e2:aF (t:Int) rows.length=true:=by rw[aK]; exact oT Z
  have e3:((t:Nat):Int).toNat=t:=oN _;have e4:rows.getD t []=rows[t]:=by simp[List.getD,ht]
  have hm:=List.getElem_mem ht;have e5:=aPT rows[t] (by rw[hlen _ hm]; omega) (hr _ hm);have e6:((rows.take t).map (·.map Zn)).length=t:=by rw[List.length_map,List.length_take]; omega
  have e7:Nat.ble [(t,0,n)].length 1048576=true:=rfl;have e8:Nat.ble ((List.range t).map (λi=>(i,0,n))).length 1048576=true:=by rw[dF,List.length_map,List.length_range]; exact oT Z
  have e9:=bI t Z;have e10:(rows[t].map Zn).length=n:=by rw[List.length_map,hlen _ hm]
  have e11:(rows.take t).map (·.map Zn)++[rows[t].map Zn]=(rows.take (t+1)).map (·.map Zn):=by rw[List.take_succ_eq_append_getElem ht,List.map_append]; rfl
  have e12:(List.range t).map (λi=>(i,0,n))++[(t,0,n)]=(List.range (t+1)).map (λi=>(i,0,n)):=by rw[List.range_succ,List.map_append]; rfl
  simp only[jW,e1,e2,e3,e4,e5,aD,e6,e7,e8,e9,e10,e11,e12,oC]
 ·have e1:ltI (rows.length:Int) (rows.length:Int)=false:=by rw[aE]; exact oF Z
  simp only[jW,e1,oD,List.take_length]
theorem a19 {A:List (List ByteArray)} {J o n:Nat} {v:V} {pre:List ByteArray} (hn:n<1048576) (hp:pre.length=o) (hJ:A[J]?=some (pre++Zr n v)) (ok:∀ x,x<n->(v x).natAbs<=1000000000) :
  j5 () ((J,o,n),()) A=some ((Vr n v,0,()),A):=by
 have key:=bL (step:=gZ) (N:=2^64) (λt=>(Vr t v,(J,o,n),(n:Int),(t:Int),A,())) n (.inr (Vr n v,A,())) Z (λt ht=>?_) ?_
 ·have e1:ltI (n:Int) 0=false:=by rw[aE]; exact oF Z
  have e2:ltI 1048576 (n:Int)=false:=by rw[aE]; exact oF Z
  have key:aX gZ (2^64) ([],(J,o,n),(n:Int),0,A,())=_:=key;unfold j5 pS;simp only[e1,e2,Bool.not_false,oC,List.replicate_zero,key,aD,pY]
 ·have b1:=ok t ht;have e1:ltI (t:Int) (n:Int)=true:=by rw[aE]; exact oT Z
  have e2:aF (t:Int) n=true:=by rw[aK]; exact oT Z
  have e3:(o+((t:Nat):Int).toNat)*1=o+t:=R
  have e4:dE A J=o+n:=by rw[dE,aFT _ hJ,oH,zP,hp]
  have e6:Nat.blt (o+t) (o+n)=true:=by rw[bT]; simpa using ht
  have e7:dU A J (o+t) ByteArray.empty=Zn (v t):=by rw[dU,aFT _ hJ,YJ hp,aLC _ ht]
  have e8:=aH5 (v t) (by have:=tA (u:=(v t).natAbs) (k:=17) Z; omega);have e9:ltI 1000000000 (v t)=false:=by rw[aE]; exact oF Z
  have e10:ltI (v t) (-1000000000)=false:=by rw[aE]; exact oF Z
  have e11:Nat.ble [v t].length 1048576=true:=rfl;have e12:Nat.ble (Vr t v).length 1048576=true:=by rw[dF]; unfold Vr; rw[List.length_map,List.length_range]; exact oT Z
  have e13:=bI t Z;have e14:Vr t v++[v t]=Vr (t+1) v:=by unfold Vr; rw[List.range_succ,List.map_append]; rfl
  simp only[gZ,e1,e2,e3,e4,e6,e7,e8,e9,e10,e11,e12,e13,e14,aD,oC,oD]
 ·have e1:ltI (n:Int) (n:Int)=false:=by rw[aE]; exact oF Z
  simp only[gZ,e1,oD]
theorem aKU {o k d n:Nat} {m:List (Nat×Nat×Nat)} {A:List (List ByteArray)} {J:Nat->Nat} {M:Nat->V} (h:lZ o k n m A J M) (hd:d<=k) (hk:k<1048576) (hn:n<1048576) (ok:∀ i,i<d->∀ x,x<n->(M i x).natAbs<=1000000000) (cols:Int) :
  eB (m.take d) (cols,()) A=some (((cols,(List.range d).map λi=>Vr n (M i)),0,()),A):=by
 have hl:(m.take d).length=d:=by rw[List.length_take,h.len]; omega
 have hg:∀ t,t<d->(m.take d).getD t (0,0,0)=(J t,o,n):=λt ht=>by
  rw[<- h.get (show t<k by omega)];grind
 have key:=bL (step:=fS) (N:=2^64)
  (λt=>((0,([],())),(cols,((List.range t).map (λi=>Vr n (M i)),())),m.take d,((m.take d).length:Int),(t:Int),A,())) d (.inr ((0,([],())),(cols,((List.range d).map (λi=>Vr n (M i)),())),A,())) Z (λt ht=>?_) ?_
 ·have key:aX fS (2^64) ((0,([],())),(cols,([],())),m.take d,((m.take d).length:Int),0,A,())=_:=key;unfold eB nE;simp only[key,aD,pY]
 ·rw[hl];obtain⟨pre,h1,h2⟩:=h.at_ t Z;have e1:ltI (t:Int) (d:Int)=true:=by rw[aE]; exact oT Z
  have e2:aF (t:Int) d=true:=by rw[aK]; exact oT Z
  have e3:((t:Nat):Int).toNat=t:=oN _;have e4:Nat.blt t d=true:=by rw[bT]; simpa using ht
  have e5:=a19 hn h1 h2 (ok t ht);have e6:eqI 0 0=true:=O
  have e7:Nat.ble [Vr n (M t)].length 1048576=true:=rfl;have e8:Nat.ble ((List.range t).map (λi=>Vr n (M i))).length 1048576=true:=by rw[dF,List.length_map,List.length_range]; exact oT Z
  have e9:=bI t Z;have e10:(List.range t).map (λi=>Vr n (M i))++[Vr n (M t)]=(List.range (t+1)).map (λi=>Vr n (M i)):=by rw[List.range_succ,List.map_append]; rfl
  simp only[fS,hl,e1,e2,e3,e4,hg t ht,e5,e6,e7,e8,e9,e10,aD,oC,Bool.not_true,oD]
 ·rw[hl];have e1:ltI (d:Int) (d:Int)=false:=by rw[aE]; exact oF Z
  simp only[fS,e1,oD]
theorem aFU(r:List Int) (hl:r.length<=64) (hr:∀ a∈r,a.natAbs<=1000000000):uU (r,())=some (0,()):=by
 have key:=bL (step:=bR) (N:=2^64) (λt=>(r,(),(r.length:Int),(t:Int),())) r.length (.inr ()) Z (λt ht=>?_) ?_
 ·have key:aX bR (2^64) (r,(),(r.length:Int),0,())=some (.inr ()):=key;have e1:ltI 64 (r.length:Int)=false:=by rw[aE]; exact oF Z
  have e2:ltI (-1) 0=true:=O
  simp only[uU,e1,oD,jS,iG,iL,key,aD,pY,e2,Bool.not_true]
 ·have e1:ltI (t:Int) (r.length:Int)=true:=by rw[aE]; exact oT Z
  have e2:aF (t:Int) r.length=true:=by rw[aK]; exact oT Z
  have e3:((t:Nat):Int).toNat=t:=oN _;have e4:r.getD t 0=r[t]:=by simp[List.getD,ht]
  have b:=hr r[t] (List.getElem_mem ht);have e5:ltI r[t] (-1000000000)=false:=by rw[aE]; exact oF Z
  have e6:ltI 1000000000 r[t]=false:=by rw[aE]; exact oF Z
  have e7:=bI t Z;simp only[bR,e1,e2,e3,e4,I2,VE,e5,e6,aD,Bool.not_false,oC,oD,e7]
 ·have e1:ltI (r.length:Int) (r.length:Int)=false:=by rw[aE]; exact oF Z
  simp only[bR,e1,oD]
theorem aVK(rows:List (List Int)){n}(hk:rows.length<1048576)(hn:n<=64)(hlen:∀ r∈rows,r.length=n)(hr:∀ r∈rows,∀ a∈r,a.natAbs<=1000000000):xB (rows,(n:Int),())=some (0,()):=by
 have key:=bL (step:=lK) (N:=2^64) (λt=>((n:Int),rows,(rows.length:Int),(t:Int),())) rows.length (.inr ()) Z (λt ht=>?_) ?_
 ·have key:aX lK (2^64) ((n:Int),rows,(rows.length:Int),0,())=some (.inr ()):=key;simp only[xB,AZ,key,aD,pY]
 ·have e1:ltI (t:Int) (rows.length:Int)=true:=by rw[aE]; exact oT Z
  have e2:aF (t:Int) rows.length=true:=by rw[aK]; exact oT Z
  have e3:((t:Nat):Int).toNat=t:=oN _;have e4:rows.getD t []=rows[t]:=by simp[List.getD,ht]
  have hm:=List.getElem_mem ht;have e5:=aFU rows[t] (by rw[hlen _ hm]; exact hn) (hr _ hm);have e6:eqI 0 0=true:=O
  have e7:eqI (rows[t].length:Int) (n:Int)=true:=by rw[bZ,hlen _ hm]; exact oT rfl
  have e8:=bI t Z;simp only[lK,e1,e2,e3,e4,e5,aD,e6,e7,e8,Bool.not_true,oC,oD]
 ·have e1:ltI (rows.length:Int) (rows.length:Int)=false:=by rw[aE]; exact oF Z
  simp only[lK,e1,oD]
theorem aSX(rows:List (List Int)){n}(hk:rows.length<=12)(hn:n<=12)(hlen:∀ r∈rows,r.length=n)(hr:∀ r∈rows,∀ a∈r,a.natAbs<=1000000000):DG ((n:Int),rows,())=some (0,()):=by
 have e1:ltI n 0=false:=by rfl
 have e2:ltI 12 n=false:=by rw[aE]; exact oF Z
 have e3:ltI 12 rows.length=false:=by rw[aE]; grind
 simp only[DG,e1,e2,e3,oD,aVK rows Z Z hlen hr,aD]
theorem of_eq(rows:List (List Int)) {n:Nat} (hk:rows.length<=12) (hn:n<=12) (hlen:∀ r∈rows,r.length=n) {E T:Nat->Nat} (hr:∀ r∈rows,∀ a∈r,a.natAbs<=E 0) (hE:E 0<=1000000000) (hb:Bds rows.length n E T)
  (hfin:∀ d M p,d<=rows.length->Hn d M p->Same rows.length (aAE rows) d M->(∀ i,i<d->∀ x,n<=x->M i x=0)->∀ i,i<d->∀ x,x<n->(M i x).natAbs<=1000000000) :
  ∃ d M p,HR ((n:Int),rows,())=some (((n:Int),(List.range d).map λi=>Vr n (M i)),0,())/\d<=rows.length/\Hn d M p/\Same rows.length (aAE rows) d M/\(∀ i,i<d->∀ x,n<=x->M i x=0)/\∀ i,i<d->∀ x,x<n->(M i x).natAbs<=1000000000:=by
 obtain⟨m,A,h1,h2⟩:=aM5 rows (n:=n) Z Z hlen (λr h a ha=>by have:=hr r h a ha; omega);have hrow:∀ i,i<rows.length->∃ r,r∈rows/\aAE rows i=lE r:=λi hi=>⟨rows[i],List.getElem_mem hi,by unfold aAE; simp[List.getD,hi]⟩
 have hw:Wd rows.length n (aAE rows):=λi hi x hx=>by
  obtain⟨r,hr1,hr2⟩:=hrow i hi;rw[hr2]; unfold lE;grind
 have hB:Big rows.length n (aAE rows) (E 0):=λi hi x hx=>by
  obtain⟨r,hr1,hr2⟩:=hrow i hi;rw[hr2]; unfold lE;have hl:=hlen r hr1;have:r.getD x 0=r[x]' Z:=by simp[List.getD,show x<r.length by omega]
  rw[this];exact hr r hr1 _ (List.getElem_mem _)
 obtain⟨m',A',J',M',d,p,g1,g2,g3,g4,g5,g6,g7⟩:=aJZ Z Z h2 hw hB hb;have hwd:∀ i,i<d->∀ x,n<=x->M' i x=0:=λi hi x hx=>g6 i Z x hx
 have hf:=hfin d M' p g2 g4 g5 hwd;refine⟨d,M',p,?_,g2,g4,g5,hwd,hf⟩;have e0:eqI 0 0=true:=O
 simp only[HR,aSX rows hk hn hlen (λr h a ha=>oR (hr r h a ha) hE),aD,e0,Bool.not_true,oD,h1,g1,aKU g3 g2 Z Z hf (n:Int)]
end Go.PM
namespace Go.PM
open Go Go.RowKit Go.Proofs Tryz
set_option maxHeartbeats 4000000
def XH(x:aM [.int .i64]):oK [.bool]:=match x with
 | (v0,()) =>
  bif ltI 1000000000 v0 then
   some (true,())
  else some (ltI v0 (-1000000000),())
abbrev aSP:Ent:=⟨149,_,_,XH⟩
theorem aJN:Ent.OK tP aSP:=oI (aP oW) func149 Y (by rintro⟨v0,⟨⟩⟩; kernel_rfl)
abbrev o6:List (Nat×Kd):=[(0,.list TyE),(1,.fn 149),(7,.int .i64),(8,.int .i64)]
abbrev vQ:List (Ex×List (Nat×Kd)):=[(.ret,[(4,.int .i64)]),(.exit 0,[])]
def eT(x:Shape.den o6):oS o6 vQ:=match x with
 | (v0,v1,v7,v8,()) =>
  bif ltI v8 v7 then
   bif aF v8 v0.length then aC (XH ((v0.getD v8.toNat 0),())) λy2 =>
   bif y2.1 then
    some (.inr (.inl (v8,())))
   else some (.inl (v0,(),v7,(aB .i64 (v8+1)),())) else none
  else some (.inr (.inr ((()))))
def mV(x:Shape.den o6):oX vQ:=aX eT (2^64) x
def qX(x:aM [.list TyE,.fn 149]):oK [.int .i64]:=match x with
 | (v0,v1,()) =>
  aC (mV (v0,(),(v0.length:Int),0,())) λz3 =>
  mH z3 (λa4=>some (a4.1,())) λb5 =>
  some ((-1),())
abbrev KH:Ent:=⟨110,_,_,qX⟩
theorem H8:Ent.OK tP KH:=oU (aP (oV aJN oW)) func110 2 (lp:=mV) rfl Y (by rintro⟨v0,v1,v7,v8,⟨⟩⟩; kernel_rfl) (by rintro⟨v0,v1,⟨⟩⟩; kernel_rfl)
def jQ(x:aM [.list TyE,.fn 149]):oK [.bool]:=match x with
 | (v0,v1,()) =>
  aC (qX (v0,(),())) λy1 =>
  some (!(ltI y1.1 0),())
abbrev H4:Ent:=⟨76,_,_,jQ⟩
theorem FI:Ent.OK tP H4:=oI (aP (oV H8 oW)) func76 Y (by rintro⟨v0,v1,⟨⟩⟩; kernel_rfl)
abbrev M9:List (Nat×Kd):=[(0,.list TyD),(8,.list TyD),(9,.int .i64),(10,.int .i64)]
abbrev XP:List (Ex×List (Nat×Kd)):=[(.ret,[(2,.int .i64)]),(.exit 0,[])]
def wJ(x:Shape.den M9):oS M9 XP:=match x with
 | (v0,v8,v9,v10,()) =>
  bif ltI v10 v9 then
   bif aF v10 v8.length then bif ltI 12 ((v8.getD v10.toNat []).length:Int) then
    some (.inr (.inl (4,())))
   else bif aF 0 v0.length then bif !(eqI ((v8.getD v10.toNat []).length:Int) ((v0.getD 0 []).length:Int)) then
    some (.inr (.inl (5,())))
   else aC (jQ ((v8.getD v10.toNat []),(),())) λy2 =>
   bif y2.1 then
    some (.inr (.inl (4,())))
   else some (.inl (v0,v8,v9,(aB .i64 (v10+1)),())) else none else none
  else some (.inr (.inr ((()))))
def I3(x:Shape.den M9):oX XP:=aX wJ (2^64) x
def PN(x:aM [.list TyD]):oK [.int .i64]:=match x with
 | (v0,()) =>
  bif ltI 12 (v0.length:Int) then
   some (4,())
  else aC (I3 (v0,v0,(v0.length:Int),0,())) λz3 =>
  mH z3 (λa4=>some (a4.1,())) λb5 =>
  some (0,())
abbrev aR2:Ent:=⟨111,_,_,PN⟩
theorem aJB:Ent.OK tP aR2:=oU (aP (oV FI oW)) func111 4 (lp:=I3) rfl Y (by rintro⟨v0,v8,v9,v10,⟨⟩⟩; kernel_rfl) (by rintro⟨v0,⟨⟩⟩; kernel_rfl)
def EF(x:aM [.int .i64]):oK [.bool]:=match x with
 | (v0,()) =>
  some (!(eqI v0 0),())
abbrev aHN:Ent:=⟨171,_,_,EF⟩
theorem aBS:Ent.OK tP aHN:=oI (aP oW) func171 Y (by rintro⟨v0,⟨⟩⟩; kernel_rfl)
abbrev pA:List (Nat×Kd):=[(0,.list TyE),(1,.fn 171),(7,.int .i64),(8,.int .i64)]
abbrev vS:List (Ex×List (Nat×Kd)):=[(.ret,[(4,.int .i64)]),(.exit 0,[])]
def eR(x:Shape.den pA):oS pA vS:=match x with
 | (v0,v1,v7,v8,()) =>
  bif ltI v8 v7 then
   bif aF v8 v0.length then aC (EF ((v0.getD v8.toNat 0),())) λy2 =>
   bif y2.1 then
    some (.inr (.inl (v8,())))
   else some (.inl (v0,(),v7,(aB .i64 (v8+1)),())) else none
  else some (.inr (.inr ((()))))
def mY(x:Shape.den pA):oX vS:=aX eR (2^64) x
def qW(x:aM [.list TyE,.fn 171]):oK [.int .i64]:=match x with
 | (v0,v1,()) =>
  aC (mY (v0,(),(v0.length:Int),0,())) λz3 =>
  mH z3 (λa4=>some (a4.1,())) λb5 =>
  some ((-1),())
abbrev J9:Ent:=⟨110,_,_,qW⟩
theorem IB:Ent.OK tP J9:=oU (aP (oV aBS oW)) func110 2 (lp:=mY) rfl Y (by rintro⟨v0,v1,v7,v8,⟨⟩⟩; kernel_rfl) (by rintro⟨v0,v1,⟨⟩⟩; kernel_rfl)
def I4(x:aM [.list TyE]):oK [.int .i64]:=match x with
 | (v0,()) =>
  aC (qW (v0,(),())) λy1 =>
  some (y1.1,())
abbrev aL5:Ent:=⟨150,_,_,I4⟩
theorem aF3:Ent.OK tP aL5:=oI (aP (oV IB oW)) func150 Y (by rintro⟨v0,⟨⟩⟩; kernel_rfl)
def GQ(x:aM [.list TyE,.ptr TyE,.ptr TyD]):oK [.bool]:=match x with
 | (v0,v1,v2,()) =>
  bif aF v1 v0.length then bif ltI (v0.getD v1.toNat 0) 0 then
   some (true,())
  else bif aF v1 v0.length then bif aF v1 v2.length then some (!(ltI (v0.getD v1.toNat 0) (v2.getD v1.toNat 0)),()) else none else none else none
abbrev aCZ:Ent:=⟨152,_,_,GQ⟩
theorem XW:Ent.OK tP aCZ:=oI (aP oW) func152 Y (by rintro⟨v0,v1,v2,⟨⟩⟩; kernel_rfl)
abbrev jZ:List (Nat×Kd):=[(0,.list TyD),(1,.clo 152 [TyE,TyD]),(7,.int .i64),(8,.int .i64)]
abbrev qK:List (Ex×List (Nat×Kd)):=[(.ret,[(4,.int .i64)]),(.exit 0,[])]
def dC(x:Shape.den jZ):oS jZ qK:=match x with
 | (v0,v1,v7,v8,()) =>
  bif ltI v8 v7 then
   bif aF v8 v0.length then aC (GQ ((v0.getD v8.toNat []),v1.1,v1.2.1,())) λy2 =>
   bif y2.1 then
    some (.inr (.inl (v8,())))
   else some (.inl (v0,(v1.1,v1.2.1,()),v7,(aB .i64 (v8+1)),())) else none
  else some (.inr (.inr ((()))))
def jG(x:Shape.den jZ):oX qK:=aX dC (2^64) x
def lN(x:aM [.list TyD,.clo 152 [TyE,TyD]]):oK [.int .i64]:=match x with
 | (v0,v1,()) =>
  aC (jG (v0,(v1.1,v1.2.1,()),(v0.length:Int),0,())) λz3 =>
  mH z3 (λa4=>some (a4.1,())) λb5 =>
  some ((-1),())
abbrev ER:Ent:=⟨172,_,_,lN⟩
theorem CH:Ent.OK tP ER:=oU (aP (oV XW oW)) func172 2 (lp:=jG) rfl Y (by rintro⟨v0,v1,v7,v8,⟨⟩⟩; kernel_rfl) (by rintro⟨v0,v1,⟨⟩⟩; kernel_rfl)
def eZ(x:aM [.list TyD,.clo 152 [TyE,TyD]]):oK [.bool]:=match x with
 | (v0,v1,()) =>
  aC (lN (v0,(v1.1,v1.2.1,()),())) λy1 =>
  some (!(ltI y1.1 0),())
abbrev CG:Ent:=⟨151,_,_,eZ⟩
theorem AD:Ent.OK tP CG:=oI (aP (oV CH oW)) func151 Y (by rintro⟨v0,v1,⟨⟩⟩; kernel_rfl)
abbrev GO:List (Nat×Kd):=[(0,.list TyD),(3,.int .i64),(7,.list TyD),(8,.int .i64),(9,.int .i64)]
abbrev QQ:List (Ex×List (Nat×Kd)):=[(.ret,[(2,.bool)]),(.exit 0,[])]
def sJ(x:Shape.den GO):oS GO QQ:=match x with
 | (v0,v3,v7,v8,v9,()) =>
  bif ltI v9 v8 then
   bif aF v9 v7.length then aC (I4 ((v7.getD v9.toNat []),())) λy3 =>
   bif !(ltI v3 y3.1) then
    some (.inr (.inl (false,())))
   else bif aF y3.1 (v7.getD v9.toNat []).length then bif ltI ((v7.getD v9.toNat []).getD y3.1.toNat 0) 0 then
    some (.inr (.inl (false,())))
   else bif !(ltI v9 0) then bif Nat.ble 0 v9.toNat then bif Nat.ble v9.toNat v0.length then aC (eZ (((v0.drop 0).take (v9.toNat-0)),(y3.1,(v7.getD v9.toNat []),()),())) λy4 =>
   bif y4.1 then
    some (.inr (.inl (false,())))
   else some (.inl (v0,y3.1,v7,v8,(aB .i64 (v9+1)),())) else none else none else none else none else none
  else some (.inr (.inr ((()))))
def DC(x:Shape.den GO):oX QQ:=aX sJ (2^64) x
def GF(x:aM [.list TyD]):oK [.bool]:=match x with
 | (v0,()) =>
  aC (DC (v0,(-1),v0,(v0.length:Int),0,())) λz5 =>
  mH z5 (λa6=>some (a6.1,())) λb7 =>
  some (true,())
abbrev aI9:Ent:=⟨112,_,_,GF⟩
theorem aDK:Ent.OK tP aI9:=oU (aP (oV aF3 (oV AD oW))) func112 3 (lp:=DC) rfl Y (by rintro⟨v0,v3,v7,v8,v9,⟨⟩⟩; kernel_rfl) (by rintro⟨v0,⟨⟩⟩; kernel_rfl)
def M6(x:aM [.list TyD]):oK [.bool,.int .i64]:=match x with
 | (v0,()) =>
  aC (PN (v0,())) λy1 =>
  bif !(eqI y1.1 0) then
   some (false,y1.1,())
  else aC (GF (v0,())) λy2 =>
  some (y2.1,0,())
abbrev aI8:Ent:=⟨83,_,_,M6⟩
theorem aCR:Ent.OK tP aI8:=oI (aP (oV aDK (oV aJB oW))) func83 Y (by rintro⟨v0,⟨⟩⟩; kernel_rfl)
def zD(x:aM [.agg TyH]):oK [.int .i64]:=match x with
 | (v0,()) =>
  aC (DG (v0.1,v0.2,())) λy1 =>
  bif !(eqI y1.1 0) then
   some (y1.1,())
  else aC (M6 (v0.2,())) λy2 =>
  bif !(eqI y2.2.1 0) then
   some (7,())
  else bif y2.1 then
   some (0,())
  else some (7,())
abbrev PZ:Ent:=⟨51,_,_,zD⟩
theorem JI:Ent.OK tP PZ:=oI (aP (oV aCR (oV SH oW))) func51 Y (by rintro⟨v0,⟨⟩⟩; kernel_rfl)
end Go.PM
namespace Go.PM
open Go Go.RowKit Go.Proofs Tryz
set_option maxHeartbeats 4000000
def pO(u0:Unit) (x:aM [.int .i64]) (A:List (List ByteArray)):Option ((List ByteArray)×List (List ByteArray)):=match x with
 | (v0,()) =>
  bif !(ltI v0 0) then bif !(ltI v0 v0) then bif !(ltI 1048576 v0) then aC (rD ((List.replicate v0.toNat (0:Ty.den TyE)),())) λy1 =>
  some (y1,A) else none else none else none
def IF:Code:=dN f114
abbrev SA:Env:=PI [] [K7]
theorem aAM:fX tP SA:=pN trivial ⟨N8,trivial⟩
def QN(id:Nat):Option eY:=none
theorem XZ:bA IF=[]:=Y
theorem Z5:∀ l x A,HG tP SA f114 (aQ f114) QN IF 74 .str .none [.int .i64] (.own 74 .str) l x A=pO l x A:=by
 rintro u0 ⟨v0,⟨⟩⟩ A
 kernel_rfl
theorem aDC:N2 tP 114 74 .str .none [.int .i64] (.own 74 .str) pO:=AK bH aAM func114 (c:=IF) Y (keep:=aQ f114) (lt:=QN) (by rfl) (aT XZ trivial) Z5
abbrev SP:Shr:=(114,TD 0 (arH 74 .str .none [.int .i64] (.own 74 .str) pO))
theorem YZ:qU tP SP:=sR (g:=114) (f:=arH 74 .str .none [.int .i64] (.own 74 .str) pO) (C5 aDC)
abbrev gI:List (Nat×Kd):=[(1,.int .i64),(2,.int .i64),(7,.own 152 (.hnd 1)),(10,.list (.hnd 1)),(11,.int .i64),(12,.int .i64),(100000,.ar 74 .str)]
abbrev kD:List (Ex×List (Nat×Kd)):=[(.exit 0,[(2,.int .i64),(7,.own 152 (.hnd 1)),(100000,.ar 74 .str)])]
def fD(x:Shape.den gI):oS gI kD:=match x with
 | (v1,v2,v7,v10,v11,v12,u00,()) =>
  bif ltI v12 v11 then
   bif aF v12 v10.length then aC (iV () (((v10.getD v12.toNat (0,0,0)).1,(v10.getD v12.toNat (0,0,0)).2.1,(v10.getD v12.toNat (0,0,0)).2.2),()) u00) λy2 =>
   bif !(ltI y2.1.1 v1) then
    bif !(ltI v1 0) then bif Nat.ble v1.toNat ((v10.getD v12.toNat (0,0,0)).2.2) then bif Nat.ble ((v10.getD v12.toNat (0,0,0)).2.2) ((v10.getD v12.toNat (0,0,0)).2.2) then bif Nat.ble [((v10.getD v12.toNat (0,0,0)).1,((v10.getD v12.toNat (0,0,0)).2.1+v1.toNat),((v10.getD v12.toNat (0,0,0)).2.2-v1.toNat))].length 1048576 then bif Nat.ble v7.length 1048576 then some (.inl (v1,v2,(v7++[((v10.getD v12.toNat (0,0,0)).1,((v10.getD v12.toNat (0,0,0)).2.1+v1.toNat),((v10.getD v12.toNat (0,0,0)).2.2-v1.toNat))]),v10,v11,(aB .i64 (v12+1)),y2.2,())) else none else none else none else none else none
   else some (.inl (v1,v2,v7,v10,v11,(aB .i64 (v12+1)),y2.2,())) else none
  else some (.inr ((v2,v7,u00,())))
def iS(x:Shape.den gI):oX kD:=aX fD (2^64) x
def jV(u0:Unit)(x:aM [.list (.hnd 1),.int .i64,.int .i64])(A:List (List ByteArray)):Option ((List (Nat×Nat×Nat))×List (List ByteArray)):=match x with
 | (v0,v1,v2,()) =>
  aC (iS (v1,v2,[],v0,(v0.length:Int),0,A,())) λz3 =>
  aC (eA z3.2.1 (z3.1,()) z3.2.2.1) λy4 =>
  some y4
def rI:Code:=dN f115
abbrev yA:Env:=PI [] [L4,sU]
theorem CO:fX tP yA:=pN trivial ⟨VM,vF,trivial⟩
def uP:Code:=j7 rI 0
def wB(id:Nat):Option eY:=bif Nat.beq id 3 then some ⟨gI,kD,iS⟩ else none
theorem K4:∀ x,lV tP yA 30 (aQ f115) wB uP gI kD x=fD x:=by
 rintro⟨v1,v2,v7,v10,v11,v12,u00,⟨⟩⟩
 kernel_rfl
theorem L7:fN tP 30 uP ⟨gI,kD,iS⟩:=gT CO.callee bH.mixed _ (aT (l:=[]) Y trivial) K4
theorem NS:bA rI=[uP]:=Y
theorem OQ:∀ l x A,HG tP yA f115 (aQ f115) wB rI 74 .str .none [.list (.hnd 1),.int .i64,.int .i64] (.own 152 (.hnd 1)) l x A=jV l x A:=by
 rintro u0 ⟨v0,v1,v2,⟨⟩⟩ A
 kernel_rfl
theorem RR:N2 tP 115 74 .str .none [.list (.hnd 1),.int .i64,.int .i64] (.own 152 (.hnd 1)) jV:=AK bH CO func115 (c:=rI) Y (keep:=aQ f115) (lt:=wB) (by rfl) (aT NS ⟨gR (i:=3) Y rfl L7,trivial⟩) OQ
abbrev FP:Shr:=(115,TD 0 (arH 74 .str .none [.list (.hnd 1),.int .i64,.int .i64] (.own 152 (.hnd 1)) jV))
theorem PL:qU tP FP:=sR (g:=115) (f:=arH 74 .str .none [.list (.hnd 1),.int .i64,.int .i64] (.own 152 (.hnd 1)) jV) (C5 RR)
abbrev gD:List (Nat×Kd):=[(0,.list (.hnd 1)),(1,.int .i64),(5,.own 152 (.hnd 1)),(6,.int .i64),(7,.own 74 .str),(11,.int .i64),(12,.int .i64),(15,.list (.hnd 1)),(16,.int .i64),(17,.int .i64),(100000,.ar 74 .str)]
abbrev kF:List (Ex×List (Nat×Kd)):=[(.exit 2,[(0,.list (.hnd 1)),(1,.int .i64),(5,.own 152 (.hnd 1)),(6,.int .i64),(7,.own 74 .str),(11,.int .i64),(12,.int .i64),(100000,.ar 74 .str)])]
def iT(x:Shape.den gD):oS gD kF:=match x with
 | (v0,v1,v5,v6,v7,v11,v12,v15,v16,v17,u00,()) =>
  bif ltI v17 v16 then
   bif aF v17 v15.length then bif aF v6 ((v15.getD v17.toNat (0,0,0)).2.2) then bif Nat.blt (((v15.getD v17.toNat (0,0,0)).2.1+v6.toNat)*1) (dE u00 ((v15.getD v17.toNat (0,0,0)).1)) then bif Nat.ble [(dU u00 ((v15.getD v17.toNat (0,0,0)).1) (((v15.getD v17.toNat (0,0,0)).2.1+v6.toNat)*1) ByteArray.empty)].length 1048576 then bif Nat.ble v7.length 1048576 then some (.inl (v0,v1,v5,v6,(v7++[(dU u00 ((v15.getD v17.toNat (0,0,0)).1) (((v15.getD v17.toNat (0,0,0)).2.1+v6.toNat)*1) ByteArray.empty)]),v11,v12,v15,v16,(aB .i64 (v17+1)),u00,())) else none else none else none else none else none
  else some (.inr ((v0,v1,v5,v6,v7,v11,v12,u00,())))
def mE(x:Shape.den gD):oX kF:=aX iT (2^64) x
abbrev gK:List (Nat×Kd):=[(0,.list (.hnd 1)),(1,.int .i64),(5,.own 152 (.hnd 1)),(11,.int .i64),(12,.int .i64),(100000,.ar 74 .str)]
abbrev kN:List (Ex×List (Nat×Kd)):=[(.exit 0,[(0,.list (.hnd 1)),(1,.int .i64),(5,.own 152 (.hnd 1)),(100000,.ar 74 .str)])]
def iZ(x:Shape.den gK):oS gK kN:=match x with
 | (v0,v1,v5,v11,v12,u00,()) =>
  bif ltI v12 v11 then
   aC (mE (v0,v1,v5,v12,[],v11,v12,v0,(v0.length:Int),0,u00,())) λz3 =>
   aC (pO () (z3.2.1,()) z3.2.2.2.2.2.2.2.1) λy4 =>
   bif aF z3.2.2.2.1 y4.1.length then bif Nat.blt z3.2.2.2.1.toNat y4.1.length then bif Nat.ble (y4.1.set z3.2.2.2.1.toNat (ByteArray.mk #[49])).length 1048576 then bif Nat.ble z3.2.2.2.2.1.length 1048576 then bif Nat.ble [(y4.2.length,0,(z3.2.2.2.2.1++(y4.1.set z3.2.2.2.1.toNat (ByteArray.mk #[49]))).length)].length 1048576 then bif Nat.ble z3.2.2.1.length 1048576 then some (.inl (z3.1,z3.2.1,(z3.2.2.1++[(y4.2.length,0,(z3.2.2.2.2.1++(y4.1.set z3.2.2.2.1.toNat (ByteArray.mk #[49]))).length)]),z3.2.2.2.2.2.1,(aB .i64 (z3.2.2.2.2.2.2.1+1)),(y4.2++[(z3.2.2.2.2.1++(y4.1.set z3.2.2.2.1.toNat (ByteArray.mk #[49])))]),())) else none else none else none else none else none else none
  else some (.inr ((v0,v1,v5,u00,())))
def iY(x:Shape.den gK):oX kN:=aX iZ (2^64) x
def cF(u0:Unit)(x:aM [.list (.hnd 1),.int .i64])(A:List (List ByteArray)):Option ((List (Nat×Nat×Nat))×List (List ByteArray)):=match x with
 | (v0,v1,()) =>
  aC (iY (v0,v1,[],v1,0,A,())) λz5 =>
  aC (eA z5.2.2.1 ((aB .i64 ((z5.1.length:Int)+z5.2.1)),()) z5.2.2.2.1) λy6 =>
  aC (jV () (y6.1,(z5.1.length:Int),z5.2.1,()) y6.2) λy7 =>
  some y7
def rH:Code:=dN f85
abbrev rM:Env:=PI [] [FP,sU,SP]
theorem tV:fX tP rM:=pN trivial ⟨PL,vF,YZ,trivial⟩
def kZ:Code:=j7 rH 0
def uL:Code:=j7 kZ 0
def qJ(id:Nat):Option eY:=bif Nat.beq id 7 then some ⟨gD,kF,mE⟩ else bif Nat.beq id 3 then some ⟨gK,kN,iY⟩ else none
theorem KQ:∀ x,lV tP rM 51 (aQ f85) qJ uL gD kF x=iT x:=by
 rintro⟨v0,v1,v5,v6,v7,v11,v12,v15,v16,v17,u00,⟨⟩⟩
 kernel_rfl
theorem L0:fN tP 51 uL ⟨gD,kF,mE⟩:=gT tV.callee bH.mixed _ (aT (l:=[]) Y trivial) KQ
theorem KK:∀ x,lV tP rM 51 (aQ f85) qJ kZ gK kN x=iZ x:=by
 rintro⟨v0,v1,v5,v11,v12,u00,⟨⟩⟩
 kernel_rfl
theorem PA:bA kZ=[uL]:=Y
theorem LY:fN tP 51 kZ ⟨gK,kN,iY⟩:=gT tV.callee bH.mixed _ (aT PA ⟨gR (i:=7) Y rfl L0,trivial⟩) KK
theorem NX:bA rH=[kZ]:=Y
theorem PB:∀ l x A,HG tP rM f85 (aQ f85) qJ rH 74 .str .none [.list (.hnd 1),.int .i64] (.own 152 (.hnd 1)) l x A=cF l x A:=by
 rintro u0 ⟨v0,v1,⟨⟩⟩ A
 kernel_rfl
theorem RN:N2 tP 85 74 .str .none [.list (.hnd 1),.int .i64] (.own 152 (.hnd 1)) cF:=AK bH tV func85 (c:=rH) Y (keep:=aQ f85) (lt:=qJ) (by rfl) (aT NX ⟨gR (i:=3) Y rfl LY,trivial⟩) PB
abbrev xW:Shr:=(85,TD 0 (arH 74 .str .none [.list (.hnd 1),.int .i64] (.own 152 (.hnd 1)) cF))
theorem CW:qU tP xW:=sR (g:=85) (f:=arH 74 .str .none [.list (.hnd 1),.int .i64] (.own 152 (.hnd 1)) cF) (C5 RN)
def sS(x:aM [.agg TyH]):oK [.agg TyH,.int .i64]:=match x with
 | (v0,()) =>
  aC (zD (v0,())) λy1 =>
  bif !(eqI y1.1 0) then
   some ((0,[]),y1.1,())
  else aC (fH () (v0.2,()) []) λy2 =>
  aC (cF () (y2.1,v0.1,()) y2.2) λy3 =>
  aC (cF () (y3.1,v0.1,()) y3.2) λy4 =>
  aC (eB y4.1 (v0.1,()) y4.2) λy5 =>
  some (y5.1.1,y5.1.2.1,())
def II:Code:=dN f52
abbrev SD:Env:=PI [PZ] [yO,xW,sQ]
theorem ZP:fX tP SD:=pN ⟨JI,trivial⟩ ⟨BH,CW,vA,trivial⟩
def Q3(id:Nat):Option eY:=none
theorem YG:bA II=[]:=Y
theorem Y4:∀ x,aH9 tP SD f52 (aQ f52) Q3 II 74 .str _ _ x=sS x:=by
 rintro⟨v0,⟨⟩⟩
 kernel_rfl
abbrev aF6:Ent:=⟨52,_,_,sS⟩
theorem MF:Ent.OK tP aF6:=aMX bH ZP func52 (c:=II) Y (keep:=aQ f52) (lt:=Q3) (aT YG trivial) Y4
def nQ(x:aM [.agg TyH]):oK [.agg TyH,.int .i64]:=match x with
 | (v0,()) =>
  aC (zD (v0,())) λy1 =>
  bif !(eqI y1.1 0) then
   some ((0,[]),y1.1,())
  else aC (fH () (v0.2,()) []) λy2 =>
  aC (cF () (y2.1,v0.1,()) y2.2) λy3 =>
  aC (eB y3.1 (v0.1,()) y3.2) λy4 =>
  some (y4.1.1,y4.1.2.1,())
def D7:Code:=dN f54
abbrev L8:Env:=PI [PZ] [yO,xW,sQ]
theorem VO:fX tP L8:=pN ⟨JI,trivial⟩ ⟨BH,CW,vA,trivial⟩
def J8(id:Nat):Option eY:=none
theorem T8:bA D7=[]:=Y
theorem UI:∀ x,aH9 tP L8 f54 (aQ f54) J8 D7 74 .str _ _ x=nQ x:=by
 rintro⟨v0,⟨⟩⟩
 kernel_rfl
abbrev aAI:Ent:=⟨54,_,_,nQ⟩
theorem HV:Ent.OK tP aAI:=aMX bH VO func54 (c:=D7) Y (keep:=aQ f54) (lt:=J8) (aT T8 trivial) UI
end Go.PM
namespace Go.Lz
def d2(a b:V)(x y:Nat):Int:=a x*b y-a y*b x
def d3(a b c:V)(x y z:Nat):Int:=d2 a b x y*c z-d2 a b x z*c y+d2 a b y z*c x
def d4(a b c d:V)(x y z u:Nat):Int:=d3 a b c x y z*d u-d3 a b c x y u*d z+d3 a b c x z u*d y-d3 a b c y z u*d x
structure Lin (f:V->Int):Prop where
 zero:f (λ_=>0)=0
 add:∀ u t m,f (λi=>u i+t*m i)=f u+t*f m
theorem Lin.sp {f}(h:Lin f){k M}(hz:∀ j,j<k->f (M j)=0){v}(hv:Sp k M v):f v=0:=by
 induction hv with
 | zero=>exact h.zero
 | add j t hj _ ih=>rw[h.add,ih,hz j hj]; simp
theorem Lin.pick {f:V->Int} (h:Lin f) {k:Nat} {M:Nat->V} {u:V} {t:Int} (ht:t≠0) (hs:Sp k M (λi=>t*u i)) (hu:f u≠0):∃ j,j<k/\f (M j)≠0:=by
 refine Classical.byContradiction λhn=>?_
 have hz:∀ j,j<k->f (M j)=0:=λj hj=>Classical.byContradiction λh0=>hn ⟨j,hj,h0⟩
 have h1:=h.sp hz hs;have h2:=h.add (λ_=>0) t u;have e:(λi=>(0:Int)+t*u i)=λi=>t*u i:=by funext i; simp
 rw[e,h1,h.zero,Int.zero_add]at h2;rcases Int.mul_eq_zero.1 h2.symm with h3|h3
 ·exact ht h3
 ·exact hu h3
theorem aI5 {x y:Int}{A B}(hx:x.natAbs<=A)(hy:y.natAbs<=B):(x*y).natAbs<=A*B:=by rw[Int.natAbs_mul]; exact Nat.mul_le_mul hx hy
theorem d2B {a b E}(ha:∀ x,(a x).natAbs<=E)(hb:∀ x,(b x).natAbs<=E) x y:(d2 a b x y).natAbs<=2*(E*E):=by
 have h1:=aI5 (ha x) (hb y);have h2:=aI5 (ha y) (hb x);unfold d2;omega
theorem d3B {a b c E}(ha:∀ x,(a x).natAbs<=E)(hb:∀ x,(b x).natAbs<=E)(hc:∀ x,(c x).natAbs<=E) x y z:(d3 a b c x y z).natAbs<=6*(E*E*E):=by
 have h1:=aI5 (d2B ha hb x y) (hc z);have h2:=aI5 (d2B ha hb x z) (hc y);have h3:=aI5 (d2B ha hb y z) (hc x);have e:2*(E*E)*E=2*(E*E*E):=W
 unfold d3;omega
theorem d4B {a b c d E}(ha:∀ x,(a x).natAbs<=E)(hb:∀ x,(b x).natAbs<=E)(hc:∀ x,(c x).natAbs<=E)(hd:∀ x,(d x).natAbs<=E) x y z u:(d4 a b c d x y z u).natAbs<=24*(E*E*E*E):=by
 have h1:=aI5 (d3B ha hb hc x y z) (hd u);have h2:=aI5 (d3B ha hb hc x y u) (hd z);have h3:=aI5 (d3B ha hb hc x z u) (hd y);have h4:=aI5 (d3B ha hb hc y z u) (hd x);have e:6*(E*E*E)*E=6*(E*E*E*E):=W
 unfold d4;omega
def Dg(k:Nat) (M:Nat->V) (r:Nat) (p:Nat->Nat) (W:Nat):Prop :=
 ∃ (D:Int) (w:Nat->V),D≠0/\∀ j,j<r->Sp k M (w j)/\w j (p j)=D/\(∀ i,i<r->i≠j->w j (p i)=0)/\∀ x,(w j x).natAbs<=W
theorem Dg.mono {k k' M M' r p W}(h:Dg k M r p W)(hs:∀ v,Sp k M v->Sp k' M' v):Dg k' M' r p W:=by
 obtain⟨D,w,h0,h1⟩:=h;exact⟨D,w,h0,λj hj=>⟨hs _ (h1 j hj).1,(h1 j hj).2⟩⟩
section
variable {k:Nat} {M:Nat->V}
theorem Sp.bAL {a b}(ha:a<k)(hb:b<k) s t:Sp k M (λi=>s*M a i+t*M b i):=Sp.comb t (Sp.smul s (Sp.mem ha)) (Sp.mem hb)
theorem Sp.a69 {a b c}(ha:a<k)(hb:b<k)(hc:c<k) s t u:Sp k M (λi=>s*M a i+t*M b i+u*M c i):=Sp.comb u (Sp.bAL ha hb s t) (Sp.mem hc)
theorem Sp.a8P {a b c d}(ha:a<k)(hb:b<k)(hc:c<k)(hd:d<k) s t u v:Sp k M (λi=>s*M a i+t*M b i+u*M c i+v*M d i):=Sp.comb v (Sp.a69 ha hb hc s t u) (Sp.mem hd)
theorem aZJ {u:V} {p0:Nat} {t:Int} (ht:t≠0) (hs:Sp k M (λi=>t*u i)) (h0:u p0≠0):∃ a,a<k/\M a p0≠0 :=
 Lin.pick (f:=λv=>v p0) ⟨rfl,λ_ _ _=>rfl⟩ ht hs h0
theorem a2T {u:V}{a p0 p1 t}(ht:t≠0)(hs:Sp k M (λi=>t*u i))(h0:u p0=0)(h1:u p1≠0)(ha:M a p0≠0):∃ b,b<k/\d2 (M a) (M b) p0 p1≠0:=by
 refine Lin.pick (f:=λv=>d2 (M a) v p0 p1) ⟨by simp[d2],λu t m=>by simp only[d2]; grind⟩ ht hs ?_;simp only[d2]
 simp_all
theorem a90 {u:V}{a b p0 p1 p2 t}(ht:t≠0)(hs:Sp k M (λi=>t*u i))(h0:u p0=0)(h1:u p1=0)(h2:u p2≠0)(ha:d2 (M a) (M b) p0 p1≠0):∃ c,c<k/\d3 (M a) (M b) (M c) p0 p1 p2≠0:=by
 refine Lin.pick (f:=λv=>d3 (M a) (M b) v p0 p1 p2) ⟨by simp[d3],λu t m=>by simp only[d3]; grind⟩ ht hs ?_;simp only[d3]
 simp_all
theorem bC3 {u:V}{a b c p0 p1 p2 p3 t}(ht:t≠0)(hs:Sp k M (λi=>t*u i))(h0:u p0=0)(h1:u p1=0)(h2:u p2=0)(h3:u p3≠0)(ha:d3 (M a) (M b) (M c) p0 p1 p2≠0):∃ d,d<k/\d4 (M a) (M b) (M c) (M d) p0 p1 p2 p3≠0:=by
 refine Lin.pick (f:=λv=>d4 (M a) (M b) (M c) v p0 p1 p2 p3) ⟨by simp[d4],λu t m=>by simp only[d4]; grind⟩ ht hs ?_;simp only[d4]
 simp_all
theorem bD1 {p W a}(hB:∀ x,(M a x).natAbs<=W)(ha:a<k)(h:M a (p 0)≠0):Dg k M 1 p W :=
 ⟨_,λ_=>M a,h,λj hj=>by
  obtain rfl:j=0:=Z
  exact⟨Sp.mem ha,rfl,λi hi hne=>by omega,hB⟩⟩
theorem bDJ {p W a b}(hB:∀ x y,(d2 (M a) (M b) x y).natAbs<=W)(ha:a<k)(hb:b<k)(h:d2 (M a) (M b) (p 0) (p 1)≠0):Dg k M 2 p W:=by
 refine⟨_,λj=>if j=0 then (λx=>d2 (M a) (M b) x (p 1)) else λx=>d2 (M a) (M b) (p 0) x,h,λj hj=>?_⟩;rcases(show j=0\/j=1 by omega)with rfl|rfl
 ·refine⟨?_,rfl,λi hi hne=>?_,λx=>hB _ _⟩
  ·refine cast (congrArg (Sp k M) ?_) (Sp.bAL ha hb (M b (p 1)) (-(M a (p 1))))
   funext x
   simp only[if_true,d2]; grind
  ·simp only[if_true,d2]; grind
 ·refine⟨?_,rfl,λi hi hne=>?_,λx=>hB _ _⟩
  ·refine cast (congrArg (Sp k M) ?_) (Sp.bAL ha hb (-(M b (p 0))) (M a (p 0)))
   funext x
   simp only[d2,Nat.one_ne_zero,if_false]; grind
  ·simp only[d2,Nat.one_ne_zero,if_false]; grind
theorem bDL {p W a b c}(hB:∀ x y z,(d3 (M a) (M b) (M c) x y z).natAbs<=W)(ha:a<k)(hb:b<k)(hc:c<k)(h:d3 (M a) (M b) (M c) (p 0) (p 1) (p 2)≠0):Dg k M 3 p W:=by
 refine⟨_,λj=>if j=0 then (λx=>d3 (M a) (M b) (M c) x (p 1) (p 2)) else if j=1 then (λx=>d3 (M a) (M b) (M c) (p 0) x (p 2)) else λx=>d3 (M a) (M b) (M c) (p 0) (p 1) x,h,λj hj=>?_⟩;rcases(show j=0\/j=1\/j=2 by omega)with rfl|rfl|rfl
 ·refine⟨?_,rfl,λi hi hne=>?_,λx=>hB _ _ _⟩
  ·refine cast (congrArg (Sp k M) ?_) (Sp.a69 ha hb hc (d2 (M b) (M c) (p 1) (p 2)) (-(d2 (M a) (M c) (p 1) (p 2))) (d2 (M a) (M b) (p 1) (p 2)))
   funext x
   show _=d3 (M a) (M b) (M c) x (p 1) (p 2);simp only[d3,d2]; grind
  ·show (λx=>d3 (M a) (M b) (M c) x (p 1) (p 2)) (p i)=0;rcases(show i=1\/i=2 by omega)with rfl|rfl
   ·simp only[d3,d2]; grind
   ·simp only[d3,d2]; grind
 ·refine⟨?_,rfl,λi hi hne=>?_,λx=>hB _ _ _⟩
  ·refine cast (congrArg (Sp k M) ?_) (Sp.a69 ha hb hc (-(d2 (M b) (M c) (p 0) (p 2))) (d2 (M a) (M c) (p 0) (p 2)) (-(d2 (M a) (M b) (p 0) (p 2))))
   funext x
   show _=d3 (M a) (M b) (M c) (p 0) x (p 2);simp only[d3,d2]; grind
  ·show (λx=>d3 (M a) (M b) (M c) (p 0) x (p 2)) (p i)=0;rcases(show i=0\/i=2 by omega)with rfl|rfl
   ·simp only[d3,d2]; grind
   ·simp only[d3,d2]; grind
 ·refine⟨?_,rfl,λi hi hne=>?_,λx=>hB _ _ _⟩
  ·refine cast (congrArg (Sp k M) ?_) (Sp.a69 ha hb hc (d2 (M b) (M c) (p 0) (p 1)) (-(d2 (M a) (M c) (p 0) (p 1))) (d2 (M a) (M b) (p 0) (p 1)))
   funext x
   show _=d3 (M a) (M b) (M c) (p 0) (p 1) x;simp only[d3,d2]; grind
  ·show (λx=>d3 (M a) (M b) (M c) (p 0) (p 1) x) (p i)=0;rcases(show i=0\/i=1 by omega)with rfl|rfl
   ·simp only[d3,d2]; grind
   ·simp only[d3,d2]; grind
theorem bD5 {p W a b c d}(hB:∀ x y z u,(d4 (M a) (M b) (M c) (M d) x y z u).natAbs<=W)(ha:a<k)(hb:b<k)(hc:c<k)(hd:d<k)(h:d4 (M a) (M b) (M c) (M d) (p 0) (p 1) (p 2) (p 3)≠0):Dg k M 4 p W:=by
 refine⟨_,λj=>if j=0 then (λx=>d4 (M a) (M b) (M c) (M d) x (p 1) (p 2) (p 3)) else if j=1 then (λx=>d4 (M a) (M b) (M c) (M d) (p 0) x (p 2) (p 3)) else if j=2 then (λx=>d4 (M a) (M b) (M c) (M d) (p 0) (p 1) x (p 3)) else λx=>d4 (M a) (M b) (M c) (M d) (p 0) (p 1) (p 2) x,h,λj hj=>?_⟩;rcases(show j=0\/j=1\/j=2\/j=3 by omega)with rfl|rfl|rfl|rfl
 ·refine⟨?_,rfl,λi hi hne=>?_,λx=>hB _ _ _ _⟩
  ·refine cast (congrArg (Sp k M) ?_) (Sp.a8P ha hb hc hd (d3 (M b) (M c) (M d) (p 1) (p 2) (p 3)) (-(d3 (M a) (M c) (M d) (p 1) (p 2) (p 3))) (d3 (M a) (M b) (M d) (p 1) (p 2) (p 3)) (-(d3 (M a) (M b) (M c) (p 1) (p 2) (p 3))))
   funext x
   show _=d4 (M a) (M b) (M c) (M d) x (p 1) (p 2) (p 3);simp only[d4,d3,d2]; grind
  ·show (λx=>d4 (M a) (M b) (M c) (M d) x (p 1) (p 2) (p 3)) (p i)=0;rcases(show i=1\/i=2\/i=3 by omega)with rfl|rfl|rfl
   ·simp only[d4,d3,d2]; grind
   ·simp only[d4,d3,d2]; grind
   ·simp only[d4,d3,d2]; grind
 ·refine⟨?_,rfl,λi hi hne=>?_,λx=>hB _ _ _ _⟩
  ·refine cast (congrArg (Sp k M) ?_) (Sp.a8P ha hb hc hd (-(d3 (M b) (M c) (M d) (p 0) (p 2) (p 3))) (d3 (M a) (M c) (M d) (p 0) (p 2) (p 3)) (-(d3 (M a) (M b) (M d) (p 0) (p 2) (p 3))) (d3 (M a) (M b) (M c) (p 0) (p 2) (p 3)))
   funext x
   show _=d4 (M a) (M b) (M c) (M d) (p 0) x (p 2) (p 3);simp only[d4,d3,d2]; grind
  ·show (λx=>d4 (M a) (M b) (M c) (M d) (p 0) x (p 2) (p 3)) (p i)=0;rcases(show i=0\/i=2\/i=3 by omega)with rfl|rfl|rfl
   ·simp only[d4,d3,d2]; grind
   ·simp only[d4,d3,d2]; grind
   ·simp only[d4,d3,d2]; grind
 ·refine⟨?_,rfl,λi hi hne=>?_,λx=>hB _ _ _ _⟩
  ·refine cast (congrArg (Sp k M) ?_) (Sp.a8P ha hb hc hd (d3 (M b) (M c) (M d) (p 0) (p 1) (p 3)) (-(d3 (M a) (M c) (M d) (p 0) (p 1) (p 3))) (d3 (M a) (M b) (M d) (p 0) (p 1) (p 3)) (-(d3 (M a) (M b) (M c) (p 0) (p 1) (p 3))))
   funext x
   show _=d4 (M a) (M b) (M c) (M d) (p 0) (p 1) x (p 3);simp only[d4,d3,d2]; grind
  ·show (λx=>d4 (M a) (M b) (M c) (M d) (p 0) (p 1) x (p 3)) (p i)=0;rcases(show i=0\/i=1\/i=3 by omega)with rfl|rfl|rfl
   ·simp only[d4,d3,d2]; grind
   ·simp only[d4,d3,d2]; grind
   ·simp only[d4,d3,d2]; grind
 ·refine⟨?_,rfl,λi hi hne=>?_,λx=>hB _ _ _ _⟩
  ·refine cast (congrArg (Sp k M) ?_) (Sp.a8P ha hb hc hd (-(d3 (M b) (M c) (M d) (p 0) (p 1) (p 2))) (d3 (M a) (M c) (M d) (p 0) (p 1) (p 2)) (-(d3 (M a) (M b) (M d) (p 0) (p 1) (p 2))) (d3 (M a) (M b) (M c) (p 0) (p 1) (p 2)))
   funext x
   show _=d4 (M a) (M b) (M c) (M d) (p 0) (p 1) (p 2) x;simp only[d4,d3,d2]; grind
  ·show (λx=>d4 (M a) (M b) (M c) (M d) (p 0) (p 1) (p 2) x) (p i)=0;rcases(show i=0\/i=1\/i=2 by omega)with rfl|rfl|rfl
   ·simp only[d4,d3,d2]; grind
   ·simp only[d4,d3,d2]; grind
   ·simp only[d4,d3,d2]; grind
def fac(E:Nat):Nat->Nat
 | 0=>1
 | 1=>E
 | 2=>2*(E*E)
 | 3=>6*(E*E*E)
 | _=>24*(E*E*E*E)
theorem aR9 {r E H p}(hr:r<=4)(hH:Hn r H p)(hs:∀ j,j<r->∃ t ,t≠0/\Sp k M (λi=>t*H j i))(hE:∀ j,j<k->∀ x,(M j x).natAbs<=E):Dg k M r p (fac E r):=by
 have pv:∀ j,j<r->H j (p j)≠0:=λj hj=>by have:=hH.pos j hj; omega
 have lo:∀ i j,i<j->j<r->H j (p i)=0:=λi j hij hj=>hH.low j hj _ (hH.inc i j hij hj)
 rcases(show r=0\/r=1\/r=2\/r=3\/r=4 by omega)with rfl|rfl|rfl|rfl|rfl
 ·exact⟨1,λ_ _=>0,by decide,λj hj=>by omega⟩
 ·obtain⟨t,ht,h0⟩:=hs 0 Z;obtain⟨a,ha,q0⟩:=aZJ ht h0 (pv 0 Z);exact bD1 (hE a ha) ha q0
 ·obtain⟨t,ht,h0⟩:=hs 0 Z;obtain⟨a,ha,q0⟩:=aZJ ht h0 (pv 0 Z);obtain⟨t,ht,h0⟩:=hs 1 Z;obtain⟨b,hb,q1⟩:=a2T ht h0 (lo 0 1 Z Z) (pv 1 Z) q0;exact bDJ (d2B (hE a ha) (hE b hb)) ha hb q1
 ·obtain⟨t,ht,h0⟩:=hs 0 Z;obtain⟨a,ha,q0⟩:=aZJ ht h0 (pv 0 Z);obtain⟨t,ht,h0⟩:=hs 1 Z;obtain⟨b,hb,q1⟩:=a2T ht h0 (lo 0 1 Z Z) (pv 1 Z) q0;obtain⟨t,ht,h0⟩:=hs 2 Z;obtain⟨c,hc,q2⟩:=a90 ht h0 (lo 0 2 Z Z) (lo 1 2 Z Z) (pv 2 Z) q1;exact bDL (d3B (hE a ha) (hE b hb) (hE c hc)) ha hb hc q2
 ·obtain⟨t,ht,h0⟩:=hs 0 Z;obtain⟨a,ha,q0⟩:=aZJ ht h0 (pv 0 Z);obtain⟨t,ht,h0⟩:=hs 1 Z;obtain⟨b,hb,q1⟩:=a2T ht h0 (lo 0 1 Z Z) (pv 1 Z) q0;obtain⟨t,ht,h0⟩:=hs 2 Z;obtain⟨c,hc,q2⟩:=a90 ht h0 (lo 0 2 Z Z) (lo 1 2 Z Z) (pv 2 Z) q1;obtain⟨t,ht,h0⟩:=hs 3 Z;obtain⟨d,hd,q3⟩:=bC3 ht h0 (lo 0 3 Z Z) (lo 1 3 Z Z) (lo 2 3 Z Z) (pv 3 Z) q2
  exact bD5 (d4B (hE a ha) (hE b hb) (hE c hc) (hE d hd)) ha hb hc hd q3
end
theorem Hn.zero {k:Nat} {M:Nat->V} {c:Nat->Nat} (h:Hn k M c) {v:V} (hv:Sp k M v) (hz:∀ i,i<k->v (c i)=0):v=λ_=>0 :=
 h.small hv λi hi=>by have:=h.pos i hi; rw[hz i hi]; constructor <;> omega
theorem Hn.a4G:∀ {k:Nat} {M:Nat->V} {c:Nat->Nat},Hn k M c->∀ {v:V},Sp k M v->∀ j,j<k->(∀ i,i<j->v (c i)=0)->M j (c j) ∣ v (c j)
 | 0,_,_,_,_,_,j,hj,_=>Z
 | k+1,M,c,h,v,hv,j,hj,hz=>by
  obtain⟨t,u,hu,rfl⟩:=hv.first;have h0:=h.aJC hu (Nat.le_refl _);cases j with
  | zero=>exact⟨t,by simp only[h0,Int.zero_add]; exact Int.mul_comm _ _⟩
  | succ j =>
   have h1:=hz 0 Z;have hp:=h.pos 0 Z;simp only[h0,Int.zero_add]at h1;have ht:t=0:=by
    rcases Int.mul_eq_zero.1 h1 with h2|h2
    ·exact h2
    ·omega
   subst ht;have:=Hn.a4G h.tail hu j Z λi hi=>by have:=hz (i+1) Z; simpa using this
   simpa using this
def sm(f:Nat->Int):Nat->Int
 | 0=>0
 | n+1=>sm f n+f n
theorem aJ6 {f}:∀ {n},(∀ i,i<n->f i=0)->sm f n=0
 | 0,_=>rfl
 | n+1,h=>by rw[sm,aJ6 λi hi=>h i Z,h n R]; rfl
theorem aX1 {f j}:∀ {n},j<n->(∀ i,i<n->i≠j->f i=0)->sm f n=f j
 | 0,h,_=>Z
 | n+1,h,hz=>by
  rw[sm]
  by_cases hj:j=n
  ·subst hj;rw[aJ6 λi hi=>hz i Z Z,Int.zero_add]
  ·rw[aX1 Z λi hi=>hz i Z,hz n R (Ne.symm hj),Int.add_zero]
theorem a6L {f B}:∀ {n},(∀ i,i<n->(f i).natAbs<=B)->(sm f n).natAbs<=n*B
 | 0,_=>by simp[sm]
 | n+1,h=>by
  have h1:=a6L (n:=n) λi hi=>h i Z
  have h2:=h n R;rw[Nat.succ_mul];show (sm f n+f n).natAbs<=_;omega
theorem Sp.sm {k M}{w:Nat->V}{s:Nat->Int}:∀ {n},(∀ j,j<n->Sp k M (w j))->Sp k M (λx=>Lz.sm (λj=>s j*w j x) n)
 | 0,_=>Sp.zero
 | n+1,h=>Sp.comb (s n) (Sp.sm λj hj=>h j Z) (h n R)
theorem Hn.a6T {r W:Nat} {H:Nat->V} {p:Nat->Nat} (h:Hn r H p) (hd:Dg r H r p W):∀ i,i<r->∀ x,(H i x).natAbs<=r*W:=by
 obtain⟨D,w,hD,hw⟩:=hd;intro i hi x;have hz:(λy=>D*H i y-Lz.sm (λj=>H i (p j)*w j y) r)=λ_=>0:=by
  refine h.zero (Sp.sub (Sp.smul D (Sp.mem hi)) (Sp.sm λj hj=>(hw j hj).1)) λl hl=>?_
  rw[aX1 (f:=λj=>H i (p j)*w j (p l)) hl λj hj hne=>by rw[(hw j hj).2.2.1 l hl (Ne.symm hne),Int.mul_zero]];rw[(hw l hl).2.1];grind
 have h1:=congrFun hz x;have h2:D*H i x=Lz.sm (λj=>H i (p j)*w j x) r:=by
  have:D*H i x-Lz.sm (λj=>H i (p j)*w j x) r=0:=h1;omega
 have h3:(Lz.sm (λj=>H i (p j)*w j x) r).natAbs<=r*(D.natAbs*W):=by
  refine a6L λj hj=>aI5 ?_ ((hw j hj).2.2.2 x)
  have e1:H j (p j) ∣ D:=by
   have:=h.a4G (hw j hj).1 j hj λl hl=>(hw j hj).2.2.1 l Z Z
   rwa[(hw j hj).2.1]at this
  have e2:=Int.natAbs_dvd_natAbs.2 e1;have e3:=Nat.le_of_dvd Z e2;rcases Nat.lt_trichotomy i j with g|g|g
  ·have:=h.red i j g hj;omega
  ·subst g; exact e3
  ·rw[h.low i hi _ (h.inc j i g hi)]; simp
 rw[<- h2,Int.natAbs_mul]at h3;have e:r*(D.natAbs*W)=D.natAbs*(r*W):=zf
 rw[e]at h3;exact Nat.le_of_mul_le_mul_left h3 Z
end Go.Lz
namespace Go.PM
open Go Go.RowKit Go.Proofs Go.Lz
theorem a3W a n v:Zr (a+n) v=Zr a v++Zr n (λy=>v (a+y)):=by
 unfold Zr;rw[List.range_add,List.map_append,List.map_map];rfl
theorem bA2:Zn 1=ByteArray.mk #[49]:=Y
def aCF(J:Nat->Nat) (i o n:Nat) (A:List (List ByteArray)) (t:Nat):=bE ((J i,o,n),(),(n:Int),(t:Int),A,())
section
variable {o k n:Nat} {m:List (Nat×Nat×Nat)} {A:List (List ByteArray)} {J:Nat->Nat} {M:Nat->V}
theorem lZ.ext (h:lZ o k n m A J M) R:lZ o k n m (A++R) J M :=
 ⟨h.ml,λi hi=>by
  obtain⟨pre,h1,h2⟩:=h.at_ i hi;grind,h.inj⟩
theorem lZ.take (h:lZ o k n m A J M){d}(hd:d<=k):lZ o d n (m.take d) A J M :=
 ⟨by rw[h.ml,<- List.map_take,List.take_range,Nat.min_eq_left hd],λi hi=>h.at_ i Z,λi j hi hj=>h.inj i j Z Z⟩
theorem a6N(h:lZ o k n m A J M) (hn:n<1048576) {i:Nat} (hi:i<k) :
  ∃ L:Int,iV () ((J i,o,n),()) A=some ((L,()),A)/\((L = -1/\∀ x,x<n->M i x=0)\/∃ x,x<n/\L=(x:Int)/\M i x≠0/\∀ y,y<x->M i y=0):=by
 have hg:∀ t,t<n->PM.dE A (J i)=o+n/\PM.dU A (J i) ((o+t)*1) ByteArray.empty=Zn (M i t):=λt ht=>⟨h.dE hi,by rw[Nat.mul_one]; exact h.dU hi ht⟩
 have step1:∀ t,t<n->∀ b,decide (M i t=0)=b->aCF J i o n A t=(bif b then some (.inl ((J i,o,n),(),(n:Int),((t+1:Nat):Int),A,())) else some (.inr (.inl ((t:Int),A,())))):=λt ht b hb=>by
  have e1:ltI (t:Int) (n:Int)=true:=by rw[aE]; exact oT Z
  have e2:aF (t:Int) n=true:=by rw[aK]; exact oT Z
  have e3:((t:Nat):Int).toNat=t:=oN _;have e4:Nat.blt ((o+t)*1) (o+n)=true:=by rw[bT]; exact oT Z
  have e5:=bI t Z;unfold aCF;simp only[bE,e1,e2,e3,(hg t ht).1,e4,(hg t ht).2,oC,C9,R9,aD,hb,e5];cases b <;> rfl
 by_cases hz:∀ x,x<n->M i x=0
 ·refine⟨-1,?_,.inl ⟨rfl,hz⟩⟩;have key:=bL (step:=bE) (N:=2^64) (λt=>((J i,o,n),(),(n:Int),(t:Int),A,())) n (.inr (A,())) Z (λt ht=>step1 t ht true (oT (hz t ht))) (by
   have e1:ltI (n:Int) (n:Int)=false:=by rw[aE]; exact oF Z
   simp only[bE,e1,oD])
  have key:cQ ((J i,o,n),(),((n:Nat):Int),0,A,())=_:=key;simp only[iV,bP,key,aD,pY]
 ·obtain⟨x,hx1,hx2,hx3⟩:∃ x,x<n/\M i x≠0/\∀ y,y<x->M i y=0:=by
   obtain⟨x0,h1⟩:=Classical.not_forall.1 hz;obtain⟨h1,h2⟩:=Classical.not_imp.1 h1;have:∀ N x0,x0<N->x0<n->M i x0≠0->∃ x,x<n/\M i x≠0/\∀ y,y<x->M i y=0:=by
    intro N
    induction N with
    | zero=>intro x0 h; omega
    | succ N ih =>
     intro x0 h0 h1 h2
     by_cases hy:∀ y,y<x0->M i y=0
     ·exact⟨x0,h1,h2,hy⟩
     ·obtain⟨y,g1⟩:=Classical.not_forall.1 hy;obtain⟨g1,g2⟩:=Classical.not_imp.1 g1;exact ih y Z Z g2
   exact this (x0+1) x0 Z h1 h2
  refine⟨(x:Int),?_,.inr ⟨x,hx1,rfl,hx2,hx3⟩⟩;have key:=bL (step:=bE) (N:=2^64) (λt=>((J i,o,n),(),(n:Int),(t:Int),A,())) x (.inl ((x:Int),A,())) Z (λt ht=>step1 t Z true (oT (hx3 t ht))) (step1 x hx1 false (oF hx2));have key:cQ ((J i,o,n),(),((n:Nat):Int),0,A,())=_:=key;simp only[iV,bP,key,aD,KP]
theorem a3E(hn:n<1048576) (A:List (List ByteArray)):pO () ((n:Int),()) A=some (Zr n (λ_=>0),A):=by
 have e1:ltI (n:Int) 0=false:=by rw[aE]; exact oF Z
 have e2:ltI (n:Int) (n:Int)=false:=by rw[aE]; exact oF Z
 have e3:ltI 1048576 (n:Int)=false:=by rw[aE]; exact oF Z
 have e4:((n:Nat):Int).toNat=n:=oN _;have e5:=aPT (List.replicate n 0) (by simp; omega) (λa ha=>by have:=List.eq_of_mem_replicate ha; omega);have e6:(List.replicate n (0:Int)).map Zn=Zr n (λ_=>0):=by
  unfold Zr;rw[List.map_replicate];refine List.ext_getElem R λi h1 h2=>R
 rw[e6]at e5;simp only[pO,e1,e2,e3,e4,e5,aD,Bool.not_false,oC]
theorem a2J(M:Nat->V) {c:Nat} (hc:c<n):(List.range k).map (λi=>Zn (M i c))++(Zr n (λ_=>0)).set c (ByteArray.mk #[49])=Zr (k+n) (wide n k M c):=by
 rw[a3W]
 congr 1
 ·unfold Zr;refine List.map_congr_left λi hi=>?_
  have:=List.mem_range.1 hi;simp only[wide,this,if_true]
 ·refine List.ext_getElem (by simp[zP]) λi h1 h2=>?_
  rw[zP]at h2;rw[List.getElem_set];have e1:¬ k+i<k:=Z
  by_cases hic:c=i
  ·subst hic;simp only[if_true,Zr,List.getElem_map,List.getElem_range,wide,e1,if_false];exact bA2.symm
  ·have e2:¬ k+i=k+c:=Z
   simp only[hic,if_false,Zr,List.getElem_map,List.getElem_range,wide,e1,e2]
theorem a0O(hk:k<1048576) (hn:n<1048576) (hkn:k+n<1048576) (h:lZ o k n m A J M) :
  iY (m,(n:Int),[],(n:Int),0,A,())=some (m,(n:Int),(List.range n).map (λc=>(A.length+c,0,k+n)),A++(List.range n).map (λc=>Zr (k+n) (wide n k M c)),()):=by
 have key:=bL (step:=iZ) (N:=2^64)
  (λt=>(m,(n:Int),(List.range t).map (λc=>(A.length+c,0,k+n)),(n:Int),(t:Int),A++(List.range t).map (λc=>Zr (k+n) (wide n k M c)),())) n
  (m,(n:Int),(List.range n).map (λc=>(A.length+c,0,k+n)),A++(List.range n).map (λc=>Zr (k+n) (wide n k M c)),()) Z (λt ht=>?_) ?_
 ·have e0:A++(List.range 0).map (λc=>Zr (k+n) (wide n k M c))=A:=ze
  have key:iY (m,(n:Int),[],(n:Int),0,A++(List.range 0).map (λc=>Zr (k+n) (wide n k M c)),())=_:=key;rwa[e0]at key
 ·generalize hR:(List.range t).map (λc=>Zr (k+n) (wide n k M c))=R;have h':=h.ext R;generalize hB:A++R=B at h' ⊢;have hlen:B.length=A.length+t:=by rw[<- hB,<- hR]; simp
  have col:=bL (step:=iT) (N:=2^64)
   (λs=>(m,(n:Int),(List.range t).map (λc=>(A.length+c,0,k+n)),(t:Int),(List.range s).map (λi=>Zn (M i t)),(n:Int),(t:Int),m,(m.length:Int),(s:Int),B,())) k
   (m,(n:Int),(List.range t).map (λc=>(A.length+c,0,k+n)),(t:Int),(List.range k).map (λi=>Zn (M i t)),(n:Int),(t:Int),B,()) Z (λs hs=>?_) ?_
  ·have col:mE (m,(n:Int),(List.range t).map (λc=>(A.length+c,0,k+n)),(t:Int),[],(n:Int),(t:Int),m,(m.length:Int),0,B,())=_:=col;have e1:ltI (t:Int) (n:Int)=true:=by rw[aE]; exact oT Z
   have e2:aF (t:Int) n=true:=by rw[aK]; exact oT Z
   have e3:((t:Nat):Int).toNat=t:=oN _;have e4:Nat.blt t n=true:=by rw[bT]; exact oT ht
   have e5:(Zr n (λ_=>0)).length=n:=zP _ _;have e6:Nat.ble n 1048576=true:=by rw[dF]; exact oT Z
   have e7:Nat.ble ((List.range k).map (λi=>Zn (M i t))).length 1048576=true:=by rw[dF,List.length_map,List.length_range]; exact oT Z
   have e8:=a2J (n:=n) (k:=k) M ht;have e9:(Zr (k+n) (wide n k M t)).length=k+n:=zP _ _;have e10:Nat.ble [(A.length+t,0,k+n)].length 1048576=true:=rfl;have e11:Nat.ble ((List.range t).map (λc=>(A.length+c,0,k+n))).length 1048576=true:=by rw[dF,List.length_map,List.length_range]; exact oT Z
   have e12:=bI t Z;have e13:(List.range t).map (λc=>(A.length+c,0,k+n))++[(A.length+t,0,k+n)]=(List.range (t+1)).map (λc=>(A.length+c,0,k+n)):=by rw[List.range_succ,List.map_append]; rfl
   have e14:B++[Zr (k+n) (wide n k M t)]=A++(List.range (t+1)).map (λc=>Zr (k+n) (wide n k M c)):=by rw[<- hB,<- hR,List.range_succ,List.map_append,List.append_assoc]; rfl
   have e15:((Zr n (λ_=>0)).set t (ByteArray.mk #[49])).length=n:=by rw[List.length_set,zP]
   simp only[iZ,e1,oC,col,aD,a3E hn,e5,e2,e3,e4,e15,e6,e7,e8,e9,hlen,e10,e11,e12,e13,e14]
  ·have e1:ltI (s:Int) (k:Int)=true:=by rw[aE]; exact oT Z
   have e2:aF (s:Int) k=true:=by rw[aK]; exact oT Z
   have e3:((s:Nat):Int).toNat=s:=oN _;have e4:aF (t:Int) n=true:=by rw[aK]; exact oT Z
   have e5:((t:Nat):Int).toNat=t:=oN _;have e6:Nat.blt ((o+t)*1) (o+n)=true:=by rw[bT]; exact oT Z
   have e7:PM.dU B (J s) ((o+t)*1) ByteArray.empty=Zn (M s t):=by rw[Nat.mul_one]; exact h'.dU hs ht
   have e8:Nat.ble [Zn (M s t)].length 1048576=true:=rfl;have e9:Nat.ble ((List.range s).map (λi=>Zn (M i t))).length 1048576=true:=by rw[dF,List.length_map,List.length_range]; exact oT Z
   have e10:=bI s Z;have e11:(List.range s).map (λi=>Zn (M i t))++[Zn (M s t)]=(List.range (s+1)).map (λi=>Zn (M i t)):=by rw[List.range_succ,List.map_append]; rfl
   simp only[iT,h.len,e1,e2,e3,h'.get hs,e4,e5,h'.dE hs,e6,e7,e8,e9,e10,e11,oC]
  ·have e1:ltI (k:Int) (k:Int)=false:=by rw[aE]; exact oF Z
   simp only[iT,h.len,e1,oD]
 ·have e1:ltI (n:Int) (n:Int)=false:=by rw[aE]; exact oF Z
  simp only[iZ,e1,oD]
end
theorem Hn.split {d W p}(h:Hn d W p) k:∃ j,j<=d/\(∀ i,i<j->p i<k)/\∀ i,j<=i->i<d->k<=p i:=by
 have:∀ t,t<=d->∃ j,j<=t/\(∀ i,i<j->p i<k)/\∀ i,j<=i->i<t->k<=p i:=by
  intro t
  induction t with
  | zero=>simp
  | succ t ih =>
   intro ht;obtain⟨j,h1,h2,h3⟩:=ih Z
   by_cases hj:j=t
   ·by_cases hp:p t<k
    ·exact⟨t+1,by omega,λi hi=>by
      grind,λi g1 g2=>by omega⟩
    ·exact⟨j,by omega,h2,λi g1 g2=>by
      grind⟩
   ·exact⟨j,by omega,h2,λi g1 g2=>by
     by_cases e:i=t
     ·subst e;have a1:=h3 j (oM _) Z;have a2:=h.inc j i Z Z;omega
     ·exact h3 i g1 Z⟩
 exact this d (oM _)
section
variable {o k n d:Nat} {m:List (Nat×Nat×Nat)} {A:List (List ByteArray)} {J:Nat->Nat} {M:Nat->V}
theorem lZ.behind (h:lZ o d (k+n) m A J M){j}(hj:j<=d):lZ (o+k) (d-j) n ((List.range (d-j)).map λi=>(J (j+i),o+k,n)) A (λi=>J (j+i)) (λi y=>M (j+i) (k+y)) :=
 ⟨rfl,λi hi=>by
  obtain⟨pre,h1,h2⟩:=h.at_ (j+i) Z;refine⟨pre++Zr k (M (j+i)),by rw[oH,zP,h1],?_⟩;rw[h2,a3W,List.append_assoc],λa b ha hb e=>by
  have:=h.inj (j+a) (j+b) Z Z e;omega⟩
theorem aU8(hkn:k+n<1048576) (hd:d<1048576) (h:lZ o d (k+n) m A J M) {p:Nat->Nat} (hH:Hn d M p) (hw:Wd d (k+n) M) {j:Nat} (hj:j<=d) (h1:∀ i,i<j->p i<k) (h2:∀ i,j<=i->i<d->k<=p i) :
  iS ((k:Int),(n:Int),[],m,(m.length:Int),0,A,())=some ((n:Int),(List.range (d-j)).map (λi=>(J (j+i),o+k,n)),A,()):=by
 have key:=bL (step:=fD) (N:=2^64)
  (λt=>((k:Int),(n:Int),(List.range (t-j)).map (λi=>(J (j+i),o+k,n)),m,(m.length:Int),(t:Int),A,())) d
  ((n:Int),(List.range (d-j)).map (λi=>(J (j+i),o+k,n)),A,()) Z (λt ht=>?_) ?_
 ·have key:iS ((k:Int),(n:Int),(List.range (0-j)).map (λi=>(J (j+i),o+k,n)),m,(m.length:Int),0,A,())=_:=key;rwa[Nat.zero_sub]at key
 ·have e1:ltI (t:Int) (d:Int)=true:=by rw[aE]; exact oT Z
  have e2:aF (t:Int) d=true:=by rw[aK]; exact oT Z
  have e3:((t:Nat):Int).toNat=t:=oN _;obtain⟨L,q1,q2⟩:=a6N h Z ht;have hp:=hH.pos t ht;have hpl:p t<k+n:=by
   refine Classical.byContradiction λhc=>?_
   have:=hw t ht (p t) Z;omega
  have hL:L=(p t:Int):=by
   rcases q2 with ⟨_,q3⟩|⟨x,g1,g2,g3,g4⟩
   ·have:=q3 (p t) hpl; omega
   ·rw[g2]
    congr 1
    rcases Nat.lt_trichotomy x (p t)with g|g|g
    ·exact absurd (hH.low t ht x g) g3
    ·exact g
    ·have:=g4 (p t) g; omega
  subst hL;have e4:=bI t Z
  by_cases htj:t<j
  ·have e5:ltI (p t:Int) (k:Int)=true:=by rw[aE]; exact oT (by have:=h1 t htj; omega)
   have e6:t+1-j=0:=Z
   have e7:t-j=0:=Z
   simp only[fD,h.len,e1,e2,e3,h.get ht,q1,aD,e5,e4,e6,e7,oC,oD,Bool.not_true]
  ·have e5:ltI (p t:Int) (k:Int)=false:=by rw[aE]; exact oF (by have:=h2 t Z ht; omega)
   have e6:ltI (k:Int) 0=false:=by rw[aE]; exact oF Z
   have e7:((k:Nat):Int).toNat=k:=oN _;have e8:Nat.ble k (k+n)=true:=by rw[dF]; exact oT Z
   have e9:Nat.ble (k+n) (k+n)=true:=by rw[dF]; exact oT Z
   have e10:k+n-k=n:=Z
   have e11:Nat.ble [(J t,o+k,n)].length 1048576=true:=rfl;have e12:Nat.ble ((List.range (t-j)).map (λi=>(J (j+i),o+k,n))).length 1048576=true:=by rw[dF,List.length_map,List.length_range]; exact oT Z
   have e13:(List.range (t-j)).map (λi=>(J (j+i),o+k,n))++[(J t,o+k,n)]=(List.range (t+1-j)).map (λi=>(J (j+i),o+k,n)):=by
    rw[show t+1-j=(t-j)+1 by omega,List.range_succ,List.map_append];have:j+(t-j)=t:=Z
    simp only[List.map_cons,List.map_nil,this]
   simp only[fD,h.len,e1,e2,e3,h.get ht,q1,aD,e5,e4,e6,e7,e8,e9,e10,e11,e12,e13,oC,oD,Bool.not_false]
 ·have e1:ltI (d:Int) (d:Int)=false:=by rw[aE]; exact oF Z
  simp only[fD,h.len,e1,oD]
theorem Wd.wide (hw:Wd k n M):Wd n (k+n) (wide n k M):=λi hi x hx=>by
 have e1:¬ x<k:=Z
 have e2:¬ x=k+i:=Z
 simp only[Lz.wide,e1,e2,if_false]
theorem Big.wide {E}(hE:Big k n M E)(h1:1<=E):Big n (k+n) (wide n k M) E:=λi hi x hx=>by
 simp only[Lz.wide];split
 next hk=> exact hE x hk i hi
 grind
theorem aIF {W:Nat->V} {p:Nat->Nat} (hH:Hn d W p) (hs:Same n (wide n k M) d W) {j:Nat} (hj:j<=d) (h1:∀ i,i<j->p i<k) (h2:∀ i,j<=i->i<d->k<=p i) :
  Hn (d-j) (λi y=>W (j+i) (k+y)) (λi=>p (j+i)-k)/\wY n k M (d-j) (λi y=>W (j+i) (k+y)):=by
 refine⟨⟨λa b hab hb=>?_,λi hi x hx=>?_,λi hi=>?_,λa b hab hb=>?_⟩,a1X hH hs hj h1 h2⟩
 ·have g1:=h2 (j+a) Z Z;have g2:=hH.inc (j+a) (j+b) Z Z;show p (j+a)-k<p (j+b)-k;omega
 ·exact hH.low (j+i) Z (k+x) (by have:x<p (j+i)-k:=hx; omega)
 ·have g1:=h2 (j+i) Z Z;show 0<W (j+i) (k+(p (j+i)-k));rw[show k+(p (j+i)-k)=p (j+i)by omega];exact hH.pos (j+i) Z
 ·have g1:=h2 (j+b) Z Z;show 0<=W (j+a) (k+(p (j+b)-k))/\W (j+a) (k+(p (j+b)-k))<W (j+b) (k+(p (j+b)-k));rw[show k+(p (j+b)-k)=p (j+b)by omega];exact hH.red (j+a) (j+b) Z Z
theorem aPC {E T:Nat->Nat} (hk:k<1048576) (hn:n<1048576) (hkn:k+n<1048576) (h:lZ o k n m A J M) (hw:Wd k n M) (hE:Big k n M (E 0)) (h1E:1<=E 0) (hb:Bds n (k+n) E T)
  (hK:∀ r K p,r<=n->Hn r K p->wY n k M r K->∃ E2 T2:Nat->Nat,Big r n K (E2 0)/\Bds r n E2 T2) :
  ∃ m' A' J' K p r,cF () (m,(n:Int),()) A=some (m',A')/\lZ k r n m' A' J' K/\r<=n/\Hn r K p/\wY n k M r K/\Wd r n K:=by
 have hl:=a0O hk hn hkn h;have hL:lZ 0 n (k+n) ((List.range n).map λc=>(A.length+c,0,k+n)) (A++(List.range n).map λc=>Zr (k+n) (wide n k M c)) (λc=>A.length+c) (wide n k M) :=
  ⟨rfl,λi hi=>⟨[],rfl,by
   rw[List.getElem?_append_right Z,show A.length+i-A.length=i by omega,List.getElem?_map,List.getElem?_range hi];rfl⟩,λi j _ _ e=>by omega⟩
 obtain⟨m1,A1,J1,W,d,p,g1,g2,g3,g4,g5,g6,g7⟩:=aJZ hn hkn hL hw.wide (hE.wide h1E) hb;obtain⟨j,b1,b2,b3⟩:=Hn.split g4 k;have hL2:=g3.take g2;have hwd:Wd d (k+n) W:=λi hi x hx=>g6 i Z x hx
 have hbl:=aU8 hkn Z hL2 g4 hwd b1 b2 b3;obtain⟨c1,c2⟩:=aIF g4 g5 b1 b2 b3;have hL3:=hL2.behind b1;have hwK:Wd (d-j) n (λi y=>W (j+i) (k+y)):=λi hi x hx=>hwd (j+i) Z (k+x) Z
 obtain⟨E2,T2,k1,k2⟩:=hK _ _ _ Z c1 c2;obtain⟨m2,A2,J2,K,r,p2,f1,f2,f3,f4,f5,f6,f7⟩:=aJZ (show d-j<1048576 by omega) hn hL3 hwK k1 k2;rw[Nat.zero_add]at f3;refine⟨m2.take r,A2,J2,K,p2,r,?_,f3.take f2,by omega,f4,?_,λi hi x hx=>f6 i Z x hx⟩
 ·have e1:aB .i64 ((k:Int)+(n:Int))=((k+n:Nat):Int):=by rw[wrap64 Z Z]; omega
  have hml:=h.len;simp only[cF,hl,aD,hml,e1,g1,jV,hbl,f1]
 ·intro y;rw[<- f5 y];exact c2 y
end
theorem KB n v:(Vr n v).length=n:=by simp[Vr]
theorem aMM {n i} v (h:i<n):(Vr n v).getD i 0=v i:=by simp[Vr,h]
theorem a4S {n v B}(h:∀ x,x<n->(v x).natAbs<=B):∀ a∈Vr n v,a.natAbs<=B:=by
 intro a ha;obtain⟨x,hx,rfl⟩:=List.mem_map.1 ha;grind
def Mr(d n:Nat) (M:Nat->V):List (List Int):=(List.range d).map λi=>Vr n (M i)
theorem qY d n M:(Mr d n M).length=d:=by simp[Mr]
theorem aSL {d n i} M (h:i<d) z:(Mr d n M).getD i z=Vr n (M i):=by simp[Mr,h]
theorem aLO {d n M r}(h:r∈Mr d n M):∃ i,i<d/\r=Vr n (M i):=by
 obtain⟨i,hi,rfl⟩:=List.mem_map.1 h;grind
theorem a3X(r:List Int)(hl:r.length<1048576)(hr:∀ a∈r,a.natAbs<=1000000000):jQ (r,(),())=some (false,()):=by
 have key:=bL (step:=eT) (N:=2^64) (λt=>(r,(),(r.length:Int),(t:Int),())) r.length (.inr ()) Z (λt ht=>?_) ?_
 ·have key:aX eT (2^64) (r,(),(r.length:Int),0,())=some (.inr ()):=key;have e2:ltI (-1) 0=true:=O
  simp only[jQ,qX,mV,key,aD,pY,e2,Bool.not_true]
 ·have e1:ltI (t:Int) (r.length:Int)=true:=by rw[aE]; exact oT Z
  have e2:aF (t:Int) r.length=true:=by rw[aK]; exact oT Z
  have e3:((t:Nat):Int).toNat=t:=oN _;have e4:r.getD t 0=r[t]:=by simp[List.getD,ht]
  have b:=hr r[t] (List.getElem_mem ht);have e5:ltI r[t] (-1000000000)=false:=by rw[aE]; exact oF Z
  have e6:ltI 1000000000 r[t]=false:=by rw[aE]; exact oF Z
  have e7:=bI t Z;simp only[eT,e1,e2,e3,e4,XH,e5,e6,aD,oC,oD,e7]
 ·have e1:ltI (r.length:Int) (r.length:Int)=false:=by rw[aE]; exact oF Z
  simp only[eT,e1,oD]
theorem aKP(rows:List (List Int)){n}(hk:rows.length<=12)(hn:n<=12)(hlen:∀ r∈rows,r.length=n)(hr:∀ r∈rows,∀ a∈r,a.natAbs<=1000000000):PN (rows,())=some (0,()):=by
 have key:=bL (step:=wJ) (N:=2^64) (λt=>(rows,rows,(rows.length:Int),(t:Int),())) rows.length (.inr ()) Z (λt ht=>?_) ?_
 ·have key:aX wJ (2^64) (rows,rows,(rows.length:Int),0,())=some (.inr ()):=key;have e1:ltI 12 (rows.length:Int)=false:=by rw[aE]; exact oF Z
  simp only[PN,I3,e1,oD,key,aD,pY]
 ·have e1:ltI (t:Int) (rows.length:Int)=true:=by rw[aE]; exact oT Z
  have e2:aF (t:Int) rows.length=true:=by rw[aK]; exact oT Z
  have e3:((t:Nat):Int).toNat=t:=oN _;have e4:rows.getD t []=rows[t]:=by simp[List.getD,ht]
  have e4':rows.getD 0 []=rows[0]:=by simp[List.getD,show 0<rows.length by omega]
  have hm:=List.getElem_mem ht;have hm0:=List.getElem_mem (show 0<rows.length by omega);have e5:ltI 12 (rows[t].length:Int)=false:=by rw[aE,hlen _ hm]; exact oF Z
  have e6:aF 0 rows.length=true:=by rw[aK]; exact oT Z
  have e7:eqI (rows[t].length:Int) (rows[0].length:Int)=true:=by rw[bZ,hlen _ hm,hlen _ hm0]; exact oT rfl
  have e8:=a3X rows[t] (by rw[hlen _ hm]; omega) (hr _ hm);have e9:=bI t Z;simp only[wJ,e1,e2,e3,e4,e4',e5,e6,e7,e8,e9,aD,Bool.not_true,oC,oD]
 ·have e1:ltI (rows.length:Int) (rows.length:Int)=false:=by rw[aE]; exact oF Z
  simp only[wJ,e1,oD]
theorem a5G {n c:Nat} {v:V} (hn:n<1048576) (hc:c<n) (hz:∀ x,x<c->v x=0) (hp:v c≠0):I4 (Vr n v,())=some ((c:Int),()):=by
 have hl:=KB n v;have key:=bL (step:=eR) (N:=2^64) (λt=>(Vr n v,(),(n:Int),(t:Int),())) c (.inl ((c:Int),())) Z (λt ht=>?_) ?_
 ·have key:aX eR (2^64) (Vr n v,(),(n:Int),0,())=some (.inl ((c:Int),())):=key;simp only[I4,qW,mY,hl,key,aD,KP]
 ·have e1:ltI (t:Int) (n:Int)=true:=by rw[aE]; exact oT Z
  have e2:aF (t:Int) n=true:=by rw[aK]; exact oT Z
  have e3:((t:Nat):Int).toNat=t:=oN _;have e4:(Vr n v).getD t 0=0:=by rw[aMM v Z]; exact hz t ht
  have e5:eqI 0 0=true:=O
  have e9:=bI t Z;simp only[eR,hl,e1,e2,e3,e4,EF,e5,e9,aD,Bool.not_true,oC,oD]
 ·have e1:ltI (c:Int) (n:Int)=true:=by rw[aE]; exact oT Z
  have e2:aF (c:Int) n=true:=by rw[aK]; exact oT Z
  have e3:((c:Nat):Int).toNat=c:=oN _;have e4:eqI ((Vr n v).getD c 0) 0=false:=by rw[aMM v hc,bZ]; exact oF hp
  simp only[eR,hl,e1,e2,e3,EF,e4,aD,Bool.not_false,oC]
theorem Hn.aYC {d n:Nat} {M:Nat->V} {p:Nat->Nat} (h:Hn d M p) (hw:∀ i,i<d->∀ x,n<=x->M i x=0) {i:Nat} (hi:i<d):p i<n:=by
 rcases oG (p i) n with g|g
 ·exact g
 ·have:=hw i hi _ g;have:=h.pos i hi;omega
theorem a3Q {d n t M p}(h:Hn d M p)(hw:∀ i,i<d->∀ x,n<=x->M i x=0)(hd:d<1048576)(hn:n<1048576)(ht:t<d) :
  eZ (Mr t n M,((p t:Int),Vr n (M t),()),())=some (false,()):=by
 have hl:=qY t n M;have hp:=Hn.aYC h hw ht;have key:=bL (step:=dC) (N:=2^64) (λs=>(Mr t n M,((p t:Int),Vr n (M t),()),(t:Int),(s:Int),())) t (.inr ()) Z (λs hs=>?_) ?_
 ·have key:aX dC (2^64) (Mr t n M,((p t:Int),Vr n (M t),()),(t:Int),0,())=some (.inr ()):=key;have e2:ltI (-1) 0=true:=O
  simp only[eZ,lN,jG,hl,key,aD,pY,e2,Bool.not_true]
 ·have e1:ltI (s:Int) (t:Int)=true:=by rw[aE]; exact oT Z
  have e2:aF (s:Int) t=true:=by rw[aK]; exact oT Z
  have e3:∀ a:Nat,((a:Nat):Int).toNat=a:=λa=>oN _
  have e4:=aSL (n:=n) M hs [];have e5:aF (p t:Int) n=true:=by rw[aK]; exact oT Z
  obtain⟨r1,r2⟩:=h.red s t hs ht;have e6:ltI (M s (p t)) 0=false:=by rw[aE]; exact oF Z
  have e7:ltI (M s (p t)) (M t (p t))=true:=by rw[aE]; exact oT r2
  have e9:=bI s Z;simp only[dC,hl,e1,e2,e3,e4,GQ,KB,e5,aMM _ hp,e6,e7,e9,aD,Bool.not_true,oC,oD]
 ·have e1:ltI (t:Int) (t:Int)=false:=by rw[aE]; exact oF Z
  simp only[dC,e1,oD]
theorem aZ3 {d n M p}(h:Hn d M p)(hw:∀ i,i<d->∀ x,n<=x->M i x=0)(hd:d<1048576)(hn:n<1048576):GF (Mr d n M,())=some (true,()):=by
 have hl:=qY d n M;obtain⟨q,hq⟩:∃ q:Nat->Int,q=λt=>if t=0 then -1 else (p (t-1):Int):=⟨_,rfl⟩
 have key:=bL (step:=sJ) (N:=2^64) (λt=>(Mr d n M,q t,Mr d n M,(d:Int),(t:Int),())) d (.inr ()) Z (λt ht=>?_) ?_
 ·have q0:q 0 = -1:=by rw[hq]; rfl
  rw[q0]at key;have key:aX sJ (2^64) (Mr d n M,-1,Mr d n M,(d:Int),0,())=some (.inr ()):=key;simp only[GF,DC,hl,key,aD,pY]
 ·have hp:=Hn.aYC h hw ht;have e1:ltI (t:Int) (d:Int)=true:=by rw[aE]; exact oT Z
  have e2:aF (t:Int) d=true:=by rw[aK]; exact oT Z
  have e3:∀ a:Nat,((a:Nat):Int).toNat=a:=λa=>oN _
  have e4:=aSL (n:=n) M ht [];have e5:=a5G hn hp (h.low t ht) (by have:=h.pos t ht; omega);have e6:ltI (q t) (p t:Int)=true:=by
   rw[aE,hq];dsimp only;split
   ·exact oT Z
   ·have:=h.inc (t-1) t Z ht;exact oT Z
  have e7:aF (p t:Int) n=true:=by rw[aK]; exact oT Z
  have e8:ltI (M t (p t)) 0=false:=by rw[aE]; exact oF (by have:=h.pos t ht; omega)
  have e9:ltI (t:Int) 0=false:=by rw[aE]; exact oF Z
  have e10:Nat.ble 0 t=true:=rfl;have e11:Nat.ble t d=true:=by rw[dF]; exact oT Z
  have e12:((Mr d n M).drop 0).take (t-0)=Mr t n M:=by
   rw[List.drop_zero,Nat.sub_zero];unfold Mr;rw[<- List.map_take,List.take_range,Nat.min_eq_left Z]
  have e13:=a3Q h hw hd hn ht;have e14:=bI t Z;have e15:q (t+1)=(p t:Int):=by rw[hq]; simp
  simp only[sJ,hl,e1,e2,e3,e4,e5,aD,e6,KB,e7,aMM _ hp,e8,e9,e10,e11,e12,e13,e14,e15,Bool.not_true,Bool.not_false,oC,oD]
 ·have e1:ltI (d:Int) (d:Int)=false:=by rw[aE]; exact oF Z
  simp only[sJ,e1,oD]
theorem aEE {d n:Nat} {M:Nat->V} {p:Nat->Nat} (h:Hn d M p) (hw:∀ i,i<d->∀ x,n<=x->M i x=0) (hd:d<=12) (hn:n<=12) (hM:∀ i,i<d->∀ x,x<n->(M i x).natAbs<=1000000000):zD (((n:Int),Mr d n M),())=some (0,()):=by
 have hlen:∀ r∈Mr d n M,r.length=n:=λr hr=>by
  obtain⟨i,_,rfl⟩:=aLO hr;exact KB _ _
 have hr:∀ r∈Mr d n M,∀ a∈r,a.natAbs<=1000000000:=λr hr=>by
  obtain⟨i,hi,rfl⟩:=aLO hr;exact a4S (hM i hi)
 have e0:eqI 0 0=true:=O
 have c1:=aSX (Mr d n M) (n:=n) (by rw[qY]; exact hd) hn hlen hr;have c2:=aKP (Mr d n M) (n:=n) (by rw[qY]; exact hd) hn hlen hr;simp only[zD,c1,aD,e0,Bool.not_true,oD,M6,c2,aZ3 h hw Z Z,oC]
end Go.PM
namespace Go.Lz
theorem aXJ {E d}(h:1<=E)(hd:d<=4):fac E d<=24*(E*E*E*E):=by
 have h1 :=Nat.le_mul_of_pos_left E h;have h2:E*E<=E*E*E:=Nat.le_mul_of_pos_right _ h;have h3:E*E*E<=E*E*E*E:=Nat.le_mul_of_pos_right _ h;rcases(show d=0\/d=1\/d=2\/d=3\/d=4 by omega)with rfl|rfl|rfl|rfl|rfl <;> simp only[fac] <;> omega
def un(q:Nat):V:=λc=>if c=q then 1 else 0
theorem aWF b {q}:∀ {n},(q<n->dot n (un q) b=b q)/\(n<=q->dot n (un q) b=0)
 | 0=>⟨λh=>by omega,λ_=>rfl⟩
 | n+1=>by
  have ih:=aWF b (q:=q) (n:=n);refine⟨λh=>?_,λh=>?_⟩
  ·show dot n (un q) b+un q n*b n=b q
   by_cases hq:q=n
   ·subst hq;rw[ih.2 (Nat.le_refl _)];simp[un]
   ·rw[ih.1 Z];have:¬ n=q:=λe=>hq e.symm
    simp[un,this]
  ·show dot n (un q) b+un q n*b n=0;have:¬ n=q:=Z
   rw[ih.2 Z];simp[un,this]
theorem a2P {n} b (s:Nat->Int)(U:Nat->V):∀ d,dot n (λc=>sm (λj=>s j*U j c) d) b=sm (λj=>s j*dot n (U j) b) d
 | 0=>aFF b n
 | d+1=>by
  show dot n (λc=>sm (λj=>s j*U j c) d+s d*U d c) b=_;rw[Z2,a2P b s U d];rfl
theorem a5H {n k r r2 d W:Nat} {M K S H:Nat->V} {p:Nat->Nat} (hw:∀ i,i<k->∀ x,n<=x->M i x=0) (hH:Hn d H p) (hs:Same k M d H) (hp:∀ j,j<d->p j<n) (hd:Dg k M d p W) (h1:wY n k M r K) (h2:wY n r K r2 S) :
  ∃ D:Int,D≠0/\∀ v,Sp r2 S v->Sp k M (λx=>D*v x):=by
 obtain⟨D,w,h0,hw'⟩:=hd;refine⟨D,h0,λv hv=>?_⟩;have hwid:∀ {b:V},Sp k M b->∀ x,n<=x->b x=0:=λhb x hx=>Sp.aAH (λj hj=>hw j hj x hx) hb
 -- what the rows of the lattice are
 have comb:∀ b,Sp k M b->∀ x,D*b x=sm (λj=>b (p j)*w j x) d:=λb hb x=>by
  have hz:(λy=>D*b y-sm (λj=>b (p j)*w j y) d)=λ_=>0:=by
   refine hH.zero ((hs _).1 (Sp.sub (Sp.smul D hb) (Sp.sm λj hj=>(hw' j hj).1))) λl hl=>?_
   rw[aX1 (f:=λj=>b (p j)*w j (p l)) hl λj hj hne=>by rw[(hw' j hj).2.2.1 l hl (Ne.symm hne),Int.mul_zero]];rw[(hw' l hl).2.1];grind
  have:=congrFun hz x;have:D*b x-sm (λj=>b (p j)*w j x) d=0:=this;omega
 have main:∀ x,D*v x=sm (λj=>v (p j)*w j x) d:=λx=>by
  by_cases hx:x<n
  ·-- a row of the kernel
   have hy:∀ b:V,dot n (λc=>sm (λj=>-(w j x)*un (p j) c) d+D*un x c) b=D*b x-sm (λj=>b (p j)*w j x) d:=λb=>by
    rw[Z2,a2P,(aWF b).1 hx];have:sm (λj=>-(w j x)*dot n (un (p j)) b) d = -(sm (λj=>b (p j)*w j x) d):=by
     have:∀ e,e<=d->sm (λj=>-(w j x)*dot n (un (p j)) b) e = -(sm (λj=>b (p j)*w j x) e):=by
      intro e
      induction e with
      | zero=>exact λ_=>rfl
      | succ e ih =>
       intro he;rw[sm,sm,ih Z,(aWF b).1 (hp e Z)];grind
     exact this d (Nat.le_refl _)
    rw[this];omega
   have hk:Ker n k M (λc=>sm (λj=>-(w j x)*un (p j) c) d+D*un x c):=by
    refine⟨λc hc=>?_,λi hi=>?_⟩
    ·have e1:¬ c=x:=Z
     show sm (λj=>-(w j x)*un (p j) c) d+D*un x c=0;rw[aJ6 λj hj=>by
      have:=hp j hj;have e2:¬ c=p j:=Z
      simp[un,e2]]
     simp[un,e1]
    ·rw[hy,comb _ (Sp.mem hi) x]; omega
   have hv2:=(h2 v).1 hv;have:=hv2.span ((h1 _).2 hk);rw[IG,hy]at this;omega
  ·have g1:=((h2 v).1 hv).1 x Z;rw[g1,aJ6 λj hj=>by rw[hwid (hw' j hj).1 x Z,Int.mul_zero],Int.mul_zero]
 have:=Sp.sm (k:=k) (M:=M) (w:=w) (s:=λj=>v (p j)) (n:=d) λj hj=>(hw' j hj).1
 refine cast (congrArg _ ?_) this
 funext x
 exact(main x).symm
section
variable {k:Nat} {M:Nat->V}
end
end Go.Lz
namespace Go.PM
open Go Go.RowKit Go.Proofs Go.Lz
def dg(D:Nat):Nat->Nat
 | 0=>D
 | d+1=>6*dg D d+2
theorem bCW D {a b}(h:a<=b):dg D a<=dg D b:=by
 induction h with
 | refl=>simp
 | step _ ih=>rw[dg]; omega
theorem bAO {D k n}(h:∀ d,d<k->d<n->10*dg D d+4<=400000):Bds k n (λd=>10^dg D d) (λd=>10^(5*dg D d+1)):=by
 have e5:∀ a:Nat,(10^a)^5=10^(5*a):=λa=>by rw[<- Nat.pow_mul,Nat.mul_comm]
 refine⟨λd hd hdn=>⟨Nat.pow_pos O,Nat.pow_le_pow_right O Z,λ_=>?_,?_⟩,λd hd _=>?_⟩
 ·show 9*(10^dg D d)^5<=10^(5*dg D d+1);rw[e5,Nat.pow_succ];omega
 ·have h1:(10^(5*dg D d+1)+1:Nat)<10^(5*dg D d+1+1):=by
   rw[Nat.pow_succ 10 (5*dg D d+1)];have:0<10^(5*dg D d+1):=Nat.pow_pos O;omega
  have h2:=tA (u:=10^(5*dg D d+1)+1) (k:=5*dg D d+1) h1;have:=h d hd hdn;have e:xL=400000:=rfl;show 2*Lib.nDigits (10^(5*dg D d+1)+1)<=xL;omega
 ·show 10^dg D d+(10^dg D d+1)*10^(5*dg D d+1)<=10^(6*dg D d+2);generalize ha:dg D d=a;have h1:(10^(5*a+1):Nat)=10*10^(5*a):=by rw[Nat.pow_succ]; omega
  have h2:(10^(6*a+2):Nat)=100*(10^a*10^(5*a)):=by rw[<- Nat.pow_add,show a+5*a=6*a by omega,Nat.pow_add]; omega
  have h3:(10^a:Nat)<=10^a*10^(5*a):=Nat.le_mul_of_pos_right _ (Nat.pow_pos O);have h4:(10^(5*a):Nat)<=10^a*10^(5*a):=Nat.le_mul_of_pos_left _ (Nat.pow_pos O);have h5:(10^a+1)*(10*10^(5*a))=10*(10^a*10^(5*a))+10*10^(5*a):=W
  rw[h1,h2,h5];omega
theorem a0P {D k n}(hk:k<=4\/n<=4)(hD:D<=154):Bds k n (λd=>10^dg D d) (λd=>10^(5*dg D d+1)):=bAO λd hd hn=>by
 have h1:=bCW D (show d<=3 by omega);have h2:dg D 3=6*(6*(6*D+2)+2)+2:=rfl;omega
theorem aOX {k n D:Nat} {M:Nat->V} (hk:k<=4\/n<=4) (hkk:k<1048576) (hn:n<1048576) (hw:Wd k n M) (hE:Big k n M (10^D)) (hD:D<=154):∃ d H p,d<=k/\Hn d H p/\Same k M d H/\Wd d n H:=by
 have hL:lZ 0 k n ((List.range k).map λc=>(c,0,n)) ((List.range k).map λc=>Zr n (M c)) (λc=>c) M :=
  ⟨rfl,λi hi=>⟨[],rfl,by rw[List.getElem?_map,List.getElem?_range hi]; rfl⟩,λi j _ _ e=>e⟩
 obtain⟨m',A',J',H,d,p,_,g2,g3,g4,g5,g6,g7⟩:=aJZ Z hn hL hw (E:=λd=>10^dg D d) (T:=λd=>10^(5*dg D d+1)) hE (a0P hk hD);exact⟨d,H,p,g2,g4,g5,λi hi x hx=>g6 i Z x hx⟩
theorem Hn.GG {d n H p}(h:Hn d H p)(hw:Wd d n H):d<=n/\∀ j,j<d->p j<n:=by
 have hp:∀ j,j<d->p j<n:=λj hj=>Hn.aYC h hw hj
 have:∀ j,j<d->j<=p j:=by
  intro j
  induction j with
  | zero=>simp
  | succ j ih=>intro hj; have:=h.inc j (j+1) R hj; omega
 grind
theorem aGZ {k n E D r:Nat} {M K:Nat->V} {p:Nat->Nat} (hn:n<=4) (hk:k<1048000) (hw:Wd k n M) (hE:Big k n M E) (h1:1<=E) (hD:E<=10^D) (hD2:D<=154) (hH:Hn r K p) (hI:wY n k M r K) :
  ∀ i,i<r->∀ x,(K i x).natAbs<=4*(24*(E*E*E*E)):=by
 have hB:=hE.wide (k:=k) (M:=M) h1;obtain⟨d,W,q,g1,g2,g3,g4⟩:=aOX (k:=n) (n:=k+n) (M:=wide n k M) (.inl hn) Z Z hw.wide (λi hi x hx=>oR (hB i hi x hx) hD) hD2;obtain⟨j,b1,b2,b3⟩:=Hn.split g2 k;obtain⟨c1,c2⟩:=aIF g2 g3 b1 b2 b3;obtain⟨e1,_,e3⟩:=Hn.unique hH c1 λv=>(hI v).trans (c2 v).symm
 have hdg:=(aR9 (k:=n) (M:=wide n k M) (E:=E) Z g2 (λj hj=>⟨1,by decide,by
  have:=(g3 _).2 (Sp.mem hj);refine cast (oZ _ ?_) this
  funext x; simp⟩) (hB.all hw.wide)).mono λv=>(g3 v).1
 have hle:=Hn.a6T g2 hdg;intro i hi x;rw[e3 i hi];refine oR (hle (j+i) Z (k+x)) (Nat.mul_le_mul Z (aXJ h1 Z))
theorem a1K {k n E D r r2:Nat} {M K S:Nat->V} {p2:Nat->Nat} (hk:k<=4) (hn:n<=4) (hw:Wd k n M) (hE:Big k n M E) (h1:1<=E) (hD:E<=10^D) (hD2:D<=154) (hI:wY n k M r K) (hS:Hn r2 S p2) (hI2:wY n r K r2 S) :
  ∀ i,i<r2->∀ x,(S i x).natAbs<=4*(24*(E*E*E*E)):=by
 obtain⟨d,H,p,g1,g2,g3,g4⟩:=aOX (.inl hk) Z Z hw (λi hi x hx=>oR (hE i hi x hx) hD) hD2;have a1:=(Hn.GG g2 g4);have hdg:=aR9 (k:=k) (M:=M) (E:=E) Z g2 (λj hj=>⟨1,by decide,by
  have:=(g3 _).2 (Sp.mem hj);refine cast (oZ _ ?_) this
  funext x; simp⟩) (hE.all hw)
 obtain⟨D0,h0,hsp⟩:=a5H hw g2 g3 a1.2 hdg hI hI2;have hwS:Wd r2 n S:=λi hi x hx=>hI2.width hi x hx
 have a2:=Hn.GG hS hwS;have hdS:=(aR9 (k:=k) (M:=M) (E:=E) Z hS (λj hj=>⟨D0,h0,hsp _ (Sp.mem hj)⟩) (hE.all hw)).mono (k':=r2) (M':=S) λv hv=>by
  refine(hI2 v).2 ⟨λc hc=>Sp.aAH (λj hj=>hw j hj c hc) hv,λx hx=>?_⟩;rw[IG];exact((hI _).1 (Sp.mem hx)).span hv
 have hle:=Hn.a6T hS hdS;intro i hi x;refine oR (hle i hi x) (Nat.mul_le_mul Z (aXJ h1 Z))
theorem a9G {d n M}(hw:Wd d n M){i}(hi:i<d):aAE (Mr d n M) i=M i:=by
 unfold aAE;rw[aSL M hi];exact a8X λx hx=>hw i hi x hx
theorem lZ.congr {o k n m A J M M'}(h:lZ o k n m A J M)(e:∀ i,i<k->M i=M' i):lZ o k n m A J M' :=
 ⟨h.ml,λi hi=>by rw[<- e i hi]; exact h.at_ i hi,h.inj⟩
theorem aDD {d n M}(hd:d<=12)(hn:n<=12)(hw:Wd d n M)(hM:Big d n M 1000000000):∃ m A,fH () (Mr d n M,()) []=some (m,A)/\lZ 0 d n m A (λi=>i) M:=by
 have hlen:∀ r∈Mr d n M,r.length=n:=λr hr=>by
  obtain⟨i,hi,rfl⟩:=aLO hr;exact KB _ _
 obtain⟨m,A,h1,h2⟩:=aM5 (Mr d n M) (by rw[qY]; omega) Z hlen λr hr a ha=>by
  obtain⟨i,hi,rfl⟩:=aLO hr;have:=a4S (λx hx=>hM i hi x hx) a ha;omega
 rw[qY]at h2;exact⟨m,A,h1,h2.congr λi hi=>a9G hw hi⟩
section
variable {d n:Nat} {B:Nat->V}
theorem p9:(1000000000:Nat)=10^9:=O
theorem p38:4*(24*((10^9)*(10^9)*(10^9)*(10^9)))<=10^38:=R
theorem bCU:4*(24*((10^38)*(10^38)*(10^38)*(10^38)))<=10^154:=R
theorem aDT {m:List (Nat×Nat×Nat)} {A:List (List ByteArray)} {J:Nat->Nat} (hd:d<=4) (hn:n<=4) (hw:Wd d n B) (hB:Big d n B (10^9)) (h:lZ 0 d n m A J B) :
  ∃ m' A' J' K p r,cF () (m,(n:Int),()) A=some (m',A')/\lZ d r n m' A' J' K/\r<=n/\Hn r K p/\wY n d B r K/\Wd r n K/\Big r n K (10^38):=by
 have hk:=λ(r:Nat) (K:Nat->V) (p:Nat->Nat) (hH:Hn r K p) (hI:wY n d B r K)=>aGZ (E:=10^9) (D:=9) hn Z hw hB O (oM _) O hH hI
 obtain⟨m',A',J',K,p,r,g1,g2,g3,g4,g5,g6⟩:=aPC (E:=λd=>10^dg 9 d) (T:=λd=>10^(5*dg 9 d+1)) (show d<1048576 by omega) (show n<1048576 by omega) Z h hw hB (show 1<=10^dg 9 0 from Nat.pow_pos O) (a0P (.inl hn) O) λr K p hr hH hI =>
  ⟨λd=>10^dg 38 d,λd=>10^(5*dg 38 d+1),λi hi x _=>oR (hk r K p hH hI i hi x) p38,a0P (.inl Z) O⟩
 exact⟨m',A',J',K,p,r,g1,g2,g3,g4,g5,g6,λi hi x _=>oR (hk r K p g4 g5 i hi x) p38⟩
theorem aL9 {o:Nat} {m:List (Nat×Nat×Nat)} {A:List (List ByteArray)} {J:Nat->Nat} (hd:d<=4) (hn:n<=4) (hw:Wd d n B) (hB:Big d n B (10^38)) (h:lZ o d n m A J B) :
  ∃ m' A' J' K p r,cF () (m,(n:Int),()) A=some (m',A')/\lZ d r n m' A' J' K/\r<=n/\Hn r K p/\wY n d B r K/\Wd r n K/\Big r n K (10^154):=by
 have hk:=λ(r:Nat) (K:Nat->V) (p:Nat->Nat) (hH:Hn r K p) (hI:wY n d B r K)=>aGZ (E:=10^38) (D:=38) hn Z hw hB (Nat.pow_pos O) (oM _) O hH hI
 obtain⟨m',A',J',K,p,r,g1,g2,g3,g4,g5,g6⟩:=aPC (E:=λd=>10^dg 38 d) (T:=λd=>10^(5*dg 38 d+1)) (show d<1048576 by omega) (show n<1048576 by omega) Z h hw hB (show 1<=10^dg 38 0 from Nat.pow_pos O) (a0P (.inl hn) O) λr K p hr hH hI =>
  ⟨λd=>10^dg 154 d,λd=>10^(5*dg 154 d+1),λi hi x _=>oR (hk r K p hH hI i hi x) bCU,a0P (.inl Z) O⟩
 exact⟨m',A',J',K,p,r,g1,g2,g3,g4,g5,g6,λi hi x _=>oR (hk r K p g4 g5 i hi x) bCU⟩
theorem QZ {q:Nat->Nat} (hH:Hn d B q) (hn:n<=4) (hw:Wd d n B) (hB:Big d n B 1000000000) {K:Nat->V} {p:Nat->Nat} {r:Nat} (hK:Hn r K p) (hI:wY n d B r K) (ok:∀ i,i<r->∀ x,x<n->(K i x).natAbs<=1000000000) :
  nQ (((n:Int),Mr d n B),())=some (((n:Int),Mr r n K),0,()):=by
 have hd:=(Hn.GG hH hw).1;obtain⟨m,A,a1,a2⟩:=aDD Z Z hw hB;obtain⟨m',A',J',K',p',r',g1,g2,g3,g4,g5,g6,g7⟩:=aDT Z hn hw (by rw[<- p9]; exact hB) a2;obtain⟨e1,_,e3⟩:=Hn.unique hK g4 λv=>(hI v).trans (g5 v).symm
 subst e1;have g2':=g2.congr (M':=K) λi hi=>(e3 i hi).symm
 have hs:=aKU g2' (oM _) Z Z ok (n:Int);rw[List.take_of_length_le (by rw[g2'.len]; exact oM _)]at hs;have e0:eqI 0 0=true:=O
 simp only[nQ,aEE hH hw Z Z hB,aD,e0,Bool.not_true,oD,a1,g1,hs];rfl
theorem ZV {q:Nat->Nat} (hH:Hn d B q) (hn:n<=4) (hw:Wd d n B) (hB:Big d n B 1000000000) {K:Nat->V} {r:Nat} (hI:wY n d B r K) {S:Nat->V} {s:Nat->Nat} {t:Nat} (hS:Hn t S s) (hI2:wY n r K t S) (ok:∀ i,i<t->∀ x,x<n->(S i x).natAbs<=1000000000) :
  sS (((n:Int),Mr d n B),())=some (((n:Int),Mr t n S),0,()):=by
 have hd:=(Hn.GG hH hw).1;obtain⟨m,A,a1,a2⟩:=aDD Z Z hw hB;obtain⟨m',A',J',K',p',r',g1,g2,g3,g4,g5,g6,g7⟩:=aDT Z hn hw (by rw[<- p9]; exact hB) a2;obtain⟨m2,A2,J2,S',p2,t',b1,b2,b3,b4,b5,b6,b7⟩:=aL9 Z hn g6 g7 g2;have hsame:Same r' K' r K:=λv=>(g5 v).trans (hI v).symm
 obtain⟨e1,_,e3⟩:=Hn.unique hS b4 λv=>(hI2 v).trans ((Ker.same hsame).symm.trans (b5 v).symm)
 subst e1;have g2':=b2.congr (M':=S) λi hi=>(e3 i hi).symm
 have hs:=aKU g2' (oM _) Z Z ok (n:Int);rw[List.take_of_length_le (by rw[g2'.len]; exact oM _)]at hs;have e0:eqI 0 0=true:=O
 simp only[sS,aEE hH hw Z Z hB,aD,e0,Bool.not_true,oD,a1,g1,b1,hs];rfl
end
end Go.PM
namespace Go.PM
open Go Go.RowKit Go.Proofs Tryz
set_option maxHeartbeats 4000000
abbrev tF:List (Nat×Kd):=[(0,.list TyE),(1,.list TyE),(12,.int .i64),(13,.int .i64)]
abbrev BL:List (Ex×List (Nat×Kd)):=[(.ret,[(4,.bool)]),(.exit 0,[])]
def bO(x:Shape.den tF):oS tF BL:=match x with
 | (v0,v1,v12,v13,()) =>
  bif ltI v13 v12 then
   bif aF v13 v0.length then bif aF v13 v1.length then bif !(eqI (v0.getD v13.toNat 0) (v1.getD v13.toNat 0)) then
    some (.inr (.inl (false,())))
   else some (.inl (v0,v1,v12,(aB .i64 (v13+1)),())) else none else none
  else some (.inr (.inr ((()))))
def iE(x:Shape.den tF):oX BL:=aX bO (2^64) x
def dL(x:aM [.list TyE,.list TyE]):oK [.bool]:=match x with
 | (v0,v1,()) =>
  bif !(eqI (v0.length:Int) (v1.length:Int)) then
   some (false,())
  else aC (iE (v0,v1,(v0.length:Int),0,())) λz1 =>
  mH z1 (λa2=>some (a2.1,())) λb3 =>
  some (true,())
abbrev RO:Ent:=⟨75,_,_,dL⟩
theorem BN:Ent.OK tP RO:=oU (aP oW) func75 4 (lp:=iE) rfl Y (by rintro⟨v0,v1,v12,v13,⟨⟩⟩; kernel_rfl) (by rintro⟨v0,v1,⟨⟩⟩; kernel_rfl)
def xO(x:aM [.list TyE,.list TyE]):oK [.bool]:=match x with
 | (v0,v1,()) =>
  aC (dL (v0,v1,())) λy1 =>
  some (y1.1,())
abbrev aDP:Ent:=⟨41,_,_,xO⟩
theorem LF:Ent.OK tP aDP:=oI (aP (oV BN oW)) func41 Y (by rintro⟨v0,v1,⟨⟩⟩; kernel_rfl)
abbrev dM:List (Nat×Kd):=[(1,.list TyD),(2,.fn 41),(15,.list TyD),(16,.int .i64),(17,.int .i64)]
abbrev gQ:List (Ex×List (Nat×Kd)):=[(.ret,[(6,.bool)]),(.exit 0,[])]
def aS(x:Shape.den dM):oS dM gQ:=match x with
 | (v1,v2,v15,v16,v17,()) =>
  bif ltI v17 v16 then
   bif aF v17 v15.length then bif aF v17 v1.length then aC (xO ((v15.getD v17.toNat []),(v1.getD v17.toNat []),())) λy2 =>
   bif y2.1 then
    some (.inl (v1,(),v15,v16,(aB .i64 (v17+1)),()))
   else some (.inr (.inl (false,()))) else none else none
  else some (.inr (.inr ((()))))
def bV(x:Shape.den dM):oX gQ:=aX aS (2^64) x
def aV(x:aM [.list TyD,.list TyD,.fn 41]):oK [.bool]:=match x with
 | (v0,v1,v2,()) =>
  bif !(eqI (v0.length:Int) (v1.length:Int)) then
   some (false,())
  else aC (bV (v1,(),v0,(v0.length:Int),0,())) λz3 =>
  mH z3 (λa4=>some (a4.1,())) λb5 =>
  some (true,())
abbrev rZ:Ent:=⟨87,_,_,aV⟩
theorem qQ:Ent.OK tP rZ:=oU (aP (oV LF oW)) func87 4 (lp:=bV) rfl Y (by rintro⟨v1,v2,v15,v16,v17,⟨⟩⟩; kernel_rfl) (by rintro⟨v0,v1,v2,⟨⟩⟩; kernel_rfl)
def DK(x:aM [.agg TyH,.agg TyH]):oK [.bool]:=match x with
 | (v0,v1,()) =>
  bif eqI v0.1 v1.1 then
   aC (aV (v0.2,v1.2,(),())) λy1 =>
   some (y1.1,())
  else some (false,())
abbrev aMY:Ent:=⟨53,_,_,DK⟩
theorem aF1:Ent.OK tP aMY:=oI (aP (oV qQ oW)) func53 Y (by rintro⟨v0,v1,⟨⟩⟩; kernel_rfl)
end Go.PM
namespace Go.PM
open Go Go.RowKit Go.Proofs Tryz
set_option maxHeartbeats 4000000
def E9(x:aM [.list TyE,.list TyE]):oK [.bool]:=match x with
 | (v0,v1,()) =>
  aC (dL (v0,v1,())) λy1 =>
  some (y1.1,())
abbrev aBF:Ent:=⟨88,_,_,E9⟩
theorem W4:Ent.OK tP aBF:=oI (aP (oV BN oW)) func88 Y (by rintro⟨v0,v1,⟨⟩⟩; kernel_rfl)
abbrev dP:List (Nat×Kd):=[(1,.list TyD),(2,.fn 88),(15,.list TyD),(16,.int .i64),(17,.int .i64)]
abbrev gP:List (Ex×List (Nat×Kd)):=[(.ret,[(6,.bool)]),(.exit 0,[])]
def aR(x:Shape.den dP):oS dP gP:=match x with
 | (v1,v2,v15,v16,v17,()) =>
  bif ltI v17 v16 then
   bif aF v17 v15.length then bif aF v17 v1.length then aC (E9 ((v15.getD v17.toNat []),(v1.getD v17.toNat []),())) λy2 =>
   bif y2.1 then
    some (.inl (v1,(),v15,v16,(aB .i64 (v17+1)),()))
   else some (.inr (.inl (false,()))) else none else none
  else some (.inr (.inr ((()))))
def bU(x:Shape.den dP):oX gP:=aX aR (2^64) x
def aW(x:aM [.list TyD,.list TyD,.fn 88]):oK [.bool]:=match x with
 | (v0,v1,v2,()) =>
  bif !(eqI (v0.length:Int) (v1.length:Int)) then
   some (false,())
  else aC (bU (v1,(),v0,(v0.length:Int),0,())) λz3 =>
  mH z3 (λa4=>some (a4.1,())) λb5 =>
  some (true,())
abbrev sF:Ent:=⟨87,_,_,aW⟩
theorem qO:Ent.OK tP sF:=oU (aP (oV W4 oW)) func87 4 (lp:=bU) rfl Y (by rintro⟨v1,v2,v15,v16,v17,⟨⟩⟩; kernel_rfl) (by rintro⟨v0,v1,v2,⟨⟩⟩; kernel_rfl)
def CM(x:aM [.list TyD,.list TyD]):oK [.bool]:=match x with
 | (v0,v1,()) =>
  aC (aW (v0,v1,(),())) λy1 =>
  some (y1.1,())
abbrev aFG:Ent:=⟨55,_,_,CM⟩
theorem ZY:Ent.OK tP aFG:=oI (aP (oV qO oW)) func55 Y (by rintro⟨v0,v1,⟨⟩⟩; kernel_rfl)
abbrev IL:List (Nat×Kd):=[(0,.int .i64),(3,.int .i64)]
abbrev S6:List (Ex×List (Nat×Kd)):=[(.ret,[(2,.bool)]),(.exit 0,[])]
def aBH(x:Shape.den IL):oS IL S6:=match x with
 | (v0,v3,()) =>
  bif !(ltI v0 (aB .i64 (v3*v3))) then
   bif eqI v3 0 then none else bif eqI (v0.tmod v3) 0 then
    some (.inr (.inl (false,())))
   else some (.inl (v0,(aB .i64 (v3+1)),()))
  else some (.inr (.inr ((()))))
def OD(x:Shape.den IL):oX S6:=aX aBH (2^64) x
def Z3(x:aM [.int .i64]):oK [.bool]:=match x with
 | (v0,()) =>
  bif ltI v0 2 then
   some (false,())
  else bif ltI 97 v0 then
   some (false,())
  else aC (OD (v0,2,())) λz1 =>
  mH z1 (λa2=>some (a2.1,())) λb3 =>
  some (true,())
abbrev aMR:Ent:=⟨81,_,_,Z3⟩
theorem aEP:Ent.OK tP aMR:=oU (aP oW) func81 4 (lp:=OD) rfl Y (by rintro⟨v0,v3,⟨⟩⟩; kernel_rfl) (by rintro⟨v0,⟨⟩⟩; kernel_rfl)
abbrev NT:List (Nat×Kd):=[(0,.list TyE),(13,.list TyE),(14,.int .i64),(15,.int .i64)]
abbrev XT:List (Ex×List (Nat×Kd)):=[(.ret,[(2,.int .i64)]),(.exit 1,[])]
def aFL(x:Shape.den NT):oS NT XT:=match x with
 | (v0,v13,v14,v15,()) =>
  bif ltI v15 v14 then
   bif aF v15 v13.length then aC (Z3 ((v13.getD v15.toNat 0),())) λy2 =>
   bif y2.1 then
    bif ltI 0 v15 then
     bif aF (aB .i64 (v15-1)) v0.length then bif !(ltI (v0.getD ((aB .i64 (v15-1)).toNat) 0) (v13.getD v15.toNat 0)) then
      some (.inr (.inl (6,())))
     else some (.inl (v0,v13,v14,(aB .i64 (v15+1)),())) else none
    else some (.inl (v0,v13,v14,(aB .i64 (v15+1)),()))
   else some (.inr (.inl (25,()))) else none
  else some (.inr (.inr ((()))))
def SO(x:Shape.den NT):oX XT:=aX aFL (2^64) x
def EU(x:aM [.list TyE]):oK [.int .i64]:=match x with
 | (v0,()) =>
  bif eqI (v0.length:Int) 0 then
   some (13,())
  else bif ltI 6 (v0.length:Int) then
   some (4,())
  else aC (SO (v0,v0,(v0.length:Int),0,())) λz3 =>
  mH z3 (λa4=>some (a4.1,())) λb5 =>
  some (0,())
abbrev aSO:Ent:=⟨50,_,_,EU⟩
theorem XU:Ent.OK tP aSO:=oU (aP (oV aEP oW)) func50 6 (lp:=SO) rfl Y (by rintro⟨v0,v13,v14,v15,⟨⟩⟩; kernel_rfl) (by rintro⟨v0,⟨⟩⟩; kernel_rfl)
def dT(x:aM [.agg TyG]):oK [.int .i64]:=match x with
 | (v0,()) =>
  aC (EU (v0.1,())) λy1 =>
  bif !(eqI y1.1 0) then
   some (y1.1,())
  else aC (zD (((v0.1.length:Int),v0.2.1),())) λy2 =>
  bif !(eqI y2.1 0) then
   some (y2.1,())
  else aC (sS (((v0.1.length:Int),v0.2.1),())) λy3 =>
  bif !(eqI y3.2.1 0) then
   some (7,())
  else aC (DK (y3.1,((v0.1.length:Int),v0.2.1),())) λy4 =>
  bif y4.1 then
   aC (nQ (((v0.1.length:Int),v0.2.1),())) λy5 =>
   bif !(eqI y5.2.1 0) then
    some (14,())
   else aC (CM (y5.1.2,v0.2.2,())) λy6 =>
   bif y6.1 then
    some (0,())
   else some (14,())
  else some (7,())
abbrev Q9:Ent:=⟨21,_,_,dT⟩
theorem vM:Ent.OK tP Q9:=oI (aP (oV HV (oV JI (oV aF1 (oV MF (oV XU (oV ZY oW))))))) func21 Y (by rintro⟨v0,⟨⟩⟩; kernel_rfl)
abbrev B2:List (Nat×Kd):=[(2,.box 33 TyG),(14,.list TyD),(15,.int .i64),(16,.int .i64)]
abbrev JU:List (Ex×List (Nat×Kd)):=[(.ret,[(4,.int .i64)]),(.exit 0,[])]
def yY(x:Shape.den B2):oS B2 JU:=match x with
 | (v2,v14,v15,v16,()) =>
  bif ltI v16 v15 then
   bif aF v16 v14.length then aC (uU ((v14.getD v16.toNat []),())) λy3 =>
   bif !(eqI y3.1 0) then
    some (.inr (.inl (y3.1,())))
   else bif !(eqI ((v14.getD v16.toNat []).length:Int) (v2.1.length:Int)) then
    some (.inr (.inl (5,())))
   else some (.inl (v2,v14,v15,(aB .i64 (v16+1)),())) else none
  else some (.inr (.inr ((()))))
def yX(x:Shape.den B2):oX JU:=aX yY (2^64) x
def AS(x:aM [.agg TyG,.list TyD]):oK [.int .i64]:=match x with
 | (v0,v1,()) =>
  aC (dT (v0,())) λy1 =>
  bif !(eqI y1.1 0) then
   some (y1.1,())
  else aC (yX (v0,v1,(v1.length:Int),0,())) λz4 =>
  mH z4 (λa5=>some (a5.1,())) λb6 =>
  some (0,())
abbrev aDL:Ent:=⟨30,_,_,AS⟩
theorem YC:Ent.OK tP aDL:=oU (aP (oV FV (oV vM oW))) func30 5 (lp:=yX) rfl Y (by rintro⟨v2,v14,v15,v16,⟨⟩⟩; kernel_rfl) (by rintro⟨v0,v1,⟨⟩⟩; kernel_rfl)
abbrev lS:List (Nat×Kd):=[(1,.list TyE),(5,.own 74 .str),(7,.list TyE),(8,.str),(12,.list TyD),(13,.int .i64),(14,.int .i64),(18,.list TyE),(19,.int .i64),(20,.int .i64)]
abbrev pQ:List (Ex×List (Nat×Kd)):=[(.exit 2,[(1,.list TyE),(5,.own 74 .str),(8,.str),(12,.list TyD),(13,.int .i64),(14,.int .i64)])]
def mS(x:Shape.den lS):oS lS pQ:=match x with
 | (v1,v5,v7,v8,v12,v13,v14,v18,v19,v20,()) =>
  bif ltI v20 v19 then
   bif aF v20 v18.length then aC (kO ((v18.getD v20.toNat 0),())) λy5 =>
   bif aF v20 v7.length then aC (kO ((v7.getD v20.toNat 0),())) λy6 =>
   aC (QC (y5.1,y6.1,())) λy7 =>
   aC (RD (v8,y7.1,())) λy8 =>
   some (.inl (v1,v5,v7,y8.1,v12,v13,v14,v18,v19,(aB .i64 (v20+1)),())) else none else none
  else some (.inr ((v1,v5,v8,v12,v13,v14,())))
def mU(x:Shape.den lS):oX pQ:=aX mS (2^64) x
abbrev lT:List (Nat×Kd):=[(1,.list TyE),(5,.own 74 .str),(12,.list TyD),(13,.int .i64),(14,.int .i64)]
abbrev pI:List (Ex×List (Nat×Kd)):=[(.exit 0,[(5,.own 74 .str)])]
def mW(x:Shape.den lT):oS lT pI:=match x with
 | (v1,v5,v12,v13,v14,()) =>
  bif ltI v14 v13 then
   bif aF v14 v12.length then aC (mU (v1,v5,(v12.getD v14.toNat []),(ByteArray.mk #[48]),v12,v13,v14,v1,(v1.length:Int),0,())) λz10 =>
   bif Nat.ble [z10.2.2.1].length 1048576 then bif Nat.ble z10.2.1.length 1048576 then some (.inl (z10.1,(z10.2.1++[z10.2.2.1]),z10.2.2.2.1,z10.2.2.2.2.1,(aB .i64 (z10.2.2.2.2.2.1+1)),())) else none else none else none
  else some (.inr ((v5,())))
def rT(x:Shape.den lT):oX pI:=aX mW (2^64) x
def yT(x:aM [.agg TyG,.list TyE]):oK [.list .str]:=match x with
 | (v0,v1,()) =>
  aC (rT (v1,[],v0.2.2,(v0.2.2.length:Int),0,())) λz11 =>
  some (z11.1,())
def OG:Code:=dN f31
abbrev FB:Env:=FN [aMG,aDM,aG2]
theorem BB:fX tP FB:=aP ⟨aB5,aCA,IJ,trivial⟩
def qP:Code:=j7 OG 0
def CB:Code:=j7 qP 0
def C3(id:Nat):Option eY:=bif Nat.beq id 7 then some ⟨lS,pQ,mU⟩ else bif Nat.beq id 3 then some ⟨lT,pI,rT⟩ else none
theorem RQ:∀ x,lV tP FB 42 (aQ f31) C3 CB lS pQ x=mS x:=by
 rintro⟨v1,v5,v7,v8,v12,v13,v14,v18,v19,v20,⟨⟩⟩
 kernel_rfl
theorem TV:fN tP 42 CB ⟨lS,pQ,mU⟩:=gT BB.callee bH.mixed _ (aT (l:=[]) Y trivial) RQ
theorem R7:∀ x,lV tP FB 42 (aQ f31) C3 qP lT pI x=mW x:=by
 rintro⟨v1,v5,v12,v13,v14,⟨⟩⟩
 kernel_rfl
theorem WO:bA qP=[CB]:=Y
theorem S9:fN tP 42 qP ⟨lT,pI,rT⟩:=gT BB.callee bH.mixed _ (aT WO ⟨gR (i:=7) Y rfl TV,trivial⟩) R7
abbrev aBD:Ent:=⟨31,_,_,yT⟩
theorem WR:Ent.OK tP aBD:=aK0 bH BB func31 (c:=OG) Y (keep:=aQ f31) (lt:=C3) (aT (l:=[qP]) Y ⟨gR (i:=3) Y rfl S9,trivial⟩) (by rintro⟨v0,v1,⟨⟩⟩; kernel_rfl)
abbrev AQ:List (Nat×Kd):=[(7,.own 3 TyE),(21,.list .str),(22,.int .i64),(23,.int .i64)]
abbrev IQ:List (Ex×List (Nat×Kd)):=[(.ret,[(4,.list TyE),(5,.int .i64)]),(.exit 0,[(7,.own 3 TyE)])]
def cG(x:Shape.den AQ):oS AQ IQ:=match x with
 | (v7,v21,v22,v23,()) =>
  bif ltI v23 v22 then
   bif aF v23 v21.length then aC (nC ((v21.getD v23.toNat ByteArray.empty),())) λy4 =>
   bif y4.2.1 then
    bif ltI 1000000000 y4.1 then
     some (.inr (.inl ([],4,())))
    else bif ltI y4.1 (-1000000000) then
     some (.inr (.inl ([],4,())))
    else bif Nat.ble [y4.1].length 1048576 then bif Nat.ble v7.length 1048576 then some (.inl ((v7++[y4.1]),v21,v22,(aB .i64 (v23+1)),())) else none else none
   else some (.inr (.inl ([],4,()))) else none
  else some (.inr (.inr ((v7,()))))
def rO(x:Shape.den AQ):oX IQ:=aX cG (2^64) x
def gV(x:aM [.agg TyG,.list TyE]):oK [.list TyE,.int .i64]:=match x with
 | (v0,v1,()) =>
  aC (AS (v0,[v1],())) λy1 =>
  bif !(eqI y1.1 0) then
   some ([],y1.1,())
  else aC (yT (v0,v1,())) λy2 =>
  aC (rO ([],y2.1,(y2.1.length:Int),0,())) λz5 =>
  mH z5 (λa6=>some (a6.1,a6.2.1,())) λb7 =>
  some (b7.1,0,())
abbrev OC:Ent:=⟨12,_,_,gV⟩
theorem I7:Ent.OK tP OC:=oU (aP (oV YC (oV WR (oV XS oW)))) func12 6 (lp:=rO) rfl Y (by rintro⟨v7,v21,v22,v23,⟨⟩⟩; kernel_rfl) (by rintro⟨v0,v1,⟨⟩⟩; kernel_rfl)
end Go.PM
namespace Go.PM
open Go Go.RowKit Go.Proofs Tryz
set_option maxHeartbeats 4000000
def C4(x:aM [.int .u8]):oK [.list TyE]:=match x with
 | (v0,()) =>
  bif eqI ([[2,3,5],[2,3,5,7],[2,3],[2,3,7],[2,5,7],[3,5,7],[2,3,5,11],[2],[2,3,7,13],[3,5,7,13]].length:Int) 0 then none else bif aF ((IntKind.wrap .i64 v0).tmod ([[2,3,5],[2,3,5,7],[2,3],[2,3,7],[2,5,7],[3,5,7],[2,3,5,11],[2],[2,3,7,13],[3,5,7,13]].length:Int)) [[2,3,5],[2,3,5,7],[2,3],[2,3,7],[2,5,7],[3,5,7],[2,3,5,11],[2],[2,3,7,13],[3,5,7,13]].length then some (([[2,3,5],[2,3,5,7],[2,3],[2,3,7],[2,5,7],[3,5,7],[2,3,5,11],[2],[2,3,7,13],[3,5,7,13]].getD (((IntKind.wrap .i64 v0).tmod ([[2,3,5],[2,3,5,7],[2,3],[2,3,7],[2,5,7],[3,5,7],[2,3,5,11],[2],[2,3,7,13],[3,5,7,13]].length:Int)).toNat) []),()) else none
abbrev Z4:Ent:=⟨26,_,_,C4⟩
theorem UB:Ent.OK tP Z4:=oI (aP oW) func26 Y (by rintro⟨v0,⟨⟩⟩; kernel_rfl)
abbrev wD:List (Nat×Kd):=[(0,.list TyE),(3,.box 48 TyI),(5,.own 3 TyE),(6,.int .i64)]
abbrev EZ:List (Ex×List (Nat×Kd)):=[(.exit 0,[(5,.own 3 TyE)])]
def nY(x:Shape.den wD):oS wD EZ:=match x with
 | (v0,v3,v5,v6,()) =>
  bif ltI v6 (v0.length:Int) then
   bif ltI v6 4 then
    bif eqI v6 0 then
     bif Nat.ble [((IntKind.wrap .i64 v3.1).tmod 10)].length 1048576 then bif Nat.ble v5.length 1048576 then some (.inl (v0,v3,(v5++[((IntKind.wrap .i64 v3.1).tmod 10)]),(aB .i64 (v6+1)),())) else none else none
    else bif eqI v6 1 then
     bif Nat.ble [((IntKind.wrap .i64 v3.2.1).tmod 10)].length 1048576 then bif Nat.ble v5.length 1048576 then some (.inl (v0,v3,(v5++[((IntKind.wrap .i64 v3.2.1).tmod 10)]),(aB .i64 (v6+1)),())) else none else none
    else bif eqI v6 2 then
     bif Nat.ble [((IntKind.wrap .i64 v3.2.2.1).tmod 10)].length 1048576 then bif Nat.ble v5.length 1048576 then some (.inl (v0,v3,(v5++[((IntKind.wrap .i64 v3.2.2.1).tmod 10)]),(aB .i64 (v6+1)),())) else none else none
    else bif eqI v6 3 then bif Nat.ble [((IntKind.wrap .i64 v3.2.2.2).tmod 10)].length 1048576 then bif Nat.ble v5.length 1048576 then some (.inl (v0,v3,(v5++[((IntKind.wrap .i64 v3.2.2.2).tmod 10)]),(aB .i64 (v6+1)),())) else none else none else none
   else some (.inr ((v5,())))
  else some (.inr ((v5,())))
def uA(x:Shape.den wD):oX EZ:=aX nY (2^64) x
def tT(x:aM [.list TyE,.agg TyI]):oK [.list TyE]:=match x with
 | (v0,v1,()) =>
  aC (uA (v0,v1,[],0,())) λz1 =>
  some (z1.1,())
abbrev VT:Ent:=⟨15,_,_,tT⟩
theorem R4:Ent.OK tP VT:=oU (aP oW) func15 3 (lp:=uA) rfl Y (by rintro⟨v0,v3,v5,v6,⟨⟩⟩; kernel_rfl) (by rintro⟨v0,v1,⟨⟩⟩; kernel_rfl)
def tJ(x:aM [.list TyE,.list TyD,.bool]):oK [.agg TyG,.int .i64]:=match x with
 | (v0,v1,v2,()) =>
  aC (EU (v0,())) λy1 =>
  bif !(eqI y1.1 0) then
   some (([],([],[])),y1.1,())
  else aC (HR ((v0.length:Int),v1,())) λy2 =>
  bif !(eqI y2.2.1 0) then
   some (([],([],[])),y2.2.1,())
  else aC (sS (y2.1,())) λy3 =>
  aC (nQ (y2.1,())) λy4 =>
  bif !(eqI y3.2.1 0) then
   some (([],([],[])),4,())
  else bif !(eqI y4.2.1 0) then
   some (([],([],[])),4,())
  else bif v2 then
   some ((v0,(y4.1.2,y3.1.2)),0,())
  else some ((v0,(y3.1.2,y4.1.2)),0,())
abbrev aBA:Ent:=⟨27,_,_,tJ⟩
theorem WC:Ent.OK tP aBA:=oI (aP (oV HV (oV aL4 (oV MF (oV XU oW))))) func27 Y (by rintro⟨v0,v1,v2,⟨⟩⟩; kernel_rfl)
abbrev CD:List (Nat×Kd):=[(1,.box 24 TyP),(2,.box 33 TyG),(3,.list TyE),(4,.own 39 TyD),(5,.int .i64)]
abbrev JZ:List (Ex×List (Nat×Kd)):=[(.exit 0,[(1,.box 24 TyP),(2,.box 33 TyG),(3,.list TyE),(4,.own 39 TyD)])]
def sO(x:Shape.den CD):oS CD JZ:=match x with
 | (v1,v2,v3,v4,v5,()) =>
  bif ltI v5 (v1.2.1.length:Int) then
   bif ltI v5 3 then
    bif aF v5 v1.2.1.length then aC (tT (v3,((v1.2.1.getD v5.toNat (0,(0,(0,0)))).1,((v1.2.1.getD v5.toNat (0,(0,(0,0)))).2.1,((v1.2.1.getD v5.toNat (0,(0,(0,0)))).2.2.1,(v1.2.1.getD v5.toNat (0,(0,(0,0)))).2.2.2))),())) λy3 =>
    bif Nat.ble [y3.1].length 1048576 then bif Nat.ble v4.length 1048576 then some (.inl (v1,v2,v3,(v4++[y3.1]),(aB .i64 (v5+1)),())) else none else none else none
   else some (.inr ((v1,v2,v3,v4,())))
  else some (.inr ((v1,v2,v3,v4,())))
def zN(x:Shape.den CD):oX JZ:=aX sO (2^64) x
def BE(x:aM [.agg TyP]):oK [.agg TyG]:=match x with
 | (v0,()) =>
  aC (C4 (v0.1,())) λy1 =>
  aC (zN (v0,([],([],[])),y1.1,[],0,())) λz4 =>
  aC (tJ (z4.2.2.1,z4.2.2.2.1,z4.1.2.2,())) λy5 =>
  some (y5.1,())
abbrev aC8:Ent:=⟨9,_,_,BE⟩
theorem X4:Ent.OK tP aC8:=oU (aP (oV R4 (oV UB (oV WC oW)))) func9 4 (lp:=zN) rfl Y (by rintro⟨v1,v2,v3,v4,v5,⟨⟩⟩; kernel_rfl) (by rintro⟨v0,⟨⟩⟩; kernel_rfl)
def A4(x:aM [.agg TyP]):oK [.bool]:=match x with
 | (v0,()) =>
  some (!(ltI 3 (v0.2.1.length:Int)),())
abbrev aC4:Ent:=⟨7,_,_,A4⟩
theorem X9:Ent.OK tP aC4:=oI (aP oW) func7 Y (by rintro⟨v0,⟨⟩⟩; kernel_rfl)
end Go.PM
namespace Go.PM
open Go Go.RowKit Go.Proofs Go.Lz
theorem W0 {α:Type} z:∀ {a b:List α},a.length=b.length->a≠b->∃ x,x<a.length/\(∀ y,y<x->a.getD y z=b.getD y z)/\a.getD x z≠b.getD x z
 | [],[],_,h=>absurd rfl h
 | [],_::_,h,_=>by simp at h
 | _::_,[],h,_=>by simp at h
 | s::a,t::b,hl,h=>by
  by_cases e:s=t
  ·subst e;obtain⟨x,h1,h2,h3⟩:=W0 z (by simpa using hl) (λe=>h (by rw[e]));refine⟨x+1,by simpa using h1,λy hy=>?_,by grind⟩;cases y with
   | zero=>rfl
   | succ y=>grind
  ·exact⟨0,by simp,λy hy=>by omega,by simpa using e⟩
theorem aOO(a b:List Int)(ha:a.length<1048576):dL (a,b,())=some (decide (a=b),()):=by
 by_cases hl:a.length=b.length
 ·have e0:eqI (a.length:Int) (b.length:Int)=true:=by rw[bZ]; exact oT Z
  have step:∀ t,t<a.length->∀ c,decide (a.getD t 0=b.getD t 0)=c->bO (a,b,(a.length:Int),(t:Int),())=(bif c then some (.inl (a,b,(a.length:Int),((t+1:Nat):Int),())) else some (.inr (.inl (false,())))):=λt ht c hc=>by
   have e1:ltI (t:Int) (a.length:Int)=true:=by rw[aE]; exact oT Z
   have e2:aF (t:Int) a.length=true:=by rw[aK]; exact oT Z
   have e3:aF (t:Int) b.length=true:=by rw[aK]; exact oT Z
   have e4:((t:Nat):Int).toNat=t:=oN _;have e5:=bI t Z;simp only[bO,e1,e2,e3,e4,e5,oC,bZ,hc];cases c <;> rfl
  by_cases he:a=b
  ·subst he;have key:=bL (step:=bO) (N:=2^64) (λt=>(a,a,(a.length:Int),(t:Int),())) a.length (.inr ()) Z (λt ht=>step t ht true R) (by
    have e1:ltI (a.length:Int) (a.length:Int)=false:=by rw[aE]; exact oF Z
    simp only[bO,e1,oD])
   have key:iE (a,a,(a.length:Int),0,())=_:=key;simp only[dL,e0,Bool.not_true,oD,key,aD,pY,decide_true]
  ·obtain⟨x,h1,h2,h3⟩:=W0 0 hl he;have key:=bL (step:=bO) (N:=2^64) (λt=>(a,b,(a.length:Int),(t:Int),())) x (.inl (false,())) Z (λt ht=>step t Z true (oT (h2 t ht))) (step x h1 false (oF h3));have key:iE (a,b,(a.length:Int),0,())=_:=key;simp only[dL,e0,Bool.not_true,oD,key,aD,KP,oF he]
 ·have e0:eqI (a.length:Int) (b.length:Int)=false:=by rw[bZ]; exact oF Z
  have he:¬ a=b:=λe=>hl (by rw[e])
  simp only[dL,e0,Bool.not_false,oC,oF he]
theorem aU2(a b:List (List Int))(ha:a.length<1048576)(hr:∀ r∈a,r.length<1048576):aV (a,b,(),())=some (decide (a=b),()):=by
 by_cases hl:a.length=b.length
 ·have e0:eqI (a.length:Int) (b.length:Int)=true:=by rw[bZ]; exact oT Z
  have step:∀ t,t<a.length->∀ c,decide (a.getD t []=b.getD t [])=c->aS (b,(),a,(a.length:Int),(t:Int),())=(bif c then some (.inl (b,(),a,(a.length:Int),((t+1:Nat):Int),())) else some (.inr (.inl (false,())))):=λt ht c hc=>by
   have e1:ltI (t:Int) (a.length:Int)=true:=by rw[aE]; exact oT Z
   have e2:aF (t:Int) a.length=true:=by rw[aK]; exact oT Z
   have e3:aF (t:Int) b.length=true:=by rw[aK]; exact oT Z
   have e4:((t:Nat):Int).toNat=t:=oN _;have e5:=bI t Z;have e6:(a.getD t []).length<1048576:=by
    have:a.getD t []=a[t]:=by simp[List.getD,ht]
    rw[this]; exact hr _ (List.getElem_mem ht)
   have e7:=aOO (a.getD t []) (b.getD t []) e6;simp only[aS,e1,e2,e3,e4,e5,oC,xO,e7,aD,hc]
  by_cases he:a=b
  ·subst he;have key:=bL (step:=aS) (N:=2^64) (λt=>(a,(),a,(a.length:Int),(t:Int),())) a.length (.inr ()) Z (λt ht=>step t ht true R) (by
    have e1:ltI (a.length:Int) (a.length:Int)=false:=by rw[aE]; exact oF Z
    simp only[aS,e1,oD])
   have key:bV (a,(),a,(a.length:Int),0,())=_:=key;simp only[aV,e0,Bool.not_true,oD,key,aD,pY,decide_true]
  ·obtain⟨x,h1,h2,h3⟩:=W0 [] hl he;have key:=bL (step:=aS) (N:=2^64) (λt=>(b,(),a,(a.length:Int),(t:Int),())) x (.inl (false,())) Z (λt ht=>step t Z true (oT (h2 t ht))) (step x h1 false (oF h3));have key:bV (b,(),a,(a.length:Int),0,())=_:=key;simp only[aV,e0,Bool.not_true,oD,key,aD,KP,oF he]
 ·have e0:eqI (a.length:Int) (b.length:Int)=false:=by rw[bZ]; exact oF Z
  have he:¬ a=b:=λe=>hl (by rw[e])
  simp only[aV,e0,Bool.not_false,oC,oF he]
theorem aU4(a b:List (List Int))(ha:a.length<1048576)(hr:∀ r∈a,r.length<1048576):aW (a,b,(),())=some (decide (a=b),()):=by
 by_cases hl:a.length=b.length
 ·have e0:eqI (a.length:Int) (b.length:Int)=true:=by rw[bZ]; exact oT Z
  have step:∀ t,t<a.length->∀ c,decide (a.getD t []=b.getD t [])=c->aR (b,(),a,(a.length:Int),(t:Int),())=(bif c then some (.inl (b,(),a,(a.length:Int),((t+1:Nat):Int),())) else some (.inr (.inl (false,())))):=λt ht c hc=>by
   have e1:ltI (t:Int) (a.length:Int)=true:=by rw[aE]; exact oT Z
   have e2:aF (t:Int) a.length=true:=by rw[aK]; exact oT Z
   have e3:aF (t:Int) b.length=true:=by rw[aK]; exact oT Z
   have e4:((t:Nat):Int).toNat=t:=oN _;have e5:=bI t Z;have e6:(a.getD t []).length<1048576:=by
    have:a.getD t []=a[t]:=by simp[List.getD,ht]
    rw[this]; exact hr _ (List.getElem_mem ht)
   have e7:=aOO (a.getD t []) (b.getD t []) e6;simp only[aR,e1,e2,e3,e4,e5,oC,E9,e7,aD,hc]
  by_cases he:a=b
  ·subst he;have key:=bL (step:=aR) (N:=2^64) (λt=>(a,(),a,(a.length:Int),(t:Int),())) a.length (.inr ()) Z (λt ht=>step t ht true R) (by
    have e1:ltI (a.length:Int) (a.length:Int)=false:=by rw[aE]; exact oF Z
    simp only[aR,e1,oD])
   have key:bU (a,(),a,(a.length:Int),0,())=_:=key;simp only[aW,e0,Bool.not_true,oD,key,aD,pY,decide_true]
  ·obtain⟨x,h1,h2,h3⟩:=W0 [] hl he;have key:=bL (step:=aR) (N:=2^64) (λt=>(b,(),a,(a.length:Int),(t:Int),())) x (.inl (false,())) Z (λt ht=>step t Z true (oT (h2 t ht))) (step x h1 false (oF h3));have key:bU (b,(),a,(a.length:Int),0,())=_:=key;simp only[aW,e0,Bool.not_true,oD,key,aD,KP,oF he]
 ·have e0:eqI (a.length:Int) (b.length:Int)=false:=by rw[bZ]; exact oF Z
  have he:¬ a=b:=λe=>hl (by rw[e])
  simp only[aW,e0,Bool.not_false,oC,oF he]
theorem aCG(n n':Int)(a b:List (List Int))(ha:a.length<1048576)(hr:∀ r∈a,r.length<1048576):DK ((n,a),(n',b),())=some (decide (n=n')&&decide (a=b),()):=by
 by_cases h:n=n'
 ·subst h;have e0:eqI n n=true:=by rw[bZ]; simp
  simp only[DK,e0,oC,aU2 a b ha hr,aD,decide_true,Bool.true_and]
 ·have e0:eqI n n'=false:=by rw[bZ]; grind
  simp only[DK,e0,oD,h,decide_false,Bool.false_and]
theorem aYV(a b:List (List Int))(ha:a.length<1048576)(hr:∀ r∈a,r.length<1048576):CM (a,b,())=some (decide (a=b),()):=by simp only[CM,aU4 a b ha hr,aD]
end Go.PM
namespace Go.Lz
theorem wY.back {n m k k2 A K K2}(hA:∀ i,i<m->∀ c,n<=c->A i c=0)(h1:wY n m A k K)(h2:wY n k K k2 K2):wY n k2 K2 k K:=by
 intro y;rw[h1];constructor
 ·intro g;refine⟨g.1,λx hx=>?_⟩;have:=((h2 _).1 (Sp.mem hx));rw[IG];exact this.span ((h1 y).2 g)
 ·rintro⟨g1,g2⟩;refine⟨g1,λx hx=>?_⟩;have :=(h2 _).2 ⟨hA x hx,λz hz=>by rw[IG]; exact((h1 _).1 (Sp.mem hz)).2 x hx⟩;exact Ker.span ⟨g1,g2⟩ this
theorem wY.of_same {n m m' k A A' K}(h:Same m A m' A')(h1:wY n m A k K):wY n m' A' k K:=λy=>(h1 y).trans (Ker.same h)
end Go.Lz
namespace Go.PM
open Go Go.RowKit Go.Proofs Go.Lz
structure RT (ps:List Int) (n d r:Nat) (C K:Nat->V):Prop where
 pr:EU (ps,())=some (0,())
 len:ps.length=n
 n4:n<=4
 hc:∃ q,Hn d C q
 hk:∃ p,Hn r K p
 wc:Wd d n C
 wk:Wd r n K
 bc:Big d n C 1000000000
 bk:Big r n K 1000000000
 ker:wY n d C r K
 ker2:wY n r K d C
theorem aQ3 {d n M}(hn:n<=4):∀ r∈Mr d n M,r.length<1048576:=λr hr=>by
 obtain⟨i,_,rfl⟩:=aLO hr;rw[KB]; omega
theorem RT.check {ps n d r C K}(h:RT ps n d r C K):dT ((ps,(Mr d n C,Mr r n K)),())=some (0,()):=by
 obtain⟨q,hc⟩:=h.hc;obtain⟨p,hk⟩:=h.hk;have n4:=h.n4;have d4:=(Hn.GG hc h.wc).1;have r4:=(Hn.GG hk h.wk).1;have e0:eqI 0 0=true:=by rfl
 have e1:ps.length=n:=by rw[h.len]
 have s1:=ZV hc n4 h.wc h.bc h.ker hc h.ker2 h.bc;have s2:=QZ hc n4 h.wc h.bc hk h.ker h.bk;have s3:=aEE hc h.wc Z Z h.bc;have s4:=aCG n n (Mr d n C) (Mr d n C) (by rw[qY]; omega) (aQ3 n4);have s5:=aYV (Mr r n K) (Mr r n K) (by rw[qY]; omega) (aQ3 n4);simp only[decide_true,Bool.and_self]at s4 s5;simp only[dT,h.pr,aD,e0,Bool.not_true,oD,e1,s3,s1,s4,oC,s2,s5]
theorem a2E {ps:List Int} {n:Nat} (hp:EU (ps,())=some (0,())) (hl:ps.length=n) (hn:n<=4) (rows:List (List Int)) (hk:rows.length<=4) (hlen:∀ r∈rows,r.length=n) (hr:∀ r∈rows,∀ a∈r,a.natAbs<=10) (vals:Bool) :
  ∃ d r C K,tJ (ps,rows,vals,())=some ((ps,(Mr d n C,Mr r n K)),0,())/\RT ps n d r C K/\Big r n K 960000/\Big d n C 960000:=by
 have hrow:∀ i,i<rows.length->∃ r,r∈rows/\aAE rows i=lE r:=λi hi=>⟨rows[i],List.getElem_mem hi,by unfold aAE; simp[List.getD,hi]⟩
 have hw:Wd rows.length n (aAE rows):=λi hi x hx=>by
  obtain⟨r,hr1,hr2⟩:=hrow i hi;rw[hr2]; unfold lE;have:=hlen r hr1;simp[List.getD,List.getElem?_eq_none (show r.length<=x by omega)]
 have hB:Big rows.length n (aAE rows) 10:=λi hi x hx=>by
  obtain⟨r,hr1,hr2⟩:=hrow i hi;rw[hr2]; unfold lE;have hl:=hlen r hr1;have:r.getD x 0=r[x]' Z:=by simp[List.getD,show x<r.length by omega]
  rw[this];exact hr r hr1 _ (List.getElem_mem _)
 have b10:4*(24*(10*10*10*10))<=1000000000:=O
 obtain⟨d,M,q,g1,g2,g3,g4,g5,g6⟩:=of_eq rows (n:=n) Z Z hlen (E:=λd=>10^dg 1 d) (T:=λd=>10^(5*dg 1 d+1)) hr (show 10^dg 1 0<=1000000000 by decide) (a0P (.inl hk) O) λd H p hd hH hs hwd i hi x hx=>by
  have hdg:=(aR9 (k:=rows.length) (M:=aAE rows) (E:=10) Z hH (λj hj=>⟨1,by decide,by
   have:=(hs _).2 (Sp.mem hj);refine cast (oZ _ ?_) this
   funext x; simp⟩) (hB.all hw)).mono λv=>(hs v).1
  exact oR (oR (Hn.a6T hH hdg i hi x) (Nat.mul_le_mul Z (aXJ O Z))) b10
 have hd:=(Hn.GG g3 g5).1;obtain⟨m,A,a1,a2⟩:=aDD Z Z g5 g6;obtain⟨m',A',J',K,p,r,k1,k2,k3,k4,k5,k6,k7⟩:=aDT Z hn g5 (by rw[<- p9]; exact g6) a2;obtain⟨m2,A2,J2,S,s,t,c1,c2,c3,c4,c5,c6,c7⟩:=aL9 Z hn k6 k7 k2;have hI:wY n rows.length (aAE rows) r K:=k5.of_same g4.symm;have bK':Big r n K 960000:=λi hi x hx=>aGZ (E:=10) (D:=1) hn Z hw hB O O O k4 hI i hi x
 have bS':Big t n S 960000:=λi hi x hx=>a1K (E:=10) (D:=1) hk hn hw hB O O O hI c4 c5 i hi x
 have bK:Big r n K 1000000000:=λi hi x hx=>oR (bK' i hi x hx) O
 have bS:Big t n S 1000000000:=λi hi x hx=>oR (bS' i hi x hx) O
 have s1:=ZV g3 hn g5 g6 k5 c4 c5 bS;have s2:=QZ g3 hn g5 g6 k4 k5 bK;have back:=wY.back g5 k5 c5;have e0:eqI 0 0=true:=O
 have e1:((ps.length:Nat):Int)=(n:Int):=by rw[hl]
 have g1':HR ((n:Int),rows,())=some (((n:Int),Mr d n M),0,()):=g1;cases vals with
 | false =>
  refine⟨t,r,S,K,?_,⟨hp,hl,hn,⟨s,c4⟩,⟨p,k4⟩,c6,k6,bS,bK,back,c5⟩,bK',bS'⟩;simp only[tJ,hp,aD,e0,Bool.not_true,oD,e1,g1',s1,s2]
 | true =>
  refine⟨r,t,K,S,?_,⟨hp,hl,hn,⟨p,k4⟩,⟨s,c4⟩,k6,c6,bK,bS,c5,back⟩,bS',bK'⟩;simp only[tJ,hp,aD,e0,Bool.not_true,oD,oC,e1,g1',s1,s2]
def L12:List (List Int):=[[2,3,5],[2,3,5,7],[2,3],[2,3,7],[2,5,7],[3,5,7],[2,3,5,11],[2],[2,3,7,13],[3,5,7,13]]
theorem bBA:∀ i,i<10->EU (L12.getD i [],())=some (0,())/\(L12.getD i []).length<=4:=by
 intro i hi;rcases(show i=0\/i=1\/i=2\/i=3\/i=4\/i=5\/i=6\/i=7\/i=8\/i=9 by omega)with rfl|rfl|rfl|rfl|rfl|rfl|rfl|rfl|rfl|rfl
 all_goals exact⟨by rfl,by decide⟩
theorem a2A(v:Int)(h0:0<=v)(h1:v<256):C4 (v,())=some (L12.getD (v%10).toNat [],()):=by
 have e1:IntKind.wrap .i64 v=v:=V7 Z Z;have e2:v.tmod 10=v%10:=Int.tmod_eq_emod_of_nonneg h0;have e3:aF (v%10) 10=true:=by rw[aK]; grind
 have e4:eqI 10 0=false:=O
 have hl:L12.length=10:=O
 show (bif eqI L12.length 0 then none else bif aF ((IntKind.wrap .i64 v).tmod (L12.length:Int)) L12.length then some ((L12.getD (((IntKind.wrap .i64 v).tmod L12.length).toNat) []),()) else none)=_;grind
def NP(t:Int×Int×Int×Int):Nat->Int
 | 0=>t.1
 | 1=>t.2.1
 | 2=>t.2.2.1
 | _=>t.2.2.2
def I8(t:Int×Int×Int×Int):Prop:=∀ i,i<4->-128<=NP t i/\NP t i<128
theorem aT1(ps:List Int)(hl:ps.length<=4) t (ht:I8 t):tT (ps,t,())=some ((List.range ps.length).map (λi=>(NP t i).tmod 10),()):=by
 have w0:IntKind.wrap .i64 t.1=t.1:=V7 (by have:=ht 0 Z; simp only[NP]at this; omega) (by have:=ht 0 Z; simp only[NP]at this; omega);have w1:IntKind.wrap .i64 t.2.1=t.2.1:=V7 (by have:=ht 1 Z; simp only[NP]at this; omega) (by have:=ht 1 Z; simp only[NP]at this; omega);have w2:IntKind.wrap .i64 t.2.2.1=t.2.2.1:=V7 (by have:=ht 2 Z; simp only[NP]at this; omega) (by have:=ht 2 Z; simp only[NP]at this; omega)
 have w3:IntKind.wrap .i64 t.2.2.2=t.2.2.2:=V7 (by have:=ht 3 Z; simp only[NP]at this; omega) (by have:=ht 3 Z; simp only[NP]at this; omega);have key:=bL (step:=nY) (N:=2^64) (λs=>(ps,(t.1,(t.2.1,(t.2.2.1,t.2.2.2))),(List.range s).map (λi=>(NP t i).tmod 10),(s:Int),())) ps.length ((List.range ps.length).map (λi=>(NP t i).tmod 10),()) Z (λs hs=>?_) ?_
 ·have key:uA (ps,(t.1,(t.2.1,(t.2.2.1,t.2.2.2))),[],0,())=_:=key;simp only[tT,key,aD]
 ·have e1:ltI (s:Int) (ps.length:Int)=true:=by rw[aE]; exact oT Z
  have e2:ltI (s:Int) 4=true:=by rw[aE]; exact oT Z
  have e3:=bI s Z;have e4:∀ x:Int,Nat.ble [x].length 1048576=true:=λ_=>rfl
  have e5:Nat.ble ((List.range s).map (λi=>(NP t i).tmod 10)).length 1048576=true:=by rw[dF,List.length_map,List.length_range]; exact oT Z
  have e6:(List.range (s+1)).map (λi=>(NP t i).tmod 10)=(List.range s).map (λi=>(NP t i).tmod 10)++[(NP t s).tmod 10]:=by rw[List.range_succ,List.map_append]; rfl
  simp only[nY,e1,e2,oC,e4,e5,w0,w1,w2,w3,e3,e6];rcases(show s=0\/s=1\/s=2\/s=3 by omega)with rfl|rfl|rfl|rfl <;> rfl
 ·have e1:ltI (ps.length:Int) (ps.length:Int)=false:=by rw[aE]; exact oF Z
  simp only[nY,e1,oD]
theorem a6W(v:Int) (h0:0<=v) (h1:v<256) (rows:List (Int×Int×Int×Int)) (hk:rows.length<=3) (hr:∀ t∈rows,I8 t) (vals:Bool) :
  ∃ d r C K,BE ((v,(rows,vals)),())=some ((L12.getD (v%10).toNat [],(Mr d (L12.getD (v%10).toNat []).length C,Mr r (L12.getD (v%10).toNat []).length K)),())/\RT (L12.getD (v%10).toNat []) (L12.getD (v%10).toNat []).length d r C K/\Big r (L12.getD (v%10).toNat []).length K 960000/\Big d (L12.getD (v%10).toNat []).length C 960000:=by
 obtain⟨hp,hl⟩:=bBA (v%10).toNat Z;have hP:=a2A v h0 h1;generalize L12.getD (v%10).toNat []=ps at hp hl hP ⊢;have key:=bL (step:=sO) (N:=2^64) (λs=>((v,(rows,vals)),([],([],[])),ps,(rows.take s).map (λt=>(List.range ps.length).map (λi=>(NP t i).tmod 10)),(s:Int),())) rows.length
  ((v,(rows,vals)),([],([],[])),ps,rows.map (λt=>(List.range ps.length).map (λi=>(NP t i).tmod 10)),()) Z (λs hs=>?_) ?_
 ·have key:zN ((v,(rows,vals)),([],([],[])),ps,[],0,())=_:=key;obtain⟨d,r,C,K,b1,b2⟩:=a2E hp rfl hl (rows.map (λt=>(List.range ps.length).map (λi=>(NP t i).tmod 10))) (by rw[List.length_map]; omega) (λr hr=>by
   obtain⟨t,_,rfl⟩:=List.mem_map.1 hr;simp) (λr hr a ha=>by
   obtain⟨t,_,rfl⟩:=List.mem_map.1 hr;obtain⟨i,_,rfl⟩:=List.mem_map.1 ha;rw[Int.natAbs_tmod];have:=Nat.mod_lt (NP t i).natAbs (show 0<(10:Int).natAbs by decide);have e:(10:Int).natAbs=10:=rfl;omega) vals
  refine⟨d,r,C,K,?_,b2⟩;simp only[BE,hP,aD,key,b1]
 ·have e1:ltI (s:Int) (rows.length:Int)=true:=by rw[aE]; exact oT Z
  have e2:ltI (s:Int) 3=true:=by rw[aE]; exact oT Z
  have e3:=bI s Z;have e4:aF (s:Int) rows.length=true:=by rw[aK]; exact oT Z
  have e5:((s:Nat):Int).toNat=s:=oN _;have e6:rows.getD s (0,0,0,0)=rows[s]:=by simp[List.getD,hs]
  have e7:=aT1 ps hl rows[s] (hr _ (List.getElem_mem hs));have e8:∀ x:List Int,Nat.ble [x].length 1048576=true:=λ_=>rfl
  have e9:Nat.ble ((rows.take s).map (λt=>(List.range ps.length).map (λi=>(NP t i).tmod 10))).length 1048576=true:=by rw[dF,List.length_map,List.length_take]; exact oT Z
  have e10:(rows.take (s+1)).map (λt=>(List.range ps.length).map (λi=>(NP t i).tmod 10))=(rows.take s).map (λt=>(List.range ps.length).map (λi=>(NP t i).tmod 10))++[(List.range ps.length).map (λi=>(NP rows[s] i).tmod 10)]:=by rw[List.take_succ_eq_append_getElem hs,List.map_append]; rfl
  simp only[sO,e1,e2,oC,e4,e5,e6,e7,aD,e8,e9,e3,e10]
 ·have e1:ltI (rows.length:Int) (rows.length:Int)=false:=by rw[aE]; exact oF Z
  simp only[sO,e1,oD,List.take_length]
theorem aYI {a b E F}:∀ {n},(∀ x,x<n->(a x).natAbs<=E)->(∀ x,x<n->(b x).natAbs<=F)->(dot n a b).natAbs<=n*(E*F)
 | 0,_,_=>by simp[dot]
 | n+1,ha,hb=>by
  have h1:=aYI (n:=n) (λx hx=>ha x Z) (λx hx=>hb x Z);have h2:=aI5 (ha n R) (hb n R);rw[Nat.succ_mul];show (dot n a b+a n*b n).natAbs<=_;omega
section
variable {n r:Nat} {K:Nat->V}
theorem aO7(hn:n<=12)(hr:r<=12)(ps:List Int)(C:List (List Int))(x:List Int)(hl:x.length=n)(hx:∀ a∈x,a.natAbs<=1000000000)(hw:Wd r n K)(hK:Big r n K 1000000000) :
  yT ((ps,(C,Mr r n K)),x,())=some ((List.range r).map (λi=>Zn (dot n (lE x) (K i))),()):=by
 have hxv:∀ t,t<n->(lE x t).natAbs<=1000000000:=λt ht=>by
  unfold lE;have:x.getD t 0=x[t]' Z:=by simp[List.getD,show t<x.length by omega]
  rw[this];exact hx _ (List.getElem_mem _)
 have inner:∀ i,i<r->∀ (v5:List ByteArray) (v12:List (List Int)) (v13 v14:Int),mU (x,v5,Vr n (K i),ByteArray.mk #[48],v12,v13,v14,x,(x.length:Int),0,())=some (x,v5,Zn (dot n (lE x) (K i)),v12,v13,v14,()):=λi hi v5 v12 v13 v14=>by
  have key:=bL (step:=mS) (N:=2^64) (λt=>(x,v5,Vr n (K i),Zn (dot t (lE x) (K i)),v12,v13,v14,x,(x.length:Int),(t:Int),())) n (x,v5,Zn (dot n (lE x) (K i)),v12,v13,v14,()) Z (λt ht=>?_) ?_
  ·have z:Zn (dot 0 (lE x) (K i))=ByteArray.mk #[48]:=by
    show Zn 0=_
    kernel_rfl
   have key:mU (x,v5,Vr n (K i),Zn (dot 0 (lE x) (K i)),v12,v13,v14,x,(x.length:Int),0,())=_:=key;rwa[z]at key
  ·have e1:ltI (t:Int) (x.length:Int)=true:=by rw[aE]; exact oT Z
   have e2:aF (t:Int) x.length=true:=by rw[aK]; exact oT Z
   have e3:((t:Nat):Int).toNat=t:=oN _;have e4:aF (t:Int) n=true:=by rw[aK]; exact oT Z
   have b1:=hxv t ht;have b2:=hK i hi t ht;have b3:=aYI (n:=t) (a:=lE x) (b:=K i) (λy hy=>hxv y Z) (λy hy=>hK i hi y Z);have b4:=aI5 b1 b2;have e5:kO (x.getD t 0,())=some (Zn (lE x t),()):=uW _ (by have:x.getD t 0=lE x t:=rfl; omega) (by have:x.getD t 0=lE x t:=rfl; omega);have e6:kO ((Vr n (K i)).getD t 0,())=some (Zn (K i t),()):=by rw[aMM _ ht]; exact uW _ Z Z
   have d1:=tA (u:=(lE x t).natAbs) (k:=9) Z;have d2:=tA (u:=(K i t).natAbs) (k:=9) Z;have e7:=aLK (lE x t) (K i t) Z;have d3:=tA (u:=(dot t (lE x) (K i)).natAbs) (k:=20) Z;have d4:=tA (u:=(lE x t*K i t).natAbs) (k:=20) Z;have e8:=aK6 (dot t (lE x) (K i)) (lE x t*K i t) Z Z;have e9:=bI t Z;have e10:dot t (lE x) (K i)+lE x t*K i t=dot (t+1) (lE x) (K i):=rfl
   simp only[mS,e1,e2,e3,e5,aD,KB,e4,e6,e7,e8,e9,e10,oC]
  ·have e1:ltI (n:Int) (x.length:Int)=false:=by rw[aE]; exact oF Z
   simp only[mS,e1,oD]
 have key:=bL (step:=mW) (N:=2^64) (λt=>(x,(List.range t).map (λi=>Zn (dot n (lE x) (K i))),Mr r n K,((Mr r n K).length:Int),(t:Int),())) r ((List.range r).map (λi=>Zn (dot n (lE x) (K i))),()) Z (λt ht=>?_) ?_
 ·have key:rT (x,[],Mr r n K,((Mr r n K).length:Int),0,())=_:=key;simp only[yT,key,aD]
 ·have e1:ltI (t:Int) (r:Int)=true:=by rw[aE]; exact oT Z
  have e2:aF (t:Int) r=true:=by rw[aK]; exact oT Z
  have e3:((t:Nat):Int).toNat=t:=oN _;have e4:∀ s:ByteArray,Nat.ble [s].length 1048576=true:=λ_=>rfl
  have e5:Nat.ble ((List.range t).map (λi=>Zn (dot n (lE x) (K i)))).length 1048576=true:=by rw[dF,List.length_map,List.length_range]; exact oT Z
  have e6:=bI t Z;have e7:(List.range (t+1)).map (λi=>Zn (dot n (lE x) (K i)))=(List.range t).map (λi=>Zn (dot n (lE x) (K i)))++[Zn (dot n (lE x) (K t))]:=by rw[List.range_succ,List.map_append]; rfl
  simp only[mW,qY,e1,e2,e3,aSL K ht,inner t ht,aD,e4,e5,e6,e7,oC]
 ·have e1:ltI (r:Int) (r:Int)=false:=by rw[aE]; exact oF Z
  simp only[mW,qY,e1,oD]
end
section
variable {ps:List Int} {n d r:Nat} {C K:Nat->V}
theorem aVW(h:RT ps n d r C K)(x:List Int)(hl:x.length=n)(hx:∀ a∈x,a.natAbs<=1000000000):AS ((ps,(Mr d n C,Mr r n K)),[x],())=some (0,()):=by
 have n4:=h.n4;have e0:eqI 0 0=true:=O
 have c1:=aFU x Z hx;have e1:eqI ((x.length:Nat):Int) ((ps.length:Nat):Int)=true:=by rw[bZ]; exact oT (by rw[hl,h.len])
 have key:=bL (step:=yY) (N:=2^64) (λt=>((ps,(Mr d n C,Mr r n K)),[x],1,(t:Int),())) 1 (.inr ()) Z (λt ht=>?_) ?_
 ·have key:yX ((ps,(Mr d n C,Mr r n K)),[x],([x].length:Int),0,())=_:=key;simp only[AS,h.check,aD,e0,Bool.not_true,oD,key,pY]
 ·obtain rfl:t=0:=Z
  have e2:ltI ((0:Nat):Int) 1=true:=O
  have e3:=bI 0 Z;simp only[yY,e2,oC,e3];show (bif aF ((0:Nat):Int) 1 then aC (uU (x,())) _ else none)=_;have e4:aF ((0:Nat):Int) 1=true:=O
  simp only[e4,oC,c1,aD,e0,Bool.not_true,oD];grind
 rfl
def tmp(n r:Nat) (K:Nat->V) (x:List Int):List Int:=Vr r λi=>dot n (lE x) (K i)
theorem a1H(h:RT ps n d r C K) x (hl:x.length=n)(hx:∀ a∈x,a.natAbs<=1000000000)(hd:∀ i,i<r->(dot n (lE x) (K i)).natAbs<=1000000000) :
  gV ((ps,(Mr d n C,Mr r n K)),x,())=some (tmp n r K x,0,()):=by
 have n4:=h.n4;obtain⟨p,hk⟩:=h.hk;have r4:=(Hn.GG hk h.wk).1;have e0:eqI 0 0=true:=O
 have t1:=aO7 Z Z ps (Mr d n C) x hl hx h.wk h.bk;generalize hz:(List.range r).map (λi=>Zn (dot n (lE x) (K i)))=zs at t1;have hzl:zs.length=r:=by rw[<- hz]; simp
 have key:=bL (step:=cG) (N:=2^64) (λt=>((List.range t).map (λi=>dot n (lE x) (K i)),zs,(r:Int),(t:Int),())) r (.inr (tmp n r K x,())) Z (λt ht=>?_) ?_
 ·have key:rO ([],zs,(zs.length:Int),0,())=some (.inr (tmp n r K x,())):=by rw[hzl]; exact key
  simp only[gV,aVW h x hl hx,aD,e0,Bool.not_true,oD,t1,key,pY]
 ·have e2:ltI (t:Int) (r:Int)=true:=by rw[aE]; exact oT Z
  have e3:aF (t:Int) zs.length=true:=by rw[aK]; exact oT Z
  have e4:zs.getD ((t:Int)).toNat ByteArray.empty=Zn (dot n (lE x) (K t)):=by rw[<- hz]; simp[List.getD,ht]
  have hb:=hd t ht;have e5:=aH5 (dot n (lE x) (K t)) (by have:=tA (u:=(dot n (lE x) (K t)).natAbs) (k:=17) Z; omega);have e6:ltI 1000000000 (dot n (lE x) (K t))=false:=by rw[aE]; exact oF Z
  have e7:ltI (dot n (lE x) (K t)) (-1000000000)=false:=by rw[aE]; exact oF Z
  have e8:Nat.ble [dot n (lE x) (K t)].length 1048576=true:=rfl;have e9:Nat.ble ((List.range t).map (λi=>dot n (lE x) (K i))).length 1048576=true:=Nat.ble_eq_true_of_le (by simp; omega);have e10:=bI t Z;simp only[cG,e2,oC,e3,e4,e5,aD,e6,oD,e7,e8,e9,e10];rw[List.range_succ,List.map_append]; rfl
 ·have e2:ltI (r:Int) (r:Int)=false:=by rw[aE]; exact oF Z
  simp only[cG,e2,oD]; rfl
end
theorem aEV:∀ (l:List UInt8) (acc m:Nat),Lib.decFrom acc l=some m->acc<=m
 | [],acc,m,h=>by
  simp only[Lib.decFrom]at h;injection h with h; omega
 | c::r,acc,m,h=>by
  by_cases hd:48<=c.toNat/\c.toNat<=57
  ·simp only[Lib.decFrom,Lib.digitVal,if_pos hd]at h;have:=aEV r _ m h;omega
  ·simp only[Lib.decFrom,Lib.digitVal,if_neg hd]at h;cases h
theorem bCJ:∀ (l:List UInt8) (acc m:Nat),acc<18446744073709551616->Lib.decFrom acc l=some m->Lib.parseUint10 acc l=if m<18446744073709551616 then .ok m else .range
 | [],acc,m,ha,h=>by
  simp only[Lib.decFrom]at h;injection h with h;subst h;rw[if_pos ha]; rfl
 | c::r,acc,m,ha,h=>by
  by_cases hd:48<=c.toNat/\c.toNat<=57
  ·simp only[Lib.decFrom,Lib.digitVal,if_pos hd]at h;have hge:=aEV r _ m h;simp only[Lib.parseUint10,if_pos hd]
   by_cases h1:1844674407370955162<=acc
   ·rw[if_pos h1,if_neg Z]
   ·rw[if_neg h1]
    by_cases h2:18446744073709551616<=acc*10+(c.toNat-48)
    ·rw[if_pos h2,if_neg Z]
    ·rw[if_neg h2];exact bCJ r _ m Z h
  ·simp only[Lib.decFrom,Lib.digitVal,if_neg hd]at h;cases h
theorem aTO {l:List UInt8}{m:Nat}(h:Lib.decNat l=some m):Lib.parseMag l=if m<18446744073709551616 then .ok m else .range:=by
 have hne:l≠[]:=λe=>by subst e; cases h
 have hd:Lib.decFrom 0 l=some m:=by
  unfold Lib.decNat at h;split at h
  ·cases h
  ·exact h
 unfold Lib.parseMag;rw[if_neg hne];exact bCJ l 0 m O hd
theorem aUG {n:Int}(h:Lib.nDigits n.natAbs<=400000):(Zn n).size<=1000000000:=by
 rcases(by omega:n<0\/0<=n)with g|g
 ·rw[C7 g]; omega
 ·rw[ND g,CQ]; omega
theorem aJS(n:Int) (h:Lib.nDigits n.natAbs<=400000):∃ v b,nC (Zn n,())=some (v,b,())/\(b=true->v=n)/\(n.natAbs<=1000000000->b=true):=by
 have e1:Nat.ble (Zn n).size 1000000000=true:=by rw[dF]; simpa using aUG h
 have hmag:=aHL n.natAbs;rw[wZ]at hmag;have hp:=aTO hmag;have hne:∀ c r,Lib.decDigits n.natAbs=c::r->c.toNat≠43/\c.toNat≠45:=λc r he=>by
  have:=F3 n.natAbs c (by rw[he]; simp);omega
 have fin:∀ v,Lib.parseIntB 64 (Zn n).data.toList=.ok v->v=n->∃ v b,nC (Zn n,())=some (v,b,())/\(b=true->v=n)/\(n.natAbs<=1000000000->b=true):=λv hv e=>⟨v,true,by
  unfold nC;simp only[e1,oC,hv],λ_=>e,λ_=>rfl⟩
 have bad:Lib.parseIntB 64 (Zn n).data.toList=.range->1000000000<n.natAbs->∃ v b,nC (Zn n,())=some (v,b,())/\(b=true->v=n)/\(n.natAbs<=1000000000->b=true):=λhv hb=>⟨0,false,by
  unfold nC;simp only[e1,oC,hv],(λh=>by cases h),λh=>by omega⟩
 rcases(by omega:n<0\/0<=n)with g|g
 ·have ez:Lib.parseIntB 64 (Zn n).data.toList=Lib.signed (Lib.parseMag (Lib.decDigits n.natAbs)):=by
   rw[Lib.parseIntB_64,TQ g,Lib.atoiAll_minus]
  by_cases h1:n.natAbs<18446744073709551616
  ·rw[if_pos h1]at hp;rw[hp]at ez
   by_cases h2:9223372036854775808<n.natAbs
   ·exact bad (by rw[ez]; simp only[Lib.signed,if_pos h2]) Z
   ·exact fin (-(n.natAbs:Int)) (by rw[ez]; simp only[Lib.signed,if_neg h2]) Z
  ·rw[if_neg h1]at hp;rw[hp]at ez;exact bad (by rw[ez]; rfl) Z
 ·have ez:Lib.parseIntB 64 (Zn n).data.toList=Lib.signless (Lib.parseMag (Lib.decDigits n.natAbs)):=by
   rw[Lib.parseIntB_64,ND g,wZ];cases he:Lib.decDigits n.natAbs with
   | nil=>exact absurd he (EV _)
   | cons c r =>
    obtain⟨a1,a2⟩:=hne c r he;rw[Lib.atoiAll_plain c r a1 a2]
  by_cases h1:n.natAbs<18446744073709551616
  ·rw[if_pos h1]at hp;rw[hp]at ez
   by_cases h2:9223372036854775808<=n.natAbs
   ·exact bad (by rw[ez]; simp only[Lib.signless,if_pos h2]) Z
   ·exact fin (n.natAbs:Int) (by rw[ez]; simp only[Lib.signless,if_neg h2]) Z
  ·rw[if_neg h1]at hp;rw[hp]at ez;exact bad (by rw[ez]; rfl) Z
section
variable {ps:List Int} {n d r:Nat} {C K:Nat->V}
theorem a8Y {n:Nat}{A B:Nat}{u v:V}(hu:∀ i,i<n->(u i).natAbs<=A)(hv:∀ i,i<n->(v i).natAbs<=B):(dot n u v).natAbs<=n*(A*B):=by
 induction n with
 | zero=>simp[dot]
 | succ n ih =>
  have h1:=ih (λi hi=>hu i Z) (λi hi=>hv i Z);have h2:(u n*v n).natAbs<=A*B:=by
   rw[Int.natAbs_mul];exact Nat.mul_le_mul (hu n Z) (hv n Z)
  show (dot n u v+u n*v n).natAbs<=_;rw[Nat.succ_mul];omega
theorem aXN(h:RT ps n d r C K) (x:List Int) (hl:x.length=n) (hx:∀ a∈x,a.natAbs<=1000000000) :
  ∃ y e,gV ((ps,(Mr d n C,Mr r n K)),x,())=some (y,e,())/\(e=0->y.length=r/\∀ a∈y,a.natAbs<=1000000000)/\y.length<=4:=by
 have n4:=h.n4;obtain⟨p,hk⟩:=h.hk;have r4:=(Hn.GG hk h.wk).1
 by_cases hd:∀ i,i<r->(dot n (lE x) (K i)).natAbs<=1000000000
 ·refine⟨_,_,a1H h x hl hx hd,λ_=>⟨by simp[tmp,Vr],λa ha=>?_⟩,by simp[tmp,Vr]; omega⟩;obtain⟨i,hi,rfl⟩:=List.mem_map.1 ha;exact hd i (List.mem_range.1 hi)
 ·have e0:eqI 0 0=true:=O
  have t1:=aO7 Z Z ps (Mr d n C) x hl hx h.wk h.bk;generalize hz:(List.range r).map (λi=>Zn (dot n (lE x) (K i)))=zs at t1;have hzl:zs.length=r:=by rw[<- hz]; simp
  have key:∀ m j,j+m=r->(∀ i,i<j->(dot n (lE x) (K i)).natAbs<=1000000000)->∀ N,m<N->aX cG N ((List.range j).map (λi=>dot n (lE x) (K i)),zs,(r:Int),(j:Int),())=some (.inl ([],4,())):=by
   intro m
   induction m with
   | zero =>
    intro j hj hg N hN;exact(hd λi hi=>hg i Z).elim
   | succ m ih =>
    intro j hj hg N hN;obtain⟨N,rfl⟩:∃ M,N=M+1:=⟨N-1,by omega⟩;have e2:ltI (j:Int) (r:Int)=true:=by rw[aE]; exact oT Z
    have e3:aF (j:Int) zs.length=true:=by rw[aK]; exact oT Z
    have e4:zs.getD ((j:Int)).toNat ByteArray.empty=Zn (dot n (lE x) (K j)):=by rw[<- hz]; simp[List.getD,show j<r by omega]
    have hb:(dot n (lE x) (K j)).natAbs<=n*(1000000000*1000000000):=a8Y (λi hi=>by
     unfold lE;have:x.getD i 0=x[i]' Z:=by simp[List.getD,show i<x.length by omega]
     rw[this]; exact hx _ (List.getElem_mem _)) (λi hi=>h.bk j Z i hi)
    have hb2:n*(1000000000*1000000000)<=4*(1000000000*1000000000):=Nat.mul_le_mul_right _ n4;obtain⟨v,b,s1,s2,s3⟩:=aJS (dot n (lE x) (K j)) (by have:=tA (u:=(dot n (lE x) (K j)).natAbs) (k:=30) Z; omega)
    by_cases g:(dot n (lE x) (K j)).natAbs<=1000000000
    ·obtain rfl:=s3 g;obtain rfl:=s2 rfl;have e6:ltI 1000000000 (dot n (lE x) (K j))=false:=by rw[aE]; exact oF Z
     have e7:ltI (dot n (lE x) (K j)) (-1000000000)=false:=by rw[aE]; exact oF Z
     have e8:Nat.ble [dot n (lE x) (K j)].length 1048576=true:=rfl;have e9:Nat.ble ((List.range j).map (λi=>dot n (lE x) (K i))).length 1048576=true:=Nat.ble_eq_true_of_le (by simp; omega);have e10:=bI j Z;have st:cG ((List.range j).map (λi=>dot n (lE x) (K i)),zs,(r:Int),(j:Int),())=some (.inl ((List.range (j+1)).map (λi=>dot n (lE x) (K i)),zs,(r:Int),((j+1:Nat):Int),())):=by
      simp only[cG,e2,oC,e3,e4,s1,aD,e6,oD,e7,e8,e9,e10];rw[List.range_succ,List.map_append]; rfl
     rw[cM,st];exact ih (j+1) Z (λi hi=>by
      by_cases e:i=j
      ·subst e; exact g
      ·exact hg i Z) N Z
    ·have st:cG ((List.range j).map (λi=>dot n (lE x) (K i)),zs,(r:Int),(j:Int),())=some (.inr (.inl ([],4,()))):=by
      cases b with
      | false=>simp only[cG,e2,oC,e3,e4,s1,aD,oD]
      | true =>
       obtain rfl:=s2 rfl
       by_cases g2:1000000000<dot n (lE x) (K j)
       ·have e6:ltI 1000000000 (dot n (lE x) (K j))=true:=by rw[aE]; exact oT g2
        simp only[cG,e2,oC,e3,e4,s1,aD,e6]
       ·have e6:ltI 1000000000 (dot n (lE x) (K j))=false:=by rw[aE]; exact oF g2
        have e7:ltI (dot n (lE x) (K j)) (-1000000000)=true:=by rw[aE]; exact oT Z
        simp only[cG,e2,oC,e3,e4,s1,aD,e6,oD,e7]
     rw[cM,st]
  have key:=key r 0 Z (λi hi=>by omega) (2^64) Z;have key:rO ([],zs,(zs.length:Int),0,())=some (.inl ([],4,())):=by rw[hzl]; exact key
  exact⟨[],4,by simp only[gV,aVW h x hl hx,aD,e0,Bool.not_true,oD,t1,key,KP],(λh=>by cases h),by simp⟩
end
end Go.PM
