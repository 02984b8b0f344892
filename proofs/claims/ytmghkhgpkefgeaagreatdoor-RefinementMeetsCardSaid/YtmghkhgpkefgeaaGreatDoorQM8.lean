/- Texts of one proof, joined (8). -/
import Derived.Test.YtmghkhgpkefgeaaGreatDoorQM7
set_option linter.unusedSimpArgs false
set_option linter.unusedVariables false
set_option maxRecDepth 100000
noncomputable section
namespace Go.Lz
theorem aU2(a b:V):∀ n,sm (λx=>a x*b x) n=dot n a b
 | 0=>rfl
 | n+1=>by
  show sm _ n+_=dot n a b+_;rw[aU2 a b n]
theorem KW(x:Nat):un x x=1:=by simp[un]
theorem G9 {x c:Nat}(h:c≠x):un x c=0:=by simp[un,h]
theorem a3N(x c:Nat):un x c=un c x:=by
 by_cases h:c=x
 ·subst h; rfl
 ·rw[G9 h,G9 (Ne.symm h)]
theorem a5M {n:Nat}{v:V}(h:∀ x,n<=x->v x=0):Sp n un v:=by
 have:=Sp.sm (k:=n) (M:=un) (w:=un) (s:=v) (n:=n) λj hj=>Sp.mem hj
 refine cast (congrArg _ ?_) this
 funext x
 by_cases hx:x<n
 ·rw[TX hx λi hi hne=>by rw[G9 (Ne.symm hne),Int.mul_zero],KW,Int.mul_one]
 ·rw[h x (by omega),KY λi hi=>by rw[G9 (by omega),Int.mul_zero]]
theorem a6F(n:Nat):Ind n un:=λc hc i hi=>by
 have:=hc i;rw[TX hi λl hl hne=>by rw[G9 (Ne.symm hne),Int.mul_zero],KW,Int.mul_one]at this;exact this
theorem aS3 {v:V}:∀ {n:Nat},0<=dot n v v/\(dot n v v=0->∀ x,x<n->v x=0)
 | 0=>⟨Int.le_refl _,λ_ x hx=>by omega⟩
 | n+1=>by
  have h1:=aS3 (v:=v) (n:=n);have h2:0<=v n*v n:=by
   rcases(by omega:0<=v n\/v n<=0)with g|g
   ·exact Int.mul_nonneg g g
   ·exact Int.mul_nonneg_of_nonpos_of_nonpos g g
  refine⟨by show 0<=dot n v v+v n*v n; omega,λh x hx=>?_⟩;have h:dot n v v+v n*v n=0:=h
  by_cases e:x=n
  ·subst e;have:v x*v x=0:=by omega
   rcases Int.mul_eq_zero.1 this with g|g <;> exact g
  ·exact h1.2 (by omega) x (by omega)
def mA(k:Nat) (M M':Nat->V):Nat->V:=λi=>if i<k then M i else M' (i-k)
theorem GA {k i:Nat}(M M':Nat->V)(h:i<k):mA k M M' i=M i:=by simp[mA,h]
theorem aRO {k i:Nat}(M M':Nat->V):mA k M M' (k+i)=M' i:=by
 have:¬ k+i<k:=by omega
 simp only[mA,this,if_false]
 congr 1; omega
theorem KF {k k':Nat}{M M':Nat->V}{v:V}(h:Sp k M v):Sp (k+k') (mA k M M') v :=
 Sp.trans (λj hj=>by rw[<- GA M M' hj]; exact Sp.mem (by omega)) h
theorem GJ {k k':Nat}{M M':Nat->V}{v:V}(h:Sp k' M' v):Sp (k+k') (mA k M M') v :=
 Sp.trans (λj hj=>by rw[<- aRO M M']; exact Sp.mem (by omega)) h
theorem aPH(f:Nat->Int)(k:Nat):∀ k',sm f (k+k')=sm f k+sm (λi=>f (k+i)) k'
 | 0=>by simp[sm]
 | k'+1=>by
  show sm f (k+k')+f (k+k')=_;rw[aPH f k k',sm]; omega
theorem aC4 {k k':Nat}{M M':Nat->V}{v:V}(h:Sp (k+k') (mA k M M') v):∃ a b,Sp k M a/\Sp k' M' b/\v=λx=>a x+b x:=by
 induction h with
 | zero=>exact⟨_,_,.zero,.zero,by funext x; simp⟩
 | add j t hj _ ih =>
  obtain⟨a,b,ha,hb,rfl⟩:=ih
  by_cases hk:j<k
  ·refine⟨_,b,Sp.comb t ha (Sp.mem hk),hb,?_⟩
   funext x
   rw[GA M M' hk];show a x+b x+t*M j x=a x+t*M j x+b x;omega
  ·refine⟨a,_,ha,Sp.comb t hb (Sp.mem (j:=j-k) (by omega)),?_⟩
   funext x
   have:mA k M M' j=M' (j-k):=by simp[mA,hk]
   rw[this];show a x+b x+t*M' (j-k) x=a x+(b x+t*M' (j-k) x);omega
structure Dw (n k:Nat) (M:Nat->V) (d:Nat) (p:Nat->Nat) (D:Int) (w:Nat->V) (W:Nat):Prop where
 D0:D≠0
 DW:D.natAbs<=W
 mem:∀ j,j<d->Sp k M (w j)
 at_:∀ j,j<d->w j (p j)=D
 off:∀ i j,i<d->j<d->i≠j->w j (p i)=0
 le:∀ j,j<d->∀ x,(w j x).natAbs<=W
 lt:∀ j,j<d->p j<n
 wide:∀ i,i<k->∀ x,n<=x->M i x=0
 full:∀ v,Sp k M v->(∀ l,l<d->v (p l)=0)->v=λ_=>0
theorem Dw.of {n k d W:Nat} {M:Nat->V} {p:Nat->Nat} (h:∃ (D:Int) (w:Nat->V),D≠0/\D.natAbs<=W/\∀ j,j<d->Sp k M (w j)/\w j (p j)=D/\(∀ i,i<d->i≠j->w j (p i)=0)/\∀ x,(w j x).natAbs<=W)
  (lt:∀ j,j<d->p j<n) (wide:∀ i,i<k->∀ x,n<=x->M i x=0) (full:∀ v,Sp k M v->(∀ l,l<d->v (p l)=0)->v=λ_=>0):∃ D w,Dw n k M d p D w W:=by
 obtain⟨D,w,h1,h2,h3⟩:=h;exact⟨D,w,h1,h2,λj hj=>(h3 j hj).1,λj hj=>(h3 j hj).2.1,λi j hi hj hne=>(h3 j hj).2.2.1 i hi hne,λj hj=>(h3 j hj).2.2.2,lt,wide,full⟩
def kx(D:Int) (w:Nat->V) (d:Nat) (p:Nat->Nat) (x:Nat):V:=λc=>sm (λj=>-(w j x)*un (p j) c) d+D*un x c
section
variable {n k d W:Nat} {M:Nat->V} {p:Nat->Nat} {D:Int} {w:Nat->V}
theorem Dw.inj (h:Dw n k M d p D w W){i j:Nat}(hi:i<d)(hj:j<d)(e:p i=p j):i=j :=
 Classical.byContradiction λhn=>h.D0 (by rw[<- h.at_ j hj,<- e]; exact h.off i j hi hj hn)
theorem Dw.comb (h:Dw n k M d p D w W){b:V}(hb:Sp k M b)(x:Nat):D*b x=sm (λj=>b (p j)*w j x) d:=by
 have hz:=h.full (λy=>D*b y-sm (λj=>b (p j)*w j y) d) (Sp.sub (Sp.smul D hb) (Sp.sm λj hj=>h.mem j hj)) λl hl=>by
  rw[TX (f:=λj=>b (p j)*w j (p l)) hl λj hj hne=>by rw[h.off l j hl hj (Ne.symm hne),Int.mul_zero],h.at_ l hl];grind
 have:=congrFun hz x;have:D*b x-sm (λj=>b (p j)*w j x) d=0:=this;omega
theorem Dw.a5V (h:Dw n k M d p D w W){x:Nat}(hx:x<n)(b:V):dot n (kx D w d p x) b=D*b x-sm (λj=>b (p j)*w j x) d:=by
 show dot n (λc=>sm (λj=>-(w j x)*un (p j) c) d+D*un x c) b=_;rw[wO,aO8,(aDW b).1 hx];have:sm (λj=>-(w j x)*dot n (un (p j)) b) d = -(sm (λj=>b (p j)*w j x) d):=by
  rw[<- Int.neg_one_mul,<- aPN];refine vX λj hj=>?_
  rw[(aDW b).1 (h.lt j hj)];grind
 rw[this];omega
theorem Dw.aUY (h:Dw n k M d p D w W){x:Nat}(hx:x<n):Ker n k M (kx D w d p x):=by
 refine⟨λc hc=>?_,λi hi=>?_⟩
 ·show sm (λj=>-(w j x)*un (p j) c) d+D*un x c=0;rw[KY λj hj=>by rw[G9 (by have:=h.lt j hj; omega),Int.mul_zero],G9 (by omega),Int.mul_zero];rfl
 ·rw[h.a5V hx,h.comb (Sp.mem hi) x]; omega
theorem Dw.aRA (h:Dw n k M d p D w W){x c:Nat}(hc:∀ j,j<d->p j≠c):kx D w d p x c=D*un x c:=by
 show sm (λj=>-(w j x)*un (p j) c) d+D*un x c=_;rw[KY λj hj=>by rw[G9 (Ne.symm (hc j hj)),Int.mul_zero],Int.zero_add]
theorem Dw.a5J (h:Dw n k M d p D w W){x j:Nat}(hj:j<d):kx D w d p x (p j) = -(w j x)+D*un x (p j):=by
 show sm (λj'=>-(w j' x)*un (p j') (p j)) d+D*un x (p j)=_;rw[TX hj λl hl hne=>by rw[G9 (λe=>hne (h.inj hl hj e.symm)),Int.mul_zero],KW,Int.mul_one]
theorem Dw.a0F (h:Dw n k M d p D w W){i:Nat}(hi:i<d)(c:Nat):kx D w d p (p i) c=0:=by
 by_cases hc:∃ j,j<d/\p j=c
 ·obtain⟨j,hj,rfl⟩:=hc;rw[h.a5J hj]
  by_cases e:i=j
  ·subst e;rw[h.at_ i hi,KW]; omega
  ·rw[h.off i j hi hj e,G9 (λe'=>e (h.inj hi hj e'.symm))]; omega
 ·have hc:∀ j,j<d->p j≠c:=λj hj e=>hc ⟨j,hj,e⟩
  rw[h.aRA hc,G9 (Ne.symm (hc i hi)),Int.mul_zero]
theorem Dw.a5N (h:Dw n k M d p D w W)(x c:Nat):(kx D w d p x c).natAbs<=W:=by
 by_cases hp:∃ i,i<d/\p i=x
 ·obtain⟨i,hi,rfl⟩:=hp;rw[h.a0F hi]; simp
 ·have hp:∀ i,i<d->p i≠x:=λi hi e=>hp ⟨i,hi,e⟩
  by_cases hc:∃ j,j<d/\p j=c
  ·obtain⟨j,hj,rfl⟩:=hc;rw[h.a5J hj,G9 (hp j hj)];have:=h.le j hj x;omega
  ·have hc:∀ j,j<d->p j≠c:=λj hj e=>hc ⟨j,hj,e⟩
   rw[h.aRA hc];have:=h.DW
   by_cases e:c=x
   ·subst e; rw[KW]; omega
   ·rw[G9 e]; omega
theorem Dw.a4N (h:Dw n k M d p D w W){y:V}(hy:Ker n k M y):Sp n (kx D w d p) (λc=>D*y c):=by
 have:=Sp.sm (k:=n) (M:=kx D w d p) (w:=kx D w d p) (s:=y) (n:=n) λj hj=>Sp.mem hj
 refine cast (congrArg _ ?_) this
 funext c
 have e1:sm (λx=>y x*kx D w d p x c) n=dot n (λx=>sm (λj=>-(un (p j) c)*w j x) d+D*un c x) y:=by
  rw[n7,<- aU2];refine vX λx _=>?_
  congr 1
  show sm (λj=>-(w j x)*un (p j) c) d+D*un x c=_;rw[a3N x c]
  congr 1
  exact vX λj _=>by grind
 rw[e1,wO,aO8,KY λj hj=>by rw[n7,hy.span (h.mem j hj),Int.mul_zero]]
 by_cases hc:c<n
 ·rw[(aDW y).1 hc]; omega
 ·rw[(aDW y).2 (by omega),hy.1 c (by omega)]; omega
theorem Dw.aF1 (h:Dw n k M d p D w W) {t:Nat} {K:Nat->V} (hK:Ind t K) (hI:kM n k M t K):t+d=n:=by
 have h1:n<=t+d:=by
  refine Ind.aF1 (M:=mA t K λj=>un (p j)) (a6F n) λx hx=>⟨D,h.D0,?_⟩
  have a1:=KF (k':=d) (M':=λj=>un (p j)) ((hI _).2 (h.aUY hx));have a2:=GJ (k:=t) (M:=K) (Sp.sm (k:=d) (M:=λj=>un (p j)) (w:=λj=>un (p j)) (s:=λj=>w j x) (n:=d) λj hj=>Sp.mem hj);have:=Sp.sum a1 a2;refine cast (congrArg _ ?_) this
  funext c
  show (sm (λj=>-(w j x)*un (p j) c) d+D*un x c)+_=_;have e:sm (λj=>-(w j x)*un (p j) c) d = -(sm (λj=>w j x*un (p j) c) d):=by
   rw[<- Int.neg_one_mul,<- aPN];exact vX λj _=>by grind
  rw[e]; omega
 have h2:t+d<=n:=by
  have hi:Ind (t+d) (mA t K w):=λc hc=>by
   have e1:∀ x,sm (λi=>c i*K i x) t+sm (λj=>c (t+j)*w j x) d=0:=λx=>by
    have:=hc x;rw[aPH]at this;rw[<- this]
    congr 1
    ·exact vX λi hi=>by rw[GA K w hi]
    ·exact vX λi hi=>by simp only[aRO K w]
   have s1:Sp t K (λx=>sm (λi=>c i*K i x) t):=Sp.sm λj hj=>Sp.mem hj
   have s2:Sp k M (λx=>sm (λj=>c (t+j)*w j x) d):=Sp.sm λj hj=>h.mem j hj
   have s3:(λx=>sm (λi=>c i*K i x) t)=λx=>-(sm (λj=>c (t+j)*w j x) d):=by funext x; have:=e1 x; omega
   have s4:=((hI _).1 s1);have s5:=s4.span s2;rw[s3]at s5;have s6:dot n (λx=>sm (λj=>c (t+j)*w j x) d) (λx=>sm (λj=>c (t+j)*w j x) d)=0:=by
    have:=wO (λ_=>0) (λx=>sm (λj=>c (t+j)*w j x) d) (λx=>sm (λj=>c (t+j)*w j x) d) (-1) n;rw[IB]at this;have e:(λi=>(0:Int) + -1*sm (λj=>c (t+j)*w j i) d)=λx=>-(sm (λj=>c (t+j)*w j x) d):=by funext x; omega
    rw[e,s5]at this;omega
   have s7:=aS3.2 s6;have s8:∀ x,sm (λj=>c (t+j)*w j x) d=0:=λx=>by
    rcases Nat.lt_or_ge x n with hx|hx
    ·exact s7 x hx
    ·exact Sp.lM (λj hj=>h.wide j hj x hx) s2
   intro i hi
   by_cases hit:i<t
   ·exact hK c (λx=>by have:=e1 x; have:=s8 x; omega) i hit
   ·have:=s8 (p (i-t));rw[TX (j:=i-t) (by omega) λl hl hne=>by rw[h.off (i-t) l (by omega) hl (Ne.symm hne),Int.mul_zero],h.at_ _ (by omega)]at this;have e:t+(i-t)=i:=by omega
    rw[e]at this;rcases Int.mul_eq_zero.1 this with g|g
    ·exact g
    ·exact absurd g h.D0
  refine Ind.aF1 (M:=un) hi λi hi=>⟨1,by decide,?_⟩
  simp only[Int.one_mul];refine a5M λx hx=>?_
  by_cases hit:i<t
  ·rw[GA K w hit]; exact hI.width hit x hx
  ·have e:i=t+(i-t):=by omega
   rw[e,aRO K w];exact Sp.lM (λj hj=>h.wide j hj x hx) (h.mem _ (by omega))
 omega
end
theorem aW7:∀ (n t:Nat) (c:Nat->Nat),(∀ i j,i<j->j<t->c i<c j)->(∀ i,i<t->c i<n)->t<=n/\∃ q:Nat->Nat,(∀ l,l<n-t->q l<n/\∀ i,i<t->c i≠q l)/\(∀ x,x<n->(∃ i,i<t/\c i=x)\/∃ l,l<n-t/\q l=x)/\∀ l m,l<m->m<n-t->q l<q m
 | 0,t,c,h1,h2=>by
  have:t=0:=by
   rcases Nat.eq_zero_or_pos t with h|h
   ·exact h
   ·have:=h2 0 h; omega
  subst this;exact⟨Nat.le_refl _,λ_=>0,λl hl=>by omega,λx hx=>by omega,λl m h1 h2=>by omega⟩
 | n+1,t,c,h1,h2=>by
  by_cases hc:∃ i,i<t/\c i=n
  ·obtain⟨i,hi,hn⟩:=hc;have hit:i=t-1:=by
    rcases Nat.lt_or_ge i (t-1)with g|g
    ·have a1:=h1 i (t-1) g (by omega);have a2:=h2 (t-1) (by omega);omega
    ·omega
   obtain⟨b0,q,b1,b2,b3⟩:=aW7 n (t-1) c (λa b hab hb=>h1 a b hab (by omega)) λa ha=>by
    have:=h1 a i (by omega) hi;omega
   have e:n+1-t=n-(t-1):=by omega
   refine⟨by omega,q,λl hl=>⟨by have:=(b1 l (by omega)).1; omega,λa ha=>?_⟩,λx hx=>?_,λl m g1 g2=>b3 l m g1 (by omega)⟩
   ·by_cases ea:a=i
    ·subst ea;have:=(b1 l (by omega)).1;omega
    ·exact(b1 l (by omega)).2 a (by omega)
   ·by_cases ex:x=n
    ·exact .inl ⟨i,hi,by omega⟩
    ·rcases b2 x (by omega)with ⟨a,g1,g2⟩|⟨l,g1,g2⟩
     ·exact .inl ⟨a,by omega,g2⟩
     ·exact .inr ⟨l,by omega,g2⟩
  ·have hc:∀ i,i<t->c i≠n:=λi hi e=>hc ⟨i,hi,e⟩
   obtain⟨b0,q,b1,b2,b3⟩:=aW7 n t c h1 λa ha=>by
    have:=h2 a ha;have:=hc a ha;omega
   refine⟨by omega,λl=>if l<n-t then q l else n,λl hl=>?_,λx hx=>?_,λl m g1 g2=>?_⟩
   ·by_cases g:l<n-t
    ·simp only[g,if_true];exact⟨by have:=(b1 l g).1; omega,(b1 l g).2⟩
    ·simp only[g,if_false];exact⟨by omega,hc⟩
   ·by_cases ex:x=n
    ·refine .inr ⟨n-t,by omega,?_⟩;have:¬ n-t<n-t:=by omega
     simp only[this,if_false,ex]
    ·rcases b2 x (by omega)with ⟨a,g1,g2⟩|⟨l,g1,g2⟩
     ·exact .inl ⟨a,by omega,g2⟩
     ·exact .inr ⟨l,by omega,by simp only[g1,if_true]; exact g2⟩
   ·have g3:l<n-t:=by omega
    simp only[g3,if_true]
    by_cases g:m<n-t
    ·simp only[g,if_true]; exact b3 l m g1 g
    ·simp only[g,if_false]; exact(b1 l g3).1
theorem aT7 {d:Nat} {H:Nat->V} {q:Nat->Nat} (hH:Ind d H) (full:∀ v,Sp d H v->(∀ l,l<d->v (q l)=0)->v=λ_=>0) {i:Nat} (hi:i<d):∃ u,Sp d H u/\(∀ l,l<d->l≠i->u (q l)=0)/\u (q i)≠0:=by
 obtain⟨d,rfl⟩:∃ e,d=e+1:=⟨d-1,by omega⟩;obtain⟨c,⟨i0,hi0,hc0⟩,h1⟩:=dep d un (λl m=>if m<d then H l (q (skip i m)) else 0) λl hl=>a5M λx hx=>by
  have:¬ x<d:=by omega
  simp only[this,if_false]
 have hu:Sp (d+1) H (λx=>sm (λl=>c l*H l x) (d+1)):=Sp.sm λj hj=>Sp.mem hj
 have hz:∀ l,l<d+1->l≠i->sm (λm=>c m*H m (q l)) (d+1)=0:=λl hl hne=>by
  have:=h1 (if l<i then l else l-1);have e1:skip i (if l<i then l else l-1)=l:=by
   unfold skip
   by_cases g:l<i
   ·simp only[g,if_true]
   ·have:¬ l-1<i:=by omega
    simp only[g,if_false,this];omega
  have e2:(if l<i then l else l-1)<d:=by
   by_cases g:l<i
   ·simp only[g,if_true]; omega
   ·simp only[g,if_false]; omega
  simp only[e1,e2,if_true]at this;exact this
 refine⟨_,hu,hz,λh0=>?_⟩;have:=full _ hu λl hl=>by
  by_cases e:l=i
  ·subst e; exact h0
  ·exact hz l hl e
 exact hc0 (hH c (λx=>congrFun this x) i0 (by omega))
theorem a2Z {n k d t W W0:Nat} {F K H:Nat->V} {B:Nat->Nat} {c p:Nat->Nat} {D:Int} {w:Nat->V} (hn:n<=4) (h0:Dw n k F d p D w W0) (hH:Hn d H p) (hs:Same k F d H) (hE:∀ j,j<k->∀ x,(F j x).natAbs<=B j) (hP:aJW k B W d) (hK:Hn t K c) (hI:kM n k F t K) :
  ∀ i,i<t->∀ x,(K i x).natAbs<=t*W:=by
 have hr:=h0.aF1 hK.ind hI;have hcn:∀ i,i<t->c i<n:=λi hi=>Classical.byContradiction λg=>by
  have:=hI.width hi (c i) (by omega);have:=hK.pos i hi;omega
 obtain⟨_,q,q1,q2,q3⟩:=aW7 n t c hK.inc hcn;have ed:n-t=d:=by omega
 rw[ed]at q1 q2 q3;have fullF:∀ v,Sp k F v->(∀ l,l<d->v (q l)=0)->v=λ_=>0:=λv hv hz=>by
  have hker:∀ j,j<t->dot n (K j) v=0:=λj hj=>((hI _).1 (Sp.mem hj)).span hv
  have hcz:∀ N i,t-i<=N->i<t->v (c i)=0:=by
   intro N
   induction N with
   | zero=>intro i h1 h2; omega
   | succ N ih =>
    intro i h1 h2;have:=hker i h2;rw[<- aU2,TX (hcn i h2) λx hx hne=>by
     rcases q2 x hx with ⟨l,g1,rfl⟩|⟨l,g1,rfl⟩
     ·rcases Nat.lt_or_ge l i with g|g
      ·rw[hK.low i h2 _ (hK.inc l i g h2),Int.zero_mul]
      ·have:i<l:=by
        rcases Nat.eq_or_lt_of_le g with e|e
        ·subst e; exact absurd rfl hne
        ·exact e
       rw[ih l (by omega) g1,Int.mul_zero]
     ·rw[hz l g1,Int.mul_zero]]at this
    have hp:=hK.pos i h2;rcases Int.mul_eq_zero.1 this with g|g
    ·omega
    ·exact g
  funext x
  rcases Nat.lt_or_ge x n with hx|hx
  ·rcases q2 x hx with ⟨l,g1,rfl⟩|⟨l,g1,rfl⟩
   ·exact hcz t l (by omega) g1
   ·exact hz l g1
  ·exact Sp.lM (λj hj=>h0.wide j hj x hx) hv
 have hC:a06 k F d q:=λi hi=>by
  obtain⟨u,u1,u2,u3⟩:=aT7 hH.ind (λv hv=>fullF v ((hs v).2 hv)) hi;refine⟨u,⟨1,by decide,?_⟩,λl hl=>u2 l (by omega) (by omega),u3⟩;simp only[Int.one_mul];exact(hs u).2 u1
 obtain⟨D',w',h1⟩:=Dw.of (n:=n) (XG (by omega) hC hE hP) (λj hj=>(q1 j hj).1) h0.wide fullF;have hd:Dg t K t c W:=⟨D',λj=>kx D' w' d q (c j),h1.D0,λj hj=>⟨(hI _).2 (h1.aUY (hcn j hj)),?_,λi hi hne=>?_,λx=>h1.a5N _ _⟩⟩
 ·exact Hn.aFK hK hd
 ·show kx D' w' d q (c j) (c j)=D';rw[h1.aRA λl hl=>Ne.symm ((q1 l hl).2 j hj),KW,Int.mul_one]
 ·show kx D' w' d q (c j) (c i)=0;rw[h1.aRA λl hl=>Ne.symm ((q1 l hl).2 i hi),G9,Int.mul_zero];intro e;rcases Nat.lt_trichotomy i j with g|g|g
  ·have:=hK.inc i j g hj; omega
  ·exact hne g
  ·have:=hK.inc j i g hi; omega
end Go.Lz
namespace Go.Lz
structure Fam (d:Nat) (C:Nat->V) (k:Nat) (F:Nat->V) (B:Nat->Nat):Prop where
 mem:∀ j,j<k->Sp d C (F j)
 span:∃ D:Int,D≠0/\∀ v,Sp d C v->Sp k F (λx=>D*v x)
 le:∀ j,j<k->∀ x,(F j x).natAbs<=B j
 g1:∀ a,a<k->B a<=2916
 g2:∀ a b,a<k->b<k->a≠b->B a*B b<=26244
 g3:∀ a b c,a<k->b<k->c<k->a≠b->a≠c->b≠c->B a*B b*B c<=729
 g4:∀ a b c d,a<k->b<k->c<k->d<k->a≠b->a≠c->a≠d->b≠c->b≠d->c≠d->B a*B b*B c*B d<=6561
def Q2(k:Nat) (B:Nat->Nat):Prop:=∀ a b,a<k->b<k->a≠b->B a*B b<=81
def apB(k:Nat)(B B':Nat->Nat):Nat->Nat:=λi=>if i<k then B i else B' (i-k)
theorem eI {k i:Nat}(B B':Nat->Nat)(h:i<k):apB k B B' i=B i:=by simp[apB,h]
theorem eF {k i:Nat}(B B':Nat->Nat)(h:¬ i<k):apB k B B' i=B' (i-k):=by simp[apB,h]
def WW:Nat->Nat
 | 0=>1
 | 1=>2916
 | 2=>17006112
 | 3=>306110016
 | _=>34012224
section
variable {d d' k k':Nat} {C C' F F':Nat->V} {B B':Nat->Nat}
theorem Fam.aX5 (h:Fam d C k F B)(h':Fam d' C' k' F' B'):∀ j,j<k+k'->∀ x,(mA k F F' j x).natAbs<=apB k B B' j:=λj hj x=>by
 by_cases g:j<k
 ·rw[GA F F' g,eI B B' g]; exact h.le j g x
 ·rw[eF B B' g];have:mA k F F' j=F' (j-k):=by simp[mA,g]
  rw[this]; exact h'.le _ (by omega) x
theorem Fam.a7M (h:Fam d C k F B)(h':Fam d' C' k' F' B'):aJW (k+k') (apB k B B') (WW 1) 1:=λa ha =>by
 show _<=2916;generalize ea:apB k B B' a=Xa
 by_cases ga:a<k
 ·rw[eI B B' ga]at ea;subst ea;have bd:=h.g1 a ga;omega
 ·rw[eF B B' ga]at ea;subst ea;have bd:=h'.g1 (a-k) (by omega);omega
theorem Fam.a7E (h:Fam d C k F B)(h':Fam d' C' k' F' B'):aJW (k+k') (apB k B B') (WW 2) 2:=λa b ha hb nab=>by
 show _<=17006112;generalize ea:apB k B B' a=Xa;generalize eb:apB k B B' b=Xb
 by_cases ga:a<k
 ·by_cases gb:b<k
  ·rw[eI B B' ga]at ea;rw[eI B B' gb]at eb;subst ea eb;have bd:=h.g2 a b ga gb nab;have e:B a*B b=B a*B b:=by grind
   rw[e]; omega
  ·rw[eI B B' ga]at ea;rw[eF B B' gb]at eb;subst ea eb;have bd:=Nat.mul_le_mul (h.g1 a ga) (h'.g1 (b-k) (by omega));have e:B a*B' (b-k)=(B a)*(B' (b-k)):=by grind
   rw[e]; omega
 ·by_cases gb:b<k
  ·rw[eF B B' ga]at ea;rw[eI B B' gb]at eb;subst ea eb;have bd:=Nat.mul_le_mul (h.g1 b gb) (h'.g1 (a-k) (by omega));have e:B' (a-k)*B b=(B b)*(B' (a-k)):=by grind
   rw[e]; omega
  ·rw[eF B B' ga]at ea;rw[eF B B' gb]at eb;subst ea eb;have bd:=h'.g2 (a-k) (b-k) (by omega) (by omega) (by omega);have e:B' (a-k)*B' (b-k)=B' (a-k)*B' (b-k):=by grind
   rw[e]; omega
theorem Fam.a7T (h:Fam d C k F B)(h':Fam d' C' k' F' B'):aJW (k+k') (apB k B B') (WW 3) 3:=λa b c ha hb hc nab nac nbc=>by
 show _<=306110016;generalize ea:apB k B B' a=Xa;generalize eb:apB k B B' b=Xb;generalize ec:apB k B B' c=Xc
 by_cases ga:a<k
 ·by_cases gb:b<k
  ·by_cases gc:c<k
   ·rw[eI B B' ga]at ea;rw[eI B B' gb]at eb;rw[eI B B' gc]at ec;subst ea eb ec;have bd:=h.g3 a b c ga gb gc nab nac nbc;have e:B a*B b*B c=B a*B b*B c:=by grind
    rw[e]; omega
   ·rw[eI B B' ga]at ea;rw[eI B B' gb]at eb;rw[eF B B' gc]at ec;subst ea eb ec;have bd:=Nat.mul_le_mul (h.g2 a b ga gb nab) (h'.g1 (c-k) (by omega));have e:B a*B b*B' (c-k)=(B a*B b)*(B' (c-k)):=by grind
    rw[e]; omega
  ·by_cases gc:c<k
   ·rw[eI B B' ga]at ea;rw[eF B B' gb]at eb;rw[eI B B' gc]at ec;subst ea eb ec;have bd:=Nat.mul_le_mul (h.g2 a c ga gc nac) (h'.g1 (b-k) (by omega));have e:B a*B' (b-k)*B c=(B a*B c)*(B' (b-k)):=by grind
    rw[e]; omega
   ·rw[eI B B' ga]at ea;rw[eF B B' gb]at eb;rw[eF B B' gc]at ec;subst ea eb ec;have bd:=Nat.mul_le_mul (h.g1 a ga) (h'.g2 (b-k) (c-k) (by omega) (by omega) (by omega));have e:B a*B' (b-k)*B' (c-k)=(B a)*(B' (b-k)*B' (c-k)):=by grind
    rw[e]; omega
 ·by_cases gb:b<k
  ·by_cases gc:c<k
   ·rw[eF B B' ga]at ea;rw[eI B B' gb]at eb;rw[eI B B' gc]at ec;subst ea eb ec;have bd:=Nat.mul_le_mul (h.g2 b c gb gc nbc) (h'.g1 (a-k) (by omega));have e:B' (a-k)*B b*B c=(B b*B c)*(B' (a-k)):=by grind
    rw[e]; omega
   ·rw[eF B B' ga]at ea;rw[eI B B' gb]at eb;rw[eF B B' gc]at ec;subst ea eb ec;have bd:=Nat.mul_le_mul (h.g1 b gb) (h'.g2 (a-k) (c-k) (by omega) (by omega) (by omega));have e:B' (a-k)*B b*B' (c-k)=(B b)*(B' (a-k)*B' (c-k)):=by grind
    rw[e]; omega
  ·by_cases gc:c<k
   ·rw[eF B B' ga]at ea;rw[eF B B' gb]at eb;rw[eI B B' gc]at ec;subst ea eb ec;have bd:=Nat.mul_le_mul (h.g1 c gc) (h'.g2 (a-k) (b-k) (by omega) (by omega) (by omega));have e:B' (a-k)*B' (b-k)*B c=(B c)*(B' (a-k)*B' (b-k)):=by grind
    rw[e]; omega
   ·rw[eF B B' ga]at ea;rw[eF B B' gb]at eb;rw[eF B B' gc]at ec;subst ea eb ec;have bd:=h'.g3 (a-k) (b-k) (c-k) (by omega) (by omega) (by omega) (by omega) (by omega) (by omega);have e:B' (a-k)*B' (b-k)*B' (c-k)=B' (a-k)*B' (b-k)*B' (c-k):=by grind
    rw[e]; omega
theorem Fam.a8I (h:Fam d C k F B)(h':Fam d' C' k' F' B')(q:Q2 k B\/Q2 k' B'):aJW (k+k') (apB k B B') (WW 4) 4:=λa b c d ha hb hc hd nab nac nad nbc nbd ncd=>by
 show _<=34012224;generalize ea:apB k B B' a=Xa;generalize eb:apB k B B' b=Xb;generalize ec:apB k B B' c=Xc;generalize ed:apB k B B' d=Xd
 by_cases ga:a<k
 ·by_cases gb:b<k
  ·by_cases gc:c<k
   ·by_cases gd:d<k
    ·rw[eI B B' ga]at ea;rw[eI B B' gb]at eb;rw[eI B B' gc]at ec;rw[eI B B' gd]at ed;subst ea eb ec ed;have bd:=h.g4 a b c d ga gb gc gd nab nac nad nbc nbd ncd;have e:B a*B b*B c*B d=B a*B b*B c*B d:=by grind
     rw[e]; omega
    ·rw[eI B B' ga]at ea;rw[eI B B' gb]at eb;rw[eI B B' gc]at ec;rw[eF B B' gd]at ed;subst ea eb ec ed;have bd:=Nat.mul_le_mul (h.g3 a b c ga gb gc nab nac nbc) (h'.g1 (d-k) (by omega));have e:B a*B b*B c*B' (d-k)=(B a*B b*B c)*(B' (d-k)):=by grind
     rw[e]; omega
   ·by_cases gd:d<k
    ·rw[eI B B' ga]at ea;rw[eI B B' gb]at eb;rw[eF B B' gc]at ec;rw[eI B B' gd]at ed;subst ea eb ec ed;have bd:=Nat.mul_le_mul (h.g3 a b d ga gb gd nab nad nbd) (h'.g1 (c-k) (by omega));have e:B a*B b*B' (c-k)*B d=(B a*B b*B d)*(B' (c-k)):=by grind
     rw[e]; omega
    ·rw[eI B B' ga]at ea;rw[eI B B' gb]at eb;rw[eF B B' gc]at ec;rw[eF B B' gd]at ed;subst ea eb ec ed;rcases q with q|q
     ·have bd:=Nat.mul_le_mul (q a b ga gb nab) (h'.g2 (c-k) (d-k) (by omega) (by omega) (by omega));have e:B a*B b*B' (c-k)*B' (d-k)=(B a*B b)*(B' (c-k)*B' (d-k)):=by grind
      rw[e]; omega
     ·have bd:=Nat.mul_le_mul (h.g2 a b ga gb nab) (q (c-k) (d-k) (by omega) (by omega) (by omega));have e:B a*B b*B' (c-k)*B' (d-k)=(B a*B b)*(B' (c-k)*B' (d-k)):=by grind
      rw[e]; omega
  ·by_cases gc:c<k
   ·by_cases gd:d<k
    ·rw[eI B B' ga]at ea;rw[eF B B' gb]at eb;rw[eI B B' gc]at ec;rw[eI B B' gd]at ed;subst ea eb ec ed;have bd:=Nat.mul_le_mul (h.g3 a c d ga gc gd nac nad ncd) (h'.g1 (b-k) (by omega));have e:B a*B' (b-k)*B c*B d=(B a*B c*B d)*(B' (b-k)):=by grind
     rw[e]; omega
    ·rw[eI B B' ga]at ea;rw[eF B B' gb]at eb;rw[eI B B' gc]at ec;rw[eF B B' gd]at ed;subst ea eb ec ed;rcases q with q|q
     ·have bd:=Nat.mul_le_mul (q a c ga gc nac) (h'.g2 (b-k) (d-k) (by omega) (by omega) (by omega));have e:B a*B' (b-k)*B c*B' (d-k)=(B a*B c)*(B' (b-k)*B' (d-k)):=by grind
      rw[e]; omega
     ·have bd:=Nat.mul_le_mul (h.g2 a c ga gc nac) (q (b-k) (d-k) (by omega) (by omega) (by omega));have e:B a*B' (b-k)*B c*B' (d-k)=(B a*B c)*(B' (b-k)*B' (d-k)):=by grind
      rw[e]; omega
   ·by_cases gd:d<k
    ·rw[eI B B' ga]at ea;rw[eF B B' gb]at eb;rw[eF B B' gc]at ec;rw[eI B B' gd]at ed;subst ea eb ec ed;rcases q with q|q
     ·have bd:=Nat.mul_le_mul (q a d ga gd nad) (h'.g2 (b-k) (c-k) (by omega) (by omega) (by omega));have e:B a*B' (b-k)*B' (c-k)*B d=(B a*B d)*(B' (b-k)*B' (c-k)):=by grind
      rw[e]; omega
     ·have bd:=Nat.mul_le_mul (h.g2 a d ga gd nad) (q (b-k) (c-k) (by omega) (by omega) (by omega));have e:B a*B' (b-k)*B' (c-k)*B d=(B a*B d)*(B' (b-k)*B' (c-k)):=by grind
      rw[e]; omega
    ·rw[eI B B' ga]at ea;rw[eF B B' gb]at eb;rw[eF B B' gc]at ec;rw[eF B B' gd]at ed;subst ea eb ec ed;have bd:=Nat.mul_le_mul (h.g1 a ga) (h'.g3 (b-k) (c-k) (d-k) (by omega) (by omega) (by omega) (by omega) (by omega) (by omega));have e:B a*B' (b-k)*B' (c-k)*B' (d-k)=(B a)*(B' (b-k)*B' (c-k)*B' (d-k)):=by grind
     rw[e]; omega
 ·by_cases gb:b<k
  ·by_cases gc:c<k
   ·by_cases gd:d<k
    ·rw[eF B B' ga]at ea;rw[eI B B' gb]at eb;rw[eI B B' gc]at ec;rw[eI B B' gd]at ed;subst ea eb ec ed;have bd:=Nat.mul_le_mul (h.g3 b c d gb gc gd nbc nbd ncd) (h'.g1 (a-k) (by omega));have e:B' (a-k)*B b*B c*B d=(B b*B c*B d)*(B' (a-k)):=by grind
     rw[e]; omega
    ·rw[eF B B' ga]at ea;rw[eI B B' gb]at eb;rw[eI B B' gc]at ec;rw[eF B B' gd]at ed;subst ea eb ec ed;rcases q with q|q
     ·have bd:=Nat.mul_le_mul (q b c gb gc nbc) (h'.g2 (a-k) (d-k) (by omega) (by omega) (by omega));have e:B' (a-k)*B b*B c*B' (d-k)=(B b*B c)*(B' (a-k)*B' (d-k)):=by grind
      rw[e]; omega
     ·have bd:=Nat.mul_le_mul (h.g2 b c gb gc nbc) (q (a-k) (d-k) (by omega) (by omega) (by omega));have e:B' (a-k)*B b*B c*B' (d-k)=(B b*B c)*(B' (a-k)*B' (d-k)):=by grind
      rw[e]; omega
   ·by_cases gd:d<k
    ·rw[eF B B' ga]at ea;rw[eI B B' gb]at eb;rw[eF B B' gc]at ec;rw[eI B B' gd]at ed;subst ea eb ec ed;rcases q with q|q
     ·have bd:=Nat.mul_le_mul (q b d gb gd nbd) (h'.g2 (a-k) (c-k) (by omega) (by omega) (by omega));have e:B' (a-k)*B b*B' (c-k)*B d=(B b*B d)*(B' (a-k)*B' (c-k)):=by grind
      rw[e]; omega
     ·have bd:=Nat.mul_le_mul (h.g2 b d gb gd nbd) (q (a-k) (c-k) (by omega) (by omega) (by omega));have e:B' (a-k)*B b*B' (c-k)*B d=(B b*B d)*(B' (a-k)*B' (c-k)):=by grind
      rw[e]; omega
    ·rw[eF B B' ga]at ea;rw[eI B B' gb]at eb;rw[eF B B' gc]at ec;rw[eF B B' gd]at ed;subst ea eb ec ed;have bd:=Nat.mul_le_mul (h.g1 b gb) (h'.g3 (a-k) (c-k) (d-k) (by omega) (by omega) (by omega) (by omega) (by omega) (by omega));have e:B' (a-k)*B b*B' (c-k)*B' (d-k)=(B b)*(B' (a-k)*B' (c-k)*B' (d-k)):=by grind
     rw[e]; omega
  ·by_cases gc:c<k
   ·by_cases gd:d<k
    ·rw[eF B B' ga]at ea;rw[eF B B' gb]at eb;rw[eI B B' gc]at ec;rw[eI B B' gd]at ed;subst ea eb ec ed;rcases q with q|q
     ·have bd:=Nat.mul_le_mul (q c d gc gd ncd) (h'.g2 (a-k) (b-k) (by omega) (by omega) (by omega));have e:B' (a-k)*B' (b-k)*B c*B d=(B c*B d)*(B' (a-k)*B' (b-k)):=by grind
      rw[e]; omega
     ·have bd:=Nat.mul_le_mul (h.g2 c d gc gd ncd) (q (a-k) (b-k) (by omega) (by omega) (by omega));have e:B' (a-k)*B' (b-k)*B c*B d=(B c*B d)*(B' (a-k)*B' (b-k)):=by grind
      rw[e]; omega
    ·rw[eF B B' ga]at ea;rw[eF B B' gb]at eb;rw[eI B B' gc]at ec;rw[eF B B' gd]at ed;subst ea eb ec ed;have bd:=Nat.mul_le_mul (h.g1 c gc) (h'.g3 (a-k) (b-k) (d-k) (by omega) (by omega) (by omega) (by omega) (by omega) (by omega));have e:B' (a-k)*B' (b-k)*B c*B' (d-k)=(B c)*(B' (a-k)*B' (b-k)*B' (d-k)):=by grind
     rw[e]; omega
   ·by_cases gd:d<k
    ·rw[eF B B' ga]at ea;rw[eF B B' gb]at eb;rw[eF B B' gc]at ec;rw[eI B B' gd]at ed;subst ea eb ec ed;have bd:=Nat.mul_le_mul (h.g1 d gd) (h'.g3 (a-k) (b-k) (c-k) (by omega) (by omega) (by omega) (by omega) (by omega) (by omega));have e:B' (a-k)*B' (b-k)*B' (c-k)*B d=(B d)*(B' (a-k)*B' (b-k)*B' (c-k)):=by grind
     rw[e]; omega
    ·rw[eF B B' ga]at ea;rw[eF B B' gb]at eb;rw[eF B B' gc]at ec;rw[eF B B' gd]at ed;subst ea eb ec ed;have bd:=h'.g4 (a-k) (b-k) (c-k) (d-k) (by omega) (by omega) (by omega) (by omega) (by omega) (by omega) (by omega) (by omega) (by omega) (by omega);have e:B' (a-k)*B' (b-k)*B' (c-k)*B' (d-k)=B' (a-k)*B' (b-k)*B' (c-k)*B' (d-k):=by grind
     rw[e]; omega
end
end Go.Lz
namespace Go.Lz
def W9:Nat->Nat
 | 0=>1
 | 1=>9
 | 2=>162
 | 3=>2916
 | _=>104976
theorem a3C(k r:Nat)(hr:r<=4):aJW k (λ_=>9) (W9 r) r:=by
 rcases(show r=0\/r=1\/r=2\/r=3\/r=4 by omega)with rfl|rfl|rfl|rfl|rfl
 ·show 1<=1; omega
 ·intro a _; show 9<=9; omega
 ·intro a b _ _ _; show 2*(9*9)<=162; omega
 ·intro a b c _ _ _ _ _ _; show 4*(9*9*9)<=2916; omega
 ·intro a b c d _ _ _ _ _ _ _ _ _ _; show 16*(9*9*9*9)<=104976; omega
theorem a8U {d k:Nat} {C F:Nat->V} (mem:∀ j,j<k->Sp d C (F j)) (span:∃ D:Int,D≠0/\∀ v,Sp d C v->Sp k F (λx=>D*v x)) (le:∀ j,j<k->∀ x,(F j x).natAbs<=9):Fam d C k F (λ_=>9) :=
 ⟨mem,span,le,λ_ _=>by omega,λ_ _ _ _ _=>by omega,λ_ _ _ _ _ _ _ _ _=>by omega,λ_ _ _ _ _ _ _ _ _ _ _ _ _ _=>by omega⟩
section
variable {n k d:Nat} {M:Nat->V} {p:Nat->Nat} {D:Int} {w:Nat->V}
open Classical in
/-- The sizes of a kernel's short rows. -/
def kB(d:Nat) (p:Nat->Nat) (x:Nat):Nat:=if ∃ j,j<d/\p j=x then 0 else W9 d
theorem aB5(d:Nat)(p:Nat->Nat)(x:Nat):kB d p x=0\/((∀ j,j<d->p j≠x)/\kB d p x=W9 d):=by
 by_cases h:∃ j,j<d/\p j=x
 ·left; simp only[kB,h,if_true]
 ·right; exact⟨λj hj e=>h ⟨j,hj,e⟩,by simp only[kB,h,if_false]⟩
theorem a8O(hn:n<=4) (hd:d<=3) (h:Dw n k M d p D w (W9 d)) (inc:∀ i j,i<j->j<d->p i<p j) {t:Nat} {K:Nat->V} (hI:kM n k M t K):Fam t K n (kx D w d p) (kB d p)/\(Q2 n (kB d p)\/d=2):=by
 have hle:∀ j,j<n->∀ x,(kx D w d p j x).natAbs<=kB d p j:=λj _ x=>by
  rcases aB5 d p j with g|⟨_,g⟩
  ·have:∃ i,i<d/\p i=j:=Classical.byContradiction λhno=>by
    have:kB d p j=W9 d:=by simp only[kB,hno,if_false]
    rw[this]at g;rcases(show d=0\/d=1\/d=2\/d=3 by omega)with rfl|rfl|rfl|rfl <;> cases g
   obtain⟨i,hi,rfl⟩:=this;rw[h.a0F hi]; simp
  ·rw[g]; exact h.a5N j x
 have hmem:∀ j,j<n->Sp t K (kx D w d p j):=λj hj=>(hI _).2 (h.aUY hj)
 have hspan:∃ D':Int,D'≠0/\∀ v,Sp t K v->Sp n (kx D w d p) (λx=>D'*v x):=⟨D,h.D0,λv hv=>h.a4N ((hI v).1 hv)⟩;have hlt:=h.lt;rcases(show d=0\/d=1\/d=2\/d=3 by omega)with rfl|rfl|rfl|rfl
 ·have e:∀ x,kB 0 p x=1:=λx=>by
   rcases aB5 0 p x with g|⟨_,g⟩
   ·have:¬ ∃ j,j<0/\p j=x:=λ⟨j,hj,_⟩=>by omega
    simp only[kB,this,if_false,W9]at g;cases g
   ·exact g
  refine⟨⟨hmem,hspan,hle,λa _=>?_,λa b _ _ _=>?_,λa b c _ _ _ _ _ _=>?_,λa b c d _ _ _ _ _ _ _ _ _ _=>?_⟩,.inl λa b _ _ _=>?_⟩
  all_goals simp only[e]; omega
 ·have e:∀ x,kB 1 p x<=9:=λx=>by
   rcases aB5 1 p x with g|⟨_,g⟩
   ·omega
   ·rw[g]; exact Nat.le_refl _
  have e2:∀ a b,kB 1 p a*kB 1 p b<=81:=λa b=>Nat.mul_le_mul (e a) (e b)
  have e3:∀ a b c,kB 1 p a*kB 1 p b*kB 1 p c<=729:=λa b c=>Nat.mul_le_mul (e2 a b) (e c)
  exact⟨⟨hmem,hspan,hle,λa _=>by have:=e a; omega,λa b _ _ _=>by have:=e2 a b; omega,λa b c _ _ _ _ _ _=>e3 a b c,λa b c d _ _ _ _ _ _ _ _ _ _=>Nat.mul_le_mul (e3 a b c) (e d)⟩,.inl λa b _ _ _=>e2 a b⟩
 ·have i1:=inc 0 1 (by omega) (by omega);have l1:=hlt 1 (by omega);have e:∀ x,kB 2 p x<=162:=λx=>by
   rcases aB5 2 p x with g|⟨_,g⟩
   ·omega
   ·rw[g]; exact Nat.le_refl _
  have e2:∀ a b,kB 2 p a*kB 2 p b<=26244:=λa b=>Nat.mul_le_mul (e a) (e b)
  have e3:∀ a b c,a<n->b<n->c<n->a≠b->a≠c->b≠c->kB 2 p a*kB 2 p b*kB 2 p c=0:=λa b c h1 h2 h3 n1 n2 n3=>by
   rcases aB5 2 p a with g|⟨q1,_⟩
   ·rw[g]; simp
   rcases aB5 2 p b with g|⟨q2,_⟩
   ·rw[g]; simp
   rcases aB5 2 p c with g|⟨q3,_⟩
   ·rw[g]; simp
   have:=q1 0 (by omega); have:=q1 1 (by omega); have:=q2 0 (by omega); have:=q2 1 (by omega); have:=q3 0 (by omega); have:=q3 1 (by omega);omega
  refine⟨⟨hmem,hspan,hle,λa _=>by have:=e a; omega,λa b _ _ _=>e2 a b,λa b c h1 h2 h3 n1 n2 n3=>by rw[e3 a b c h1 h2 h3 n1 n2 n3]; omega,λa b c d h1 h2 h3 h4 n1 n2 n3 n4 n5 n6=>by rw[e3 a b c h1 h2 h3 n1 n2 n4]; simp⟩,.inr rfl⟩
 ·have i1:=inc 0 1 (by omega) (by omega);have i2:=inc 1 2 (by omega) (by omega);have l1:=hlt 2 (by omega);have e:∀ x,kB 3 p x<=2916:=λx=>by
   rcases aB5 3 p x with g|⟨_,g⟩
   ·omega
   ·rw[g]; exact Nat.le_refl _
  have e2:∀ a b,a<n->b<n->a≠b->kB 3 p a*kB 3 p b=0:=λa b h1 h2 n1=>by
   rcases aB5 3 p a with g|⟨q1,_⟩
   ·rw[g]; simp
   rcases aB5 3 p b with g|⟨q2,_⟩
   ·rw[g]; simp
   have:=q1 0 (by omega); have:=q1 1 (by omega); have:=q1 2 (by omega); have:=q2 0 (by omega); have:=q2 1 (by omega); have:=q2 2 (by omega);omega
  refine⟨⟨hmem,hspan,hle,λa _=>e a,λa b h1 h2 n1=>by rw[e2 a b h1 h2 n1]; omega,λa b c h1 h2 h3 n1 n2 n3=>by rw[e2 a b h1 h2 n1]; simp,λa b c d h1 h2 h3 h4 n1 n2 n3 n4 n5 n6=>by rw[e2 a b h1 h2 n1]; simp⟩,.inl λa b h1 h2 n1=>by rw[e2 a b h1 h2 n1]; omega⟩
end
theorem a0R {k n:Nat} {K F:Nat->V} {p:Nat->Nat} (hK:Hn 2 K p) (mem:∀ j,j<k->Sp 2 K (F j)) (span:∃ D:Int,D≠0/\∀ v,Sp 2 K v->Sp k F (λx=>D*v x)) :
  ∃ a b,a<k/\b<k/\d2 (F a) (F b) (p 0) (p 1)≠0/\∀ y:V,dot n y (F a)=0->dot n y (F b)=0->∀ i,i<2->dot n y (K i)=0:=by
 obtain⟨D,h0,hs⟩:=span;have hc:=hK.chain (k:=k) (M:=F) λj hj=>⟨D,h0,hs _ (Sp.mem hj)⟩
 obtain⟨u,⟨t,ht,hu⟩,z0,n0⟩:=hc 0 (by omega);obtain⟨a,ha,q0⟩:=aBZ ht hu n0;obtain⟨u,⟨t,ht,hu⟩,z1,n1⟩:=hc 1 (by omega);obtain⟨b,hb,q1⟩:=aHS ht hu (z1 0 (by omega)) n1 q0;refine⟨a,b,ha,hb,q1,λy ya yb i hi=>?_⟩;have hz:=hK.zero (v:=λx=>d2 (F a) (F b) (p 0) (p 1)*K i x-((K i (p 0)*F b (p 1)-K i (p 1)*F b (p 0))*F a x+(K i (p 1)*F a (p 0)-K i (p 0)*F a (p 1))*F b x))
  (Sp.sub (Sp.smul _ (Sp.mem hi)) (Sp.sum (Sp.smul _ (mem a ha)) (Sp.smul _ (mem b hb)))) λl hl=>by
   rcases(show l=0\/l=1 by omega)with rfl|rfl
   ·simp only[d2]; grind
   ·simp only[d2]; grind
 have h1:(λx=>d2 (F a) (F b) (p 0) (p 1)*K i x)=λx=>(λx=>(0:Int)+(K i (p 0)*F b (p 1)-K i (p 1)*F b (p 0))*F a x) x+(K i (p 1)*F a (p 0)-K i (p 0)*F a (p 1))*F b x:=by
  funext x
  have:=congrFun hz x;show d2 (F a) (F b) (p 0) (p 1)*K i x=0+_+_;have:d2 (F a) (F b) (p 0) (p 1)*K i x-((K i (p 0)*F b (p 1)-K i (p 1)*F b (p 0))*F a x+(K i (p 1)*F a (p 0)-K i (p 0)*F a (p 1))*F b x)=0:=this;omega
 have h2:dot n (λx=>(0:Int)+d2 (F a) (F b) (p 0) (p 1)*K i x) y=0:=by
  have e:(λx=>(0:Int)+d2 (F a) (F b) (p 0) (p 1)*K i x)=λx=>d2 (F a) (F b) (p 0) (p 1)*K i x:=by funext x; omega
  rw[e,h1,wO,wO (λ_=>0),IB,n7 (F a),n7 (F b),ya,yb];simp
 rw[wO (λ_=>0),IB,Int.zero_add]at h2;rcases Int.mul_eq_zero.1 h2 with g|g
 ·exact absurd g q1
 ·rw[n7]; exact g
def a4P(a b c d:V):Nat->V
 | 0=>a
 | 1=>b
 | 2=>c
 | _=>d
theorem a69(a b:V):dot 4 a b=a 0*b 0+a 1*b 1+a 2*b 2+a 3*b 3:=by
 show 0+a 0*b 0+a 1*b 1+a 2*b 2+a 3*b 3=_;omega
def cof(Q:Nat->V) (i:Nat):V:=λx=>if x<4 then d4 (if i=0 then un x else Q 0) (if i=1 then un x else Q 1) (if i=2 then un x else Q 2) (if i=3 then un x else Q 3) 0 1 2 3 else 0
theorem a4Q(Q:Nat->V)(i j:Nat)(hi:i<4)(hj:j<4)(hne:j≠i):dot 4 (cof Q i) (Q j)=0:=by
 rw[a69];rcases(show i=0\/i=1\/i=2\/i=3 by omega)with rfl|rfl|rfl|rfl <;> rcases(show j=0\/j=1\/j=2\/j=3 by omega)with rfl|rfl|rfl|rfl <;> first|exact absurd rfl hne|(simp[cof,d4,d3,d2,un]; grind)
theorem a3W(Q:Nat->V)(x y:Nat)(hx:x<4)(hy:y<4):Q 0 y*cof Q 0 x+Q 1 y*cof Q 1 x+Q 2 y*cof Q 2 x+Q 3 y*cof Q 3 x=d4 (Q 0) (Q 1) (Q 2) (Q 3) 0 1 2 3*un y x:=by rcases(show x=0\/x=1\/x=2\/x=3 by omega)with rfl|rfl|rfl|rfl <;> rcases(show y=0\/y=1\/y=2\/y=3 by omega)with rfl|rfl|rfl|rfl <;> (simp[cof,d4,d3,d2,un]; grind)
end Go.Lz
namespace Go.Lz
theorem a8L {J:Nat->V} {c:Nat->Nat} (hJ:Hn 4 J c) (hc:c 3<4) {v:V} (h:∀ i,i<4->dot 4 v (J i)=0):∀ x,x<4->v x=0:=by
 have i1:=hJ.inc 0 1 (by omega) (by omega);have i2:=hJ.inc 1 2 (by omega) (by omega);have i3:=hJ.inc 2 3 (by omega) (by omega);have c0:c 0=0:=by omega
 have c1:c 1=1:=by omega
 have c2:c 2=2:=by omega
 have c3:c 3=3:=by omega
 have p0:=hJ.pos 0 (by omega);have p1:=hJ.pos 1 (by omega);have p2:=hJ.pos 2 (by omega);have p3:=hJ.pos 3 (by omega);rw[c0]at p0; rw[c1]at p1; rw[c2]at p2; rw[c3]at p3;have l3:=hJ.low 3 (by omega);have l2:=hJ.low 2 (by omega);have l1:=hJ.low 1 (by omega);have h3:=h 3 (by omega);have h2:=h 2 (by omega);have h1:=h 1 (by omega);have h0:=h 0 (by omega);rw[a69]at h0 h1 h2 h3;have nz:∀ {a b:Int},a*b=0->0<b->a=0:=λh hb=>by
  rcases Int.mul_eq_zero.1 h with g|g
  ·exact g
  ·omega
 rw[l3 0 (by omega),l3 1 (by omega),l3 2 (by omega)]at h3;have v3:v 3=0:=nz (by simpa using h3) p3;rw[l2 0 (by omega),l2 1 (by omega),v3]at h2;have v2:v 2=0:=nz (by simpa using h2) p2;rw[l1 0 (by omega),v2,v3]at h1;have v1:v 1=0:=nz (by simpa using h1) p1;rw[v1,v2,v3]at h0;have v0:v 0=0:=nz (by simpa using h0) p0;intro x hx;rcases(show x=0\/x=1\/x=2\/x=3 by omega)with rfl|rfl|rfl|rfl
 ·exact v0
 ·exact v1
 ·exact v2
 ·exact v3
section
variable {k k' d d':Nat} {K K' F F' C C' J:Nat->V} {p p' c:Nat->Nat}
theorem a8V(hK:Hn 2 K p) (hK':Hn 2 K' p') (wK:∀ i,i<2->∀ x,4<=x->K i x=0) (wK':∀ i,i<2->∀ x,4<=x->K' i x=0)
  (mem:∀ j,j<k->Sp 2 K (F j)) (span:∃ D:Int,D≠0/\∀ v,Sp 2 K v->Sp k F (λx=>D*v x)) (mem':∀ j,j<k'->Sp 2 K' (F' j)) (span':∃ D:Int,D≠0/\∀ v,Sp 2 K' v->Sp k' F' (λx=>D*v x))
  (le:∀ j,j<k->∀ x,(F j x).natAbs<=9) (le':∀ j,j<k'->∀ x,(F' j x).natAbs<=9)
  (hI:kM 4 2 K d C) (hI':kM 4 2 K' d' C') (hJ:Hn 4 J c) (hc:c 3<4) (hs:Same (d+d') (mA d C C') 4 J):Dg 4 J 4 c 104976:=by
 obtain⟨a,b,ha,hb,e1,orth⟩:=a0R (n:=4) hK mem span;obtain⟨a',b',ha',hb',e2,orth'⟩:=a0R (n:=4) hK' mem' span';have wsp:∀ {v},Sp 2 K v->∀ x,4<=x->v x=0:=λhv x hx=>Sp.lM (λj hj=>wK j hj x hx) hv
 have wsp':∀ {v},Sp 2 K' v->∀ x,4<=x->v x=0:=λhv x hx=>Sp.lM (λj hj=>wK' j hj x hx) hv
 have two0:∀ {A B:V} {x y:Nat} {s t:Int},d2 A B x y≠0->(∀ z,s*A z+t*B z=0)->s=0/\t=0:=λ{A B x y s t} h hz=>by
  have h1:=hz x;have h2:=hz y;have g1:s*d2 A B x y=0:=by simp only[d2]; grind
  have g2:t*d2 A B x y=0:=by simp only[d2]; grind
  exact⟨(Int.mul_eq_zero.1 g1).resolve_right h,(Int.mul_eq_zero.1 g2).resolve_right h⟩
 -- the four rows are independent
 have ind:Ind 4 (a4P (F a) (F b) (F' a') (F' b')):=λs hz=>by
  have hz:∀ x,0+s 0*F a x+s 1*F b x+s 2*F' a' x+s 3*F' b' x=0:=hz;have v1:Sp 2 K (λx=>s 0*F a x+s 1*F b x):=Sp.sum (Sp.smul _ (mem a ha)) (Sp.smul _ (mem b hb));have v2:Sp 2 K' (λx=>-(s 2)*F' a' x + -(s 3)*F' b' x):=Sp.sum (Sp.smul _ (mem' a' ha')) (Sp.smul _ (mem' b' hb'));have ev:(λx=>s 0*F a x+s 1*F b x)=λx=>-(s 2)*F' a' x + -(s 3)*F' b' x:=by
   funext x
   have:=hz x;grind
  have h0:∀ x,x<4->(λx=>s 0*F a x+s 1*F b x) x=0:=a8L hJ hc λi hi=>by
   obtain⟨y,z,hy,hz,e⟩:=aC4 ((hs _).2 (Sp.mem hi));have g1:=((hI y).1 hy).span v1;have g2:=((hI' z).1 hz).span v2;rw[<- ev]at g2;have e':J i=λx=>(λx=>0+1*y x) x+1*z x:=by
    rw[e]; funext x;show y x+z x=0+1*y x+1*z x;omega
   rw[n7,e',wO,wO (λ_=>0),IB,g1,g2];rfl
  have h1:∀ x,s 0*F a x+s 1*F b x=0:=λx=>by
   rcases Nat.lt_or_ge x 4 with g|g
   ·exact h0 x g
   ·exact wsp v1 x g
  obtain⟨q0,q1⟩:=two0 e1 h1;have h2:∀ x,-(s 2)*F' a' x + -(s 3)*F' b' x=0:=λx=>by
   have:=congrFun ev x;have:s 0*F a x+s 1*F b x = -(s 2)*F' a' x + -(s 3)*F' b' x:=this;rw[<- this]; exact h1 x
  obtain⟨q2,q3⟩:=two0 e2 h2;intro i hi;rcases(show i=0\/i=1\/i=2\/i=3 by omega)with rfl|rfl|rfl|rfl
  ·exact q0
  ·exact q1
  ·omega
  ·omega
 have wU:∀ i,i<4->∀ x,4<=x->a4P (F a) (F b) (F' a') (F' b') i x=0:=λi hi x hx=>by
  rcases(show i=0\/i=1\/i=2\/i=3 by omega)with rfl|rfl|rfl|rfl
  ·exact wsp (mem a ha) x hx
  ·exact wsp (mem b hb) x hx
  ·exact wsp' (mem' a' ha') x hx
  ·exact wsp' (mem' b' hb') x hx
 have bU:∀ i,i<4->∀ x,(a4P (F a) (F b) (F' a') (F' b') i x).natAbs<=9:=λi hi x=>by
  rcases(show i=0\/i=1\/i=2\/i=3 by omega)with rfl|rfl|rfl|rfl
  ·exact le a ha x
  ·exact le b hb x
  ·exact le' a' ha' x
  ·exact le' b' hb' x
 generalize hU:a4P (F a) (F b) (F' a') (F' b')=U at ind wU bU;have full:∀ v,Sp 4 U v->(∀ l,l<4->v l=0)->v=λ_=>0:=λv hv hz=>by
  funext x
  rcases Nat.lt_or_ge x 4 with g|g
  ·exact hz x g
  ·exact Sp.lM (λj hj=>wU j hj x g) hv
 have ch:∀ i,i<4->∃ u:V,(∃ t:Int,t≠0/\Sp 4 U (λx=>t*u x))/\(∀ l,l<i->u l=0)/\u i≠0:=λi hi=>by
  obtain⟨u,u1,u2,u3⟩:=aT7 (q:=λl=>l) ind full hi;exact⟨u,⟨1,by decide,by simpa using u1⟩,λl hl=>u2 l (by omega) (by omega),u3⟩
 obtain⟨u,⟨t,ht,hu⟩,z0,n0⟩:=ch 0 (by omega);obtain⟨i0,hi0,q0⟩:=aBZ ht hu n0;obtain⟨u,⟨t,ht,hu⟩,z1,n1⟩:=ch 1 (by omega);obtain⟨i1,hi1,q1⟩:=aHS ht hu (z1 0 (by omega)) n1 q0;obtain⟨u,⟨t,ht,hu⟩,z2,n2⟩:=ch 2 (by omega);obtain⟨i2,hi2,q2⟩:=aST ht hu (z2 0 (by omega)) (z2 1 (by omega)) n2 q1;obtain⟨u,⟨t,ht,hu⟩,z3,n3⟩:=ch 3 (by omega);obtain⟨i3,hi3,q3⟩:=a0J ht hu (z3 0 (by omega)) (z3 1 (by omega)) (z3 2 (by omega)) n3 q2
 have r1:i0≠i1:=λe=>q1 (by subst e; simp only[d2]; grind)
 have r2:i0≠i2:=λe=>q2 (by subst e; simp only[d3,d2]; grind)
 have r3:i1≠i2:=λe=>q2 (by subst e; simp only[d3,d2]; grind)
 have r4:i0≠i3:=λe=>q3 (by subst e; simp only[d4,d3,d2]; grind)
 have r5:i1≠i3:=λe=>q3 (by subst e; simp only[d4,d3,d2]; grind)
 have r6:i2≠i3:=λe=>q3 (by subst e; simp only[d4,d3,d2]; grind)
 have ix:∃ f:Nat->Nat,f 0=i0/\f 1=i1/\f 2=i2/\f 3=i3:=⟨λj=>if j=0 then i0 else if j=1 then i1 else if j=2 then i2 else i3,rfl,rfl,rfl,rfl⟩;obtain⟨f,f0,f1,f2,f3⟩:=ix;have hQ:∀ j,j<4->∀ l,l<4->l≠f j->dot 4 (cof (λj=>U (f j)) j) (U l)=0:=λj hj l hl hne=>by
  have:∃ m,m<4/\f m=l:=by
   rcases(show l=i0\/l=i1\/l=i2\/l=i3 by omega)with rfl|rfl|rfl|rfl
   ·exact⟨0,by omega,f0⟩
   ·exact⟨1,by omega,f1⟩
   ·exact⟨2,by omega,f2⟩
   ·exact⟨3,by omega,f3⟩
  obtain⟨m,hm,rfl⟩:=this;exact a4Q (λj=>U (f j)) j m hj hm λe=>hne (by rw[e])
 have hlt:∀ j,j<4->f j<4:=λj hj=>by rcases(show j=0\/j=1\/j=2\/j=3 by omega)with rfl|rfl|rfl|rfl <;> omega
 have hmem:∀ j,j<4->Sp 4 J (cof (λj=>U (f j)) j):=λj hj=>by
  have wide:∀ x,4<=x->cof (λj=>U (f j)) j x=0:=λx hx=>by
   have:¬ x<4:=by omega
   simp only[cof,this,if_false]
  have hf:=hlt j hj;refine(hs _).1 ?_
  by_cases g:f j<2
  ·refine GJ ((hI' _).2 ⟨wide,orth' _ ?_ ?_⟩)
   ·have:=hQ j hj 2 (by omega) (by omega);rw[<- hU]at this ⊢; exact this
   ·have:=hQ j hj 3 (by omega) (by omega);rw[<- hU]at this ⊢; exact this
  ·refine KF ((hI _).2 ⟨wide,orth _ ?_ ?_⟩)
   ·have:=hQ j hj 0 (by omega) (by omega);rw[<- hU]at this ⊢; exact this
   ·have:=hQ j hj 1 (by omega) (by omega);rw[<- hU]at this ⊢; exact this
 have hD:d4 (U (f 0)) (U (f 1)) (U (f 2)) (U (f 3)) 0 1 2 3≠0:=by rw[f0,f1,f2,f3]; exact q3
 have hDW:=d4W (a:=U (f 0)) (b:=U (f 1)) (c:=U (f 2)) (d:=U (f 3)) (bU _ (hlt 0 (by omega))) (bU _ (hlt 1 (by omega))) (bU _ (hlt 2 (by omega))) (bU _ (hlt 3 (by omega))) 0 1 2 3;have hcl:∀ j,j<4->c j<4:=λj hj=>by
  rcases(show j=3\/j<3 by omega)with rfl|g
  ·exact hc
  ·have:=hJ.inc j 3 g (by omega); omega
 refine⟨d4 (U (f 0)) (U (f 1)) (U (f 2)) (U (f 3)) 0 1 2 3,λj x=>d4 (U (f 0)) (U (f 1)) (U (f 2)) (U (f 3)) 0 1 2 3*un (c j) x,hD,λj hj=>⟨?_,?_,λi hi hne=>?_,λx=>?_⟩⟩
 ·have h1:=Sp.sum (Sp.sum (Sp.sum (Sp.smul (U (f 0) (c j)) (hmem 0 (by omega))) (Sp.smul (U (f 1) (c j)) (hmem 1 (by omega)))) (Sp.smul (U (f 2) (c j)) (hmem 2 (by omega)))) (Sp.smul (U (f 3) (c j)) (hmem 3 (by omega)));refine cast (congrArg _ ?_) h1
  funext x
  rcases Nat.lt_or_ge x 4 with g|g
  ·exact a3W (λj=>U (f j)) x (c j) g (hcl j hj)
  ·have e:∀ m,cof (λj=>U (f j)) m x=0:=λm=>by
    have:¬ x<4:=by omega
    simp only[cof,this,if_false]
   have:¬ x=c j:=by have:=hcl j hj; omega
   simp only[e,un,this,if_false];simp
 ·show _*un (c j) (c j)=_;rw[KW,Int.mul_one]
 ·show _*un (c j) (c i)=_;rw[G9,Int.mul_zero];intro e;rcases Nat.lt_trichotomy i j with g|g|g
  ·have:=hJ.inc i j g hj; omega
  ·exact hne g
  ·have:=hJ.inc j i g hi; omega
 ·by_cases e:x=c j
  ·subst e;show (_*un (c j) (c j)).natAbs<=_;rw[KW,Int.mul_one]; omega
  ·show (_*un (c j) x).natAbs<=_;rw[G9 e,Int.mul_zero]; simp
end
end Go.Lz
namespace Go.PM
open Go Go.RowKit Go.Proofs Go.Lz
theorem aVC {ps:List Int} {n:Nat} (hp:pD (ps,())=some (0,())) (hl:ps.length=n) (hn:n<=4) (rows:List (List Int)) (hk:rows.length<=3) (hlen:∀ r∈rows,r.length=n) (hr:∀ r∈rows,∀ a∈r,a.natAbs<=9) :
  ∃ t r S K,(∃ s,Hn t S s)/\(∃ p,Hn r K p)/\Wd t n S/\Wd r n K/\kM n rows.length (J3 rows) r K/\kM n r K t S/\Wd rows.length n (J3 rows)/\Big rows.length n (J3 rows) 9/\Big t n S 1000000000/\Big r n K 1000000000 /\
   ∀ vals:Bool,pR (ps,rows,vals,())=some ((ps,bif vals then (Mr r n K,Mr t n S) else (Mr t n S,Mr r n K)),0,()):=by
 have hrow:∀ i,i<rows.length->∃ r,r∈rows/\J3 rows i=vG r:=λi hi=>⟨rows[i],List.getElem_mem hi,by unfold J3; simp[List.getD,hi]⟩
 have hw:Wd rows.length n (J3 rows):=λi hi x hx=>by
  obtain⟨r,hr1,hr2⟩:=hrow i hi;rw[hr2]; unfold vG;have:=hlen r hr1;simp[List.getD,List.getElem?_eq_none (show r.length<=x by omega)]
 have hB:Big rows.length n (J3 rows) 10:=λi hi x hx=>by
  obtain⟨r,hr1,hr2⟩:=hrow i hi;rw[hr2]; unfold vG;have hl:=hlen r hr1;have:r.getD x 0=r[x]'(by omega):=by simp[List.getD,show x<r.length by omega]
  rw[this];exact Nat.le_succ_of_le (hr r hr1 _ (List.getElem_mem _))
 have b10:4*(24*(10*10*10*10))<=1000000000:=by decide
 obtain⟨d,M,q,g1,g2,g3,g4,g5,g6⟩:=of_eq rows (n:=n) (by omega) (by omega) hlen (E:=λd=>10^dg 1 d) (T:=λd=>10^(5*dg 1 d+1)) (λr h a ha=>Nat.le_succ_of_le (hr r h a ha)) (show 10^dg 1 0<=1000000000 by decide) (aQH (.inl (by omega)) (by decide)) λd H p hd hH hs hwd i hi x hx=>by
  have hdg:=(aP9 (k:=rows.length) (M:=J3 rows) (E:=10) (by omega) hH (λj hj=>⟨1,by decide,by
   have:=(hs _).2 (Sp.mem hj);refine cast (congrArg _ ?_) this
   funext x; simp⟩) (hB.all hw)).mono λv=>(hs v).1
  exact Nat.le_trans (Nat.le_trans (Hn.aFK hH hdg i hi x) (Nat.mul_le_mul (by omega) (aVT (by decide) (by omega)))) b10
 have hd:=(Hn.kG g3 g5).1;obtain⟨m,A,a1,a2⟩:=aCR (by omega) (by omega) g5 g6;obtain⟨m',A',J',K,p,r,k1,k2,k3,k4,k5,k6,k7⟩:=aDT (by omega) hn g5 (by rw[<- p9]; exact g6) a2;obtain⟨m2,A2,J2,S,s,t,c1,c2,c3,c4,c5,c6,c7⟩:=aK5 (by omega) hn k6 k7 k2;have hI:kM n rows.length (J3 rows) r K:=k5.of_same g4.symm;have bK:Big r n K 1000000000:=λi hi x hx=>Nat.le_trans (U7 (E:=10) (D:=1) hn (by omega) hw hB (by decide) (by decide) (by decide) k4 hI i hi x) b10
 have bS:Big t n S 1000000000:=λi hi x hx=>Nat.le_trans (aZY (E:=10) (D:=1) (by omega) hn hw hB (by decide) (by decide) (by decide) hI c4 c5 i hi x) b10
 have s1:=Z2 g3 hn g5 g6 k5 c4 c5 bS;have s2:=QE g3 hn g5 g6 k4 k5 bK;have back:=kM.back g5 k5 c5;have e0:eqI 0 0=true:=by decide
 have e1:((ps.length:Nat):Int)=(n:Int):=by rw[hl]
 have g1':DY ((n:Int),rows,())=some (((n:Int),Mr d n M),0,()):=g1;have hB9:Big rows.length n (J3 rows) 9:=λi hi x hx=>by
  obtain⟨r,hr1,hr2⟩:=hrow i hi;rw[hr2]; unfold vG;have hl:=hlen r hr1;have:r.getD x 0=r[x]'(by omega):=by simp[List.getD,show x<r.length by omega]
  rw[this];exact hr r hr1 _ (List.getElem_mem _)
 refine⟨t,r,S,K,⟨s,c4⟩,⟨p,k4⟩,c6,k6,hI,c5,hw,hB9,bS,bK,λvals=>?_⟩;cases vals with
 | false=>simp only[pR,hp,aE,e0,Bool.not_true,oD,e1,g1',s1,s2]
 | true=>simp only[pR,hp,aE,e0,Bool.not_true,oD,oC,e1,g1',s1,s2]
theorem a6A {n d E:Nat} {C:Nat->V} {q:Nat->Nat} (hH:Hn d C q) (hw:Wd d n C) (hn:n<=4) (hE:Big d n C E):∃ D w W,Dw n d C d q D w W:=by
 obtain⟨d4,hlt⟩:=Hn.kG hH hw;have hP:∀ r,r<=4->∃ W,aJW d (λ_=>E) W r:=λr hr=>by
  rcases(show r=0\/r=1\/r=2\/r=3\/r=4 by omega)with rfl|rfl|rfl|rfl|rfl
  ·exact⟨1,Nat.le_refl 1⟩
  ·exact⟨E,λ_ _=>Nat.le_refl _⟩
  ·exact⟨2*(E*E),λ_ _ _ _ _=>Nat.le_refl _⟩
  ·exact⟨4*(E*E*E),λ_ _ _ _ _ _ _ _ _=>Nat.le_refl _⟩
  ·exact⟨16*(E*E*E*E),λ_ _ _ _ _ _ _ _ _ _ _ _ _ _=>Nat.le_refl _⟩
 obtain⟨W,hW⟩:=hP d (by omega);obtain⟨D,w,h⟩:=Dw.of (n:=n) (XG (k:=d) (M:=C) (p:=q) (by omega) (hH.chain λj hj=>⟨1,by decide,by simpa using Sp.mem hj⟩) (hE.all hw) hW) hlt hw λv hv hz=>hH.zero hv hz
 exact⟨D,w,W,h⟩
theorem aR2 {n d r E:Nat} {C K:Nat->V} {q p:Nat->Nat} (hH:Hn d C q) (hw:Wd d n C) (hn:n<=4) (hE:Big d n C E) (hK:Hn r K p) (hI:kM n d C r K):r+d=n:=by
 obtain⟨D,w,W,h⟩:=a6A hH hw hn hE;exact h.aF1 hK.ind hI
structure RS (ps:List Int) (n d r:Nat) (C K:Nat->V):Prop extends RT ps n d r C K where
 c8:Big d n C 8748
 k8:Big r n K 8748
 fc:∃ k F B,k<=4/\Fam d C k F B/\(Q2 k B\/(r=2/\∃ k' F',(∀ j,j<k'->Sp r K (F' j))/\(∃ D:Int,D≠0/\∀ v,Sp r K v->Sp k' F' (λx=>D*v x))/\∀ j,j<k'->∀ x,(F' j x).natAbs<=9))
 fk:∃ k F B,k<=4/\Fam r K k F B
theorem a7L(t:Nat)(h:t<=3):t*W9 t<=8748:=by rcases(show t=0\/t=1\/t=2\/t=3 by omega)with rfl|rfl|rfl|rfl <;> decide
theorem a8H(n d r:Nat)(hn:n<=4)(h:r+d=n)(hd:d<=3):r*W9 d<=8748:=by
 have hr:r<=4-d:=by omega
 refine Nat.le_trans (Nat.mul_le_mul_right _ hr) ?_;rcases(show d=0\/d=1\/d=2\/d=3 by omega)with rfl|rfl|rfl|rfl <;> decide
theorem a11 {ps:List Int} {n:Nat} (hp:pD (ps,())=some (0,())) (hl:ps.length=n) (hn:n<=4) (rows:List (List Int)) (hk:rows.length<=3) (hlen:∀ r∈rows,r.length=n) (hr:∀ r∈rows,∀ a∈r,a.natAbs<=9) (vals:Bool) :
  ∃ d r C K,pR (ps,rows,vals,())=some ((ps,(Mr d n C,Mr r n K)),0,())/\RS ps n d r C K:=by
 obtain⟨t,r,S,K,⟨s,hS⟩,⟨p,hK⟩,wS,wK,hI,hI2,wR,bR,bS,bK,hb⟩:=aVC hp hl hn rows hk hlen hr;generalize hk':rows.length=k at *;generalize J3 rows=R at *;obtain⟨d,H,c,g1,hH,hs,wH⟩:=PG (k:=k) (n:=n) (M:=R) (.inl (by omega)) (by omega) (by omega) wR (D:=1) (λi hi x hx=>Nat.le_succ_of_le (bR i hi x hx)) (by decide);have hlt:=(Hn.kG hH wH).2;have hall:=bR.all wR;have d3:d<=3:=by omega
 have span1:∀ j,j<d->∃ t:Int,t≠0/\Sp k R (λi=>t*H j i):=λj hj=>⟨1,by decide,by
  have:=(hs _).2 (Sp.mem hj);simpa using this⟩
 have hcr:=XG (k:=k) (M:=R) (p:=c) (W:=W9 d) (B:=λ_=>9) (by omega) (hH.chain span1) hall (a3C k d (by omega));obtain⟨D,w,hw⟩:=Dw.of (n:=n) hcr hlt wR λv hv hz=>hH.zero ((hs v).1 hv) hz
 have hrd:=hw.aF1 hK.ind hI;obtain⟨D0,hD0,hsp⟩:=aKP wR hH hs hlt (aR0 hcr) hI hI2;have hmem:∀ j,j<k->Sp t S (R j):=λj hj=>(hI2 _).2 ⟨wR j hj,λx hx=>by
  rw[n7];exact((hI _).1 (Sp.mem hx)).2 j hj⟩
 have td:t<=d:=hS.ind.aF1 (M:=H) λi hi=>⟨D0,hD0,(hs _).1 (hsp _ (Sp.mem hi))⟩
 have dt:d<=t:=hH.ind.aF1 (M:=S) λi hi=>⟨1,by decide,by
  have:=Sp.trans hmem ((hs _).2 (Sp.mem hi));simpa using this⟩
 have s8:Big t n S 8748:=λi hi x _=>by
  have:=Hn.aFK hS ((aR0 (XG (k:=k) (M:=R) (p:=s) (W:=W9 t) (B:=λ_=>9) (by omega) (hS.chain λj hj=>⟨D0,hD0,hsp _ (Sp.mem hj)⟩) hall (a3C k t (by omega)))).mono λv hv=>Sp.trans hmem hv) i hi x;exact Nat.le_trans this (a7L t (by omega))
 have k8:Big r n K 8748:=λi hi x _=>Nat.le_trans (a2Z hn hw hH hs hall (a3C k d (by omega)) hK hI i hi x) (a8H n d r hn hrd d3)
 have famS:Fam t S k R (λ_=>9):=a8U hmem ⟨D0,hD0,hsp⟩ hall;obtain⟨famK',hq⟩:=a8O hn d3 hw hH.inc hI;have back:=kM.back wR hI hI2;cases vals with
 | false =>
  refine⟨t,r,S,K,hb false,⟨⟨hp,hl,hn,⟨s,hS⟩,⟨p,hK⟩,wS,wK,bS,bK,back,hI2⟩,s8,k8,⟨k,R,λ_=>9,by omega,famS,.inl λ_ _ _ _ _=>(by show 9*9<=81; decide)⟩,⟨n,_,_,hn,famK'⟩⟩⟩
 | true =>
  refine⟨r,t,K,S,hb true,⟨⟨hp,hl,hn,⟨p,hK⟩,⟨s,hS⟩,wK,wS,bK,bS,hI2,back⟩,k8,s8,⟨n,_,_,hn,famK',?_⟩,⟨k,R,λ_=>9,by omega,famS⟩⟩⟩;rcases hq with hq|hq
  ·exact .inl hq
  ·exact .inr ⟨by omega,k,R,hmem,⟨D0,hD0,hsp⟩,hall⟩
theorem aXV(v:Int) (h0:0<=v) (h1:v<256) (rows:List (Int×Int×Int×Int)) (hk:rows.length<=3) (hr:∀ t∈rows,I8 t) (vals:Bool) :
  ∃ d r C K,nR ((v,(rows,vals)),())=some ((L12.getD (v%10).toNat [],(Mr d (L12.getD (v%10).toNat []).length C,Mr r (L12.getD (v%10).toNat []).length K)),())/\RS (L12.getD (v%10).toNat []) (L12.getD (v%10).toNat []).length d r C K:=by
 obtain⟨hp,hl⟩:=a6W (v%10).toNat (by omega);have hP:=aYN v h0 h1;generalize L12.getD (v%10).toNat []=ps at hp hl hP ⊢;have key:=aV (step:=r8) (N:=2^64) (λs=>((v,(rows,vals)),([],([],[])),ps,(rows.take s).map (λt=>(List.range ps.length).map (λi=>(tV t i).tmod 10)),(s:Int),())) rows.length
  ((v,(rows,vals)),([],([],[])),ps,rows.map (λt=>(List.range ps.length).map (λi=>(tV t i).tmod 10)),()) (by omega) (λs hs=>?_) ?_
 ·have key:yT ((v,(rows,vals)),([],([],[])),ps,[],0,())=_:=key;obtain⟨d,r,C,K,b1,b2⟩:=a11 hp rfl hl (rows.map (λt=>(List.range ps.length).map (λi=>(tV t i).tmod 10))) (by rw[List.length_map]; omega) (λr hr=>by
   obtain⟨t,_,rfl⟩:=List.mem_map.1 hr;simp) (λr hr a ha=>by
   obtain⟨t,_,rfl⟩:=List.mem_map.1 hr;obtain⟨i,_,rfl⟩:=List.mem_map.1 ha;rw[Int.natAbs_tmod];have:=Nat.mod_lt (tV t i).natAbs (show 0<(10:Int).natAbs by decide);have e:(10:Int).natAbs=10:=rfl;omega) vals
  refine⟨d,r,C,K,?_,b2⟩;simp only[nR,hP,aE,key,b1]
 ·have e1:ltI (s:Int) (rows.length:Int)=true:=by rw[aD]; exact oT (by omega)
  have e2:ltI (s:Int) 3=true:=by rw[aD]; exact oT (by omega)
  have e3:=cC s (by omega);have e4:aF (s:Int) rows.length=true:=by rw[aM]; exact oT (by omega)
  have e5:((s:Nat):Int).toNat=s:=oN _;have e6:rows.getD s (0,0,0,0)=rows[s]:=by simp[List.getD,hs]
  have e7:=aTW ps hl rows[s] (hr _ (List.getElem_mem hs));have e8:∀ x:List Int,Nat.ble [x].length 1048576=true:=λ_=>rfl
  have e9:Nat.ble ((rows.take s).map (λt=>(List.range ps.length).map (λi=>(tV t i).tmod 10))).length 1048576=true:=by rw[dM,List.length_map,List.length_take]; exact oT (by omega)
  have e10:(rows.take (s+1)).map (λt=>(List.range ps.length).map (λi=>(tV t i).tmod 10))=(rows.take s).map (λt=>(List.range ps.length).map (λi=>(tV t i).tmod 10))++[(List.range ps.length).map (λi=>(tV rows[s] i).tmod 10)]:=by rw[List.take_succ_eq_append_getElem hs,List.map_append]; rfl
  simp only[r8,e1,e2,oC,e4,e5,e6,e7,aE,e8,e9,e3,e10]
 ·have e1:ltI (rows.length:Int) (rows.length:Int)=false:=by rw[aD]; exact oF (by omega)
  simp only[r8,e1,oD,List.take_length]
theorem a1F(k E r:Nat)(hr:r<=4):∃ W,aJW k (λ_=>E) W r:=by
 rcases(show r=0\/r=1\/r=2\/r=3\/r=4 by omega)with rfl|rfl|rfl|rfl|rfl
 ·exact⟨1,Nat.le_refl 1⟩
 ·exact⟨E,λ_ _=>Nat.le_refl _⟩
 ·exact⟨2*(E*E),λ_ _ _ _ _=>Nat.le_refl _⟩
 ·exact⟨4*(E*E*E),λ_ _ _ _ _ _ _ _ _=>Nat.le_refl _⟩
 ·exact⟨16*(E*E*E*E),λ_ _ _ _ _ _ _ _ _ _ _ _ _ _=>Nat.le_refl _⟩
theorem a7R(t:Nat)(h:t<=3):t*WW t<=1000000000:=by rcases(show t=0\/t=1\/t=2\/t=3 by omega)with rfl|rfl|rfl|rfl <;> decide
theorem a8E(n d z:Nat)(hn:n<=4)(h:z+d=n)(hd:d<=3):z*WW d<=1000000000:=by
 have hr:z<=4-d:=by omega
 refine Nat.le_trans (Nat.mul_le_mul_right _ hr) ?_;rcases(show d=0\/d=1\/d=2\/d=3 by omega)with rfl|rfl|rfl|rfl <;> decide
section
variable {n d d' k k':Nat} {X Y F F':Nat->V} {B B':Nat->Nat}
theorem _root_.Go.Lz.Fam.pick (h:Fam d X k F B)(h':Fam d' Y k' F' B'){r:Nat}(hr:r<=3):aJW (k+k') (apB k B B') (WW r) r:=by
 rcases(show r=0\/r=1\/r=2\/r=3 by omega)with rfl|rfl|rfl|rfl
 ·exact Nat.le_refl 1
 ·exact h.a7M h'
 ·exact h.a7E h'
 ·exact h.a7T h'
theorem _root_.Go.Lz.Fam.aXF (h:Fam d X k F B)(h':Fam d' Y k' F' B'):∀ j,j<k+k'->Sp (d+d') (mA d X Y) (mA k F F' j):=λj hj=>by
 by_cases g:j<k
 ·rw[GA F F' g]; exact KF (h.mem j g)
 ·have e:mA k F F' j=F' (j-k):=by simp[mA,g]
  rw[e]; exact GJ (h'.mem _ (by omega))
theorem _root_.Go.Lz.Fam.aRW (h:Fam d X k F B)(h':Fam d' Y k' F' B'):∃ D:Int,D≠0/\∀ v,Sp (d+d') (mA d X Y) v->Sp (k+k') (mA k F F') (λx=>D*v x):=by
 obtain⟨D,h0,h1⟩:=h.span;obtain⟨D',h0',h1'⟩:=h'.span;refine⟨D*D',Int.mul_ne_zero h0 h0',λv hv=>?_⟩;obtain⟨a,b,ha,hb,rfl⟩:=aC4 hv;have g1:=KF (k':=k') (M':=F') (Sp.smul D' (h1 a ha));have g2:=GJ (k:=k) (M:=F) (Sp.smul D (h1' b hb));refine cast (congrArg _ ?_) (Sp.sum g1 g2)
 funext x
 show D'*(D*a x)+D*(D'*b x)=D*D'*(a x+b x);grind
theorem Wd.mA (wX:Wd d n X)(wY:Wd d' n Y):Wd (d+d') n (Lz.mA d X Y):=λi hi x hx=>by
 by_cases g:i<d
 ·rw[GA X Y g]; exact wX i g x hx
 ·have e:Lz.mA d X Y i=Y (i-d):=by simp[Lz.mA,g]
  rw[e]; exact wY _ (by omega) x hx
theorem Big.mA {E:Nat}(wX:Big d n X E)(wY:Big d' n Y E):Big (d+d') n (Lz.mA d X Y) E:=λi hi x hx=>by
 by_cases g:i<d
 ·rw[GA X Y g]; exact wX i g x hx
 ·have e:Lz.mA d X Y i=Y (i-d):=by simp[Lz.mA,g]
  rw[e]; exact wY _ (by omega) x hx
theorem a4A {m k:Nat} {A F:Nat->V} (mem:∀ j,j<k->Sp m A (F j)) (span:∃ D:Int,D≠0/\∀ v,Sp m A v->Sp k F (λx=>D*v x)) (y:V):Ker n m A y↔Ker n k F y:=by
 constructor
 ·intro g;exact⟨g.1,λj hj=>g.span (mem j hj)⟩
 ·intro g;obtain⟨D,h0,h1⟩:=span;refine⟨g.1,λi hi=>?_⟩;have:=g.span (h1 _ (Sp.mem hi));rw[n7]at this;have e:(λx=>D*A i x)=λx=>(λ_=>(0:Int)) x+D*A i x:=by funext x; show D*A i x=0+D*A i x; omega
  rw[e,wO,IB,Int.zero_add,n7]at this;exact(Int.mul_eq_zero.1 this).resolve_left h0
theorem a29 {z t:Nat} {Z S:Nat->V} {s:Nat->Nat} (hn:n<=4) (hz:z=0) (hS:Hn t S s) (hI2:kM n z Z t S):Big t n S 4:=λi hi x _=>by
 have hwS:Wd t n S:=λi hi x hx=>hI2.width hi x hx
 obtain⟨t4,hlt⟩:=Hn.kG hS hwS;have hd:Dg t S t s 1:=⟨1,λj=>un (s j),by decide,λj hj=>⟨(hI2 _).2 ⟨λc hc=>G9 (by have:=hlt j hj; omega),λx hx=>by omega⟩,KW _,λl hl hne=>G9 λe=>hne (by
  rcases Nat.lt_trichotomy l j with g|g|g
  ·have:=hS.inc l j g hj; omega
  ·exact g
  ·have:=hS.inc j l g hl; omega),λx=>by by_cases e:x=s j <;> simp[un,e]⟩⟩
 have:=Hn.aFK hS hd i hi x;omega
theorem aTT(hn:n<=4) (hk:k<=4) (hk':k'<=4) (h:Fam d X k F B) (h':Fam d' Y k' F' B') (wX:Wd d n X) (wY:Wd d' n Y)
  {z t:Nat} {Z S:Nat->V} {c s:Nat->Nat} (hZ:Hn z Z c) (hI:kM n (d+d') (mA d X Y) z Z) (hS:Hn t S s) (hI2:kM n z Z t S) :
  Big z n Z 1000000000/\Big t n S 1000000000/\z+t=n/\∃ D:Int,D≠0/\∀ v,Sp t S v->Sp (d+d') (mA d X Y) (λx=>D*v x):=by
 have hle:=h.aX5 h';have hmem:=h.aXF h';have hspan:=h.aRW h';have wXY:=wX.mA wY;have wF:∀ i,i<k+k'->∀ x,n<=x->mA k F F' i x=0:=λi hi x hx=>Sp.lM (λj hj=>wXY j hj x hx) (hmem i hi)
 have b29:∀ i,i<k+k'->∀ x,(mA k F F' i x).natAbs<=2916:=λi hi x=>by
  by_cases g:i<k
  ·rw[GA F F' g]; exact Nat.le_trans (h.le i g x) (h.g1 i g)
  ·have e:mA k F F' i=F' (i-k):=by simp[mA,g]
   rw[e]; exact Nat.le_trans (h'.le _ (by omega) x) (h'.g1 _ (by omega))
 obtain⟨f,H,p,g1,hH,hs,wH⟩:=PG (k:=k+k') (n:=n) (M:=mA k F F') (.inr hn) (by omega) (by omega) wF (D:=4) (λi hi x hx=>Nat.le_trans (b29 i hi x) (by decide)) (by decide);obtain⟨f4,hlt⟩:=Hn.kG hH wH;have span1:∀ j,j<f->∃ t:Int,t≠0/\Sp (k+k') (mA k F F') (λi=>t*H j i):=λj hj=>⟨1,by decide,by
  have:=(hs _).2 (Sp.mem hj);simpa using this⟩
 obtain⟨W0,hW0⟩:=a1F (k+k') 2916 f (by omega);have hcr:=XG (p:=p) (by omega) (hH.chain span1) b29 hW0;obtain⟨D,w,hw⟩:=Dw.of (n:=n) hcr hlt wF λv hv hz=>hH.zero ((hs v).1 hv) hz
 have hIF:kM n (k+k') (mA k F F') z Z:=λy=>(hI y).trans (a4A hmem hspan y)
 have hr:=hw.aF1 hZ.ind hIF;obtain⟨D0,hD0,hsp⟩:=aKP wF hH hs hlt (aR0 hcr) hIF hI2;have tf:t<=f:=hS.ind.aF1 (M:=H) λi hi=>⟨D0,hD0,(hs _).1 (hsp _ (Sp.mem hi))⟩
 have hmemS:∀ v,Sp (k+k') (mA k F F') v->Sp t S v:=λv hv=>(hI2 _).2 ⟨λx hx=>Sp.lM (λj hj=>wF j hj x hx) hv,λx hx=>by
  rw[n7];exact((hIF _).1 (Sp.mem hx)).span hv⟩
 have ft:f<=t:=hH.ind.aF1 (M:=S) λi hi=>⟨1,by decide,by
  have:=hmemS _ ((hs _).2 (Sp.mem hi));simpa using this⟩
 refine⟨λi hi x _=>?_,?_,by omega,D0,hD0,λv hv=>Sp.trans hmem (hsp v hv)⟩
 ·have f3:f<=3:=by omega
  exact Nat.le_trans (a2Z hn hw hH hs hle (h.pick h' f3) hZ hIF i hi x) (a8E n f z hn hr f3)
 ·by_cases t3:t<=3
  ·intro i hi x _;have:=Hn.aFK hS ((aR0 (XG (p:=s) (by omega) (hS.chain λj hj=>⟨D0,hD0,hsp _ (Sp.mem hj)⟩) hle (h.pick h' t3))).mono hmemS) i hi x;exact Nat.le_trans this (a7R t t3)
  ·intro i hi x hx;exact Nat.le_trans (a29 hn (show z=0 by omega) hS hI2 i hi x hx) (by decide)
theorem a35 {ps:List Int} {r r':Nat} {C K C' K':Nat->V} (h:RS ps n d r C K) (h':RS ps n d' r' C' K') {s:Nat} {J:Nat->V} {c:Nat->Nat} (hJ:Hn s J c) (hs:Same (d+d') (mA d C C') s J):Big s n J 1000000000:=by
 obtain⟨k,F,B,hk,fm,q⟩:=h.fc;obtain⟨k',F',B',hk',fm',q'⟩:=h'.fc;have hn:=h.n4;have wXY:=h.wc.mA h'.wc;have wJ:Wd s n J:=λi hi x hx=>Sp.lM (λj hj=>wXY j hj x hx) ((hs _).2 (Sp.mem hi))
 obtain⟨s4,hlt⟩:=Hn.kG hJ wJ;obtain⟨D,h0,hsp⟩:=fm.aRW fm';have hmem:=fm.aXF fm';have hch:=hJ.chain (k:=k+k') (M:=mA k F F') λj hj=>⟨D,h0,hsp _ ((hs _).2 (Sp.mem hj))⟩
 have main:∀ {W},aJW (k+k') (apB k B B') W s->∀ i,i<s->∀ x,(J i x).natAbs<=s*W:=λhW =>
  Hn.aFK hJ ((aR0 (XG (p:=c) (by omega) hch (fm.aX5 fm') hW)).mono λv hv=>(hs v).1 (Sp.trans hmem hv))
 by_cases s3:s<=3
 ·exact λi hi x _=>Nat.le_trans (main (fm.pick fm' s3) i hi x) (a7R s s3)
 ·have e4:s=4:=by omega
  subst e4;have n4:n=4:=by omega
  subst n4;have fin:(Q2 k B\/Q2 k' B')->Big 4 4 J 1000000000:=λhq i hi x _=>Nat.le_trans (main (fm.a8I fm' hq) i hi x) (by decide)
  rcases q with q|⟨e2,kf,Ff,m1,m2,m3⟩
  ·exact fin (.inl q)
  rcases q' with q'|⟨e2',kf',Ff',m1',m2',m3'⟩
  ·exact fin (.inr q')
  subst e2; subst e2';obtain⟨p,hp⟩:=h.hk;obtain⟨p',hp'⟩:=h'.hk;have hd:=a8V hp hp' h.wk h'.wk m1 m2 m1' m2' m3 m3' h.ker2 h'.ker2 hJ (hlt 3 (by omega)) hs;exact λi hi x _=>Nat.le_trans (Hn.aFK hJ hd i hi x) (by decide)
end
theorem aKO {d n:Nat} {M:Nat->V} (A:List (List ByteArray)) (hd:d<=12) (hn:n<=12) (hM:Big d n M 1000000000) :
  cN () (Mr d n M,()) A=some ((List.range d).map (λi=>(A.length+i,0,n)),A++(List.range d).map (λi=>Zr n (M i))):=by
 have key:=aV (step:=dJ) (N:=2^64)
  (λt=>((List.range t).map (λi=>(A.length+i,0,n)),Mr d n M,(d:Int),(t:Int),A++(List.range t).map (λi=>Zr n (M i)),())) d ((List.range d).map (λi=>(A.length+i,0,n)),A++(List.range d).map (λi=>Zr n (M i)),()) (by omega) (λt ht=>?_) ?_
 ·have e0:A++(List.range 0).map (λi=>Zr n (M i))=A:=by simp
  have key:mU ([],Mr d n M,(d:Int),0,A++(List.range 0).map (λi=>Zr n (M i)),())=_:=key;rw[e0]at key;simp only[cN,eJ,key,aE]
 ·have e1:ltI (t:Int) (d:Int)=true:=by rw[aD]; exact oT (by omega)
  have e2:aF (t:Int) d=true:=by rw[aM]; exact oT (by omega)
  have e3:((t:Nat):Int).toNat=t:=oN _;have e5:=aGG (Vr n (M t)) (by rw[vU]; omega) λa ha=>by have:=aHE (λx hx=>hM t ht x hx) a ha; omega
  have e6:(A++(List.range t).map (λi=>Zr n (M i))).length=A.length+t:=by simp
  have e7:Nat.ble [(A.length+t,0,n)].length 1048576=true:=rfl;have e8:Nat.ble ((List.range t).map (λi=>(A.length+i,0,n))).length 1048576=true:=by rw[dM,List.length_map,List.length_range]; exact oT (by omega)
  have e9:=cC t (by omega);have e10:(Zr n (M t)).length=n:=mQ _ _;have e11:(A++(List.range t).map (λi=>Zr n (M i)))++[Zr n (M t)]=A++(List.range (t+1)).map (λi=>Zr n (M i)):=by rw[List.range_succ,List.map_append,List.append_assoc]; rfl
  have e12:(List.range t).map (λi=>(A.length+i,0,n))++[(A.length+t,0,n)]=(List.range (t+1)).map (λi=>(A.length+i,0,n)):=by rw[List.range_succ,List.map_append]; rfl
  rw[aF4]at e5;simp only[dJ,e1,eJ,e2,e3,Z8 M ht,e5,aE,e6,e7,e8,e9,e10,e11,e12,oC]
 ·have e1:ltI (d:Int) (d:Int)=false:=by rw[aD]; exact oF (by omega)
  simp only[dJ,e1,oD]
section
variable {d n d':Nat} {A B:Nat->V} {p q:Nat->Nat}
theorem aFL(hA:Hn d A p)(hB:Hn d' B q)(hn:n<=12)(wA:Wd d n A)(wB:Wd d' n B)(bA:Big d n A 1000000000)(bB:Big d' n B 1000000000):qQ (((n:Int),Mr d n A),((n:Int),Mr d' n B),())=some (0,()):=by
 have hd:=(Hn.kG hA wA).1;have hd':=(Hn.kG hB wB).1;have c1:=ZT hA wA (by omega) hn bA;have c2:=ZT hB wB (by omega) hn bB;have e0:eqI 0 0=true:=by decide
 have en:eqI (n:Int) (n:Int)=true:=by rw[iL]; exact oT rfl
 have key:=aV (step:=oH) (N:=2^64) (λt=>(((n:Int),Mr d n A),((n:Int),Mr d' n B),[((n:Int),Mr d n A),((n:Int),Mr d' n B)],2,(t:Int),())) 2 (.inr (((n:Int),Mr d n A),((n:Int),Mr d' n B),())) (by omega) (λt ht=>?_) ?_
 ·have key:yX (((n:Int),Mr d n A),((n:Int),Mr d' n B),[((n:Int),Mr d n A),((n:Int),Mr d' n B)],([((n:Int),Mr d n A),((n:Int),Mr d' n B)].length:Int),0,())=_:=key;simp only[qQ,key,aE,mP,en,Bool.not_true,oD]
 ·have e1:ltI (t:Int) 2=true:=by rw[aD]; exact oT (by omega)
  have e3:=cC t (by omega);rcases(show t=0\/t=1 by omega)with rfl|rfl
  ·have e2:aF ((0:Nat):Int) 2=true:=by decide
   simp only[oH,e1,oC,e3];show (bif aF ((0:Nat):Int) 2 then aC (mY (((n:Int),Mr d n A),())) _ else none)=_;simp only[e2,oC,c1,aE,e0,Bool.not_true,oD]
  ·have e2:aF ((1:Nat):Int) 2=true:=by decide
   simp only[oH,e1,oC,e3];show (bif aF ((1:Nat):Int) 2 then aC (mY (((n:Int),Mr d' n B),())) _ else none)=_;simp only[e2,oC,c2,aE,e0,Bool.not_true,oD]
 ·have e1:ltI ((2:Nat):Int) 2=false:=by decide
  simp only[oH,e1,oD]
theorem a6Z(hA:Hn d A p) (hB:Hn d' B q) (hn:n<=4) (wA:Wd d n A) (wB:Wd d' n B) (bA:Big d n A 1000000000) (bB:Big d' n B 1000000000) {s:Nat} {J:Nat->V} {c:Nat->Nat} (hJ:Hn s J c) (hs:Same (d+d') (mA d A B) s J) (bJ:Big s n J 1000000000) :
  I5 (((n:Int),Mr d n A),((n:Int),Mr d' n B),())=some (((n:Int),Mr s n J),0,()):=by
 have hd:=(Hn.kG hA wA).1;have hd':=(Hn.kG hB wB).1;have cb:=aFL hA hB (by omega) wA wB bA bB;have e0:eqI 0 0=true:=by decide
 have l1:=aKO (d:=d) (n:=n) (M:=A) [] (by omega) (by omega) bA;have l2:=aKO (d:=d') (n:=n) (M:=B) ([]++(List.range d).map (λi=>Zr n (A i))) (by omega) (by omega) bB;have e1:([]++(List.range d).map (λi=>Zr n (A i))).length=d:=by simp
 have hL:lT 0 (d+d') n ((List.range d).map (λi=>(([]:List (List ByteArray)).length+i,0,n))++(List.range d').map (λi=>(([]++(List.range d).map (λi=>Zr n (A i))).length+i,0,n))) ([]++(List.range d).map (λi=>Zr n (A i))++(List.range d').map (λi=>Zr n (B i))) (λi=>i) (mA d A B):=by
  refine⟨?_,λi hi=>⟨[],rfl,?_⟩,λi j _ _ e=>e⟩
  ·rw[e1,List.range_add,List.map_append,List.map_map]
   congr 1
   refine List.map_congr_left λi _=>?_
   simp
  ·rw[List.nil_append,List.nil_append]
   by_cases g:i<d
   ·rw[List.getElem?_append_left (by simpa using g),List.getElem?_map,List.getElem?_range g,GA A B g]; rfl
   ·have e:mA d A B i=B (i-d):=by simp[mA,g]
    rw[List.getElem?_append_right (by simp; omega),List.getElem?_map,List.length_map,List.length_range,List.getElem?_range (by omega),e]; rfl
 obtain⟨m',A',J',M',t,u,g1,g2,g3,g4,g5,g6,g7⟩:=WN (show d+d'<1048576 by omega) (show n<1048576 by omega) hL (wA.mA wB) (E:=λd=>10^dg 9 d) (T:=λd=>10^(5*dg 9 d+1)) (by show Big (d+d') n (mA d A B) (10^dg 9 0); rw[show (10^dg 9 0:Nat)=1000000000 by decide]; exact bA.mA bB) (aQH (.inr hn) (by decide));obtain⟨f1,_,f3⟩:=Hn.unique hJ g4 (hs.symm.trans g5);subst f1;have hk:=(Hn.kG hJ λi hi x hx=>by rw[f3 i hi]; exact g6 i (by omega) x hx).1
 have hsh:=aAK g3 g2 (by omega) (by omega) (λi hi x hx=>by rw[<- f3 i hi]; exact bJ i hi x hx) (n:Int);have e2:(List.range s).map (λi=>Vr n (M' i))=Mr s n J:=by
  refine List.map_congr_left λi hi=>?_
  rw[f3 i (List.mem_range.1 hi)]
 rw[e2]at hsh;have b1:Nat.ble ((List.range d').map (λi=>(([]++(List.range d).map (λi=>Zr n (A i))).length+i,0,n))).length 1048576=true:=by rw[dM,List.length_map,List.length_range]; exact oT (by omega)
 have b2:Nat.ble ((List.range d).map (λi=>(([]:List (List ByteArray)).length+i,0,n))).length 1048576=true:=by rw[dM,List.length_map,List.length_range]; exact oT (by omega)
 simp only[I5,cb,aE,e0,Bool.not_true,oD,l1,l2,b1,b2,oC,g1,hsh]
end
theorem aUL {ps:List Int}(hp:pD (ps,())=some (0,())):0<ps.length:=by
 cases ps with
 | nil =>
  have:pD (([]:List Int),())=some (13,()):=rfl;rw[this]at hp;cases hp
 | cons a l=>simp
theorem aPU {ps:List Int}(h0:0<ps.length)(h1:ps.length<=1048576):nM (ps,())=some (ps,()):=by
 have e1:Nat.blt 0 ps.length=true:=by rw[cD]; simpa using h0
 have e2:Nat.ble ps.length 1048576=true:=by rw[dM]; simpa using h1
 simp only[nM,e1,e2,oC]
theorem T1 {ps:List Int} {n:Nat} (hp:pD (ps,())=some (0,())) (hl:ps.length=n) (hn:n<=4) (rows:List (List Int)) (hk:rows.length<=12) (hlen:∀ r∈rows,r.length=n) (hr:∀ r∈rows,∀ a∈r,a.natAbs<=1000000000)
  {d r t:Nat} {M K S:Nat->V} {c p s:Nat->Nat} (hM:Hn d M c) (hsm:Same rows.length (J3 rows) d M) (bM:Big d n M 1000000000) (hK:Hn r K p) (hI:kM n d M r K) (bK:Big r n K 1000000000) (hS:Hn t S s) (hI2:kM n r K t S) (bS:Big t n S 1000000000) :
  dV (ps,rows,())=some ((ps,(Mr t n S,Mr r n K)),0,()):=by
 have e0:eqI 0 0=true:=by decide
 have e1:((ps.length:Nat):Int)=(n:Int):=by rw[hl]
 obtain⟨d',M',c',g1,g2,g3,g4,g5,g6⟩:=of_eq rows hk (show n<=12 by omega) hlen (E:=λd=>10^dg 9 d) (T:=λd=>10^(5*dg 9 d+1)) (by rw[show (10^dg 9 0:Nat)=1000000000 by decide]; exact hr) (by rw[show (10^dg 9 0:Nat)=1000000000 by decide]; exact Nat.le_refl _) (aQH (.inr hn) (by decide)) λd' H p' _ hH hs' _=>by
  obtain⟨f1,_,f3⟩:=Hn.unique hM hH (hsm.symm.trans hs');subst f1;exact λi hi x hx=>by rw[<- f3 i hi]; exact bM i hi x hx
 obtain⟨f1,_,f3⟩:=Hn.unique hM g3 (hsm.symm.trans g4);subst f1;have e2:(List.range d).map (λi=>Vr n (M' i))=Mr d n M:=by
  refine List.map_congr_left λi hi=>?_
  rw[f3 i (List.mem_range.1 hi)]
 rw[e2]at g1;have wM:Wd d n M:=λi hi x hx=>by rw[f3 i hi]; exact g5 i hi x hx
 have s1:=Z2 hM hn wM bM hI hS hI2 bS;have s2:=QE hM hn wM bM hK hI bK;have hfr:CN (ps,rows,())=some (Mr t n S,Mr r n K,0,()):=by simp only[CN,hp,aE,e0,Bool.not_true,oD,e1,g1,s1,s2]
 simp only[dV,hfr,aE,e0,Bool.not_true,oD,aPU (aUL hp) (show ps.length<=1048576 by omega)]
theorem VP {d n:Nat} {M:Nat->V} (hd:d<=1000) (hn:n<=4) (hw:Wd d n M) {E D:Nat} (hE:Big d n M E) (h1:1<=E) (hD:E<=10^D) (hD2:D<=154):∃ r K p,r<=n/\Hn r K p/\kM n d M r K/\Wd r n K:=by
 have hB:=hE.wide (k:=d) (M:=M) h1;obtain⟨f,W,q,g1,g2,g3,g4⟩:=PG (k:=n) (n:=d+n) (M:=wide n d M) (.inl hn) (by omega) (by omega) hw.wide (λi hi x hx=>Nat.le_trans (hB i hi x hx) hD) hD2;obtain⟨j,b1,b2,b3⟩:=Hn.split g2 d;obtain⟨c1,c2⟩:=Z5 g2 g3 b1 b2 b3;exact⟨f-j,_,_,by omega,c1,c2,λi hi x hx=>c2.width hi x hx⟩
def wI(d n:Nat) (A B:Nat->V):Nat->V:=λi=>if i<d then (λx=>if x<n then A i x else A i (x-n)) else B (i-d)
section
variable {d n d':Nat} {A B:Nat->V}
theorem aL1 {i:Nat}(h:i<d):wI d n A B i=λx=>if x<n then A i x else A i (x-n):=by simp only[wI,h,if_true]
theorem aHT(i:Nat):wI d n A B (d+i)=B i:=by
 have e:¬ d+i<d:=by omega
 have e2:d+i-d=i:=by omega
 simp only[wI,e,if_false,e2]
theorem a5P(wA:Wd d n A)(wB:Wd d' n B){v:V}(h:Sp (d+d') (wI d n A B) v):∃ a b,Sp d A a/\Sp d' B b/\(∀ x,x<n->v x=a x+b x)/\∀ x,v (n+x)=a x:=by
 induction h with
 | zero=>exact⟨_,_,.zero,.zero,λ_ _=>rfl,λ_=>rfl⟩
 | add j t hj _ ih =>
  obtain⟨a,b,ha,hb,h1,h2⟩:=ih
  by_cases g:j<d
  ·refine⟨_,b,Sp.comb t ha (Sp.mem g),hb,λx hx=>?_,λx=>?_⟩
   ·rw[aL1 g];have:=h1 x hx;simp only[hx,if_true]; omega
   ·rw[aL1 g];have:=h2 x;have e1:¬ n+x<n:=by omega
    have e2:n+x-n=x:=by omega
    simp only[e1,if_false,e2,this]
  ·obtain⟨i,rfl⟩:∃ i,j=d+i:=⟨j-d,by omega⟩;refine⟨a,_,ha,Sp.comb t hb (Sp.mem (j:=i) (by omega)),λx hx=>?_,λx=>?_⟩
   ·rw[aHT];have:=h1 x hx;simp only[]; omega
   ·rw[aHT];have h5:=h2 x;have h6:=wB i (by omega) (n+x) (by omega);simp only[h5,h6,Int.mul_zero,Int.add_zero]
theorem a2D {a b:V}(wB:Wd d' n B)(ha:Sp d A a)(hb:Sp d' B b):Sp (d+d') (wI d n A B) (λx=>if x<n then a x+b x else a (x-n)):=by
 have h1:Sp (d+d') (wI d n A B) (λx=>if x<n then a x else a (x-n)):=by
  induction ha with
  | zero =>
   refine cast (congrArg _ ?_) (Sp.zero (k:=d+d') (M:=wI d n A B))
   funext x; split <;> rfl
  | add j t hj _ ih =>
   have:=Sp.add j t (show j<d+d' by omega) ih;rw[aL1 hj]at this;refine cast (congrArg _ ?_) this
   funext x
   by_cases g:x<n
   ·simp only[g,if_true]
   ·simp only[g,if_false]
 have h2:Sp (d+d') (wI d n A B) b:=Sp.trans (λj hj=>by have:=Sp.mem (k:=d+d') (M:=wI d n A B) (j:=d+j) (by omega); rwa[aHT]at this) hb;have hz:∀ x,n<=x->b x=0:=λx hx=>Sp.lM (λj hj=>wB j hj x hx) hb
 refine cast (congrArg _ ?_) (Sp.sum h1 h2)
 funext x
 by_cases g:x<n
 ·simp only[g,if_true]
 ·simp only[g,if_false,hz x (by omega),Int.add_zero]
theorem a7I(wA:Wd d n A)(wB:Wd d' n B):Wd (d+d') (n+n) (wI d n A B):=λi hi x hx=>by
 by_cases g:i<d
 ·rw[aL1 g];have e:¬ x<n:=by omega
  simp only[e,if_false];exact wA i g _ (by omega)
 ·obtain⟨j,rfl⟩:∃ j,i=d+j:=⟨i-d,by omega⟩;rw[aHT]; exact wB j (by omega) x (by omega)
theorem a6N {E:Nat}(wB:Wd d' n B)(bA:Big d n A E)(bB:Big d' n B E):Big (d+d') (n+n) (wI d n A B) E:=λi hi x hx=>by
 by_cases g:i<d
 ·rw[aL1 g];show (if x<n then A i x else A i (x-n)).natAbs<=E;split
  ·rename_i h; exact bA i g x h
  ·exact bA i g _ (by omega)
 ·obtain⟨j,rfl⟩:∃ j,i=d+j:=⟨i-d,by omega⟩;rw[aHT];rcases Nat.lt_or_ge x n with h|h
  ·exact bB j (by omega) x h
  ·rw[wB j (by omega) x h]; simp
theorem a6D(hA:Ind d A)(hB:Ind d' B)(wB:Wd d' n B)(wA:Wd d n A):Ind (d+d') (wI d n A B):=λc hc=>by
 have h1:∀ i,i<d->c i=0:=hA c λx=>by
  have:=hc (n+x);rw[aPH,KY (n:=d') λi hi=>by rw[aHT,wB i hi _ (by omega),Int.mul_zero],Int.add_zero]at this;rw[<- this];refine vX λi hi=>?_
  have e1:¬ n+x<n:=by omega
  have e2:n+x-n=x:=by omega
  rw[aL1 hi];simp only[e1,if_false,e2]
 have h2:∀ i,i<d'->c (d+i)=0:=hB (λi=>c (d+i)) λx=>by
  have:=hc x;rw[aPH,KY (n:=d) λi hi=>by rw[h1 i hi,Int.zero_mul],Int.zero_add]at this;rw[<- this];exact vX λi _=>by rw[aHT]
 intro i hi
 by_cases g:i<d
 ·exact h1 i g
 ·have:=h2 (i-d) (by omega);rwa[show d+(i-d)=i by omega]at this
theorem aWT(wA:Wd d n A) (wB:Wd d' n B) {w:Nat} {W:Nat->V} {p:Nat->Nat} (hH:Hn w W p) (hs:Same (d+d') (wI d n A B) w W) {j:Nat} (hj:j<=w) (h1:∀ i,i<j->p i<n) (h2:∀ i,j<=i->i<w->n<=p i) :
  Hn (w-j) (λi y=>W (j+i) (n+y)) (λi=>p (j+i)-n)/\(∀ v,Sp (w-j) (λi y=>W (j+i) (n+y)) v↔Sp d A v/\Sp d' B v)/\Hn j (λi x=>if x<n then W i x else 0) p/\Same (d+d') (mA d A B) j (λi x=>if x<n then W i x else 0):=by
 refine⟨⟨λa b hab hb=>?_,λi hi x hx=>?_,λi hi=>?_,λa b hab hb=>?_⟩,λy=>⟨λhy=>?_,λ⟨ya,yb⟩=>?_⟩,⟨λa b hab hb=>hH.inc a b hab (by omega),λi hi x hx=>?_,λi hi=>?_,λa b hab hb=>?_⟩,λv=>⟨λhv=>?_,λhv=>?_⟩⟩
 ·have g1:=h2 (j+a) (by omega) (by omega);have g2:=hH.inc (j+a) (j+b) (by omega) (by omega);show p (j+a)-n<p (j+b)-n;omega
 ·exact hH.low (j+i) (by omega) (n+x) (by have:x<p (j+i)-n:=hx; omega)
 ·have g1:=h2 (j+i) (by omega) (by omega);show 0<W (j+i) (n+(p (j+i)-n));rw[show n+(p (j+i)-n)=p (j+i)by omega];exact hH.pos (j+i) (by omega)
 ·have g1:=h2 (j+b) (by omega) (by omega);show 0<=W (j+a) (n+(p (j+b)-n))/\W (j+a) (n+(p (j+b)-n))<W (j+b) (n+(p (j+b)-n));rw[show n+(p (j+b)-n)=p (j+b)by omega];exact hH.red (j+a) (j+b) (by omega) (by omega)
 ·have key:∃ v,Sp w W v/\(∀ x,x<n->v x=0)/\y=λc=>v (n+c):=by
   induction hy with
   | zero=>exact⟨_,.zero,λ_ _=>rfl,rfl⟩
   | add i t hi _ ih =>
    obtain⟨v,g1,g2,rfl⟩:=ih;refine⟨_,Sp.add (j+i) t (by omega) g1,λx hx=>?_,rfl⟩;have:=hH.low (j+i) (by omega) x (by have:=h2 (j+i) (by omega) (by omega); omega);simp only[g2 x hx,this,Int.mul_zero,Int.add_zero]
  obtain⟨v,g1,g2,rfl⟩:=key;obtain⟨a,b,ha,hb,q1,q2⟩:=a5P wA wB ((hs v).2 g1);have e:(λc=>v (n+c))=a:=by funext c; exact q2 c
  rw[e];refine⟨ha,?_⟩;have hb':=Sp.smul (-1) hb;refine cast (congrArg _ ?_) hb'
  funext x
  rcases Nat.lt_or_ge x n with g|g
  ·have:=q1 x g;have:=g2 x g;omega
  ·have z1:b x=0:=Sp.lM (λj hj=>wB j hj x g) hb;have z2:a x=0:=Sp.lM (λj hj=>wA j hj x g) ha;rw[z1,z2]; rfl
 ·have hv:=a2D (n:=n) wB ya (Sp.smul (-1) yb);have:=Hn.drop hH hj h1 ((hs _).1 hv) (λx hx=>by simp only[hx,if_true]; omega);have key:∀ {v:V},Sp (w-j) (λi=>W (j+i)) v->Sp (w-j) (λi y=>W (j+i) (n+y)) (λc=>v (n+c)):=by
   intro v hv
   induction hv with
   | zero=>exact .zero
   | add i t hi _ ih=>exact Sp.add i t hi ih
  refine cast (congrArg _ ?_) (key this)
  funext c
  have e1:¬ n+c<n:=by omega
  have e3:n+c-n=c:=by omega
  simp only[e1,if_false,e3]
 ·have:=hH.low i (by omega) x hx;show (if x<n then W i x else 0)=0;split
  ·exact this
  ·rfl
 ·have:=hH.pos i (by omega);have:=h1 i hi;show 0<(if p i<n then W i (p i) else 0);rw[if_pos this]; assumption
 ·have g:=h1 b hb;have:=hH.red a b hab (by omega);show 0<=(if p b<n then W a (p b) else 0)/\(if p b<n then W a (p b) else 0)<(if p b<n then W b (p b) else 0);rw[if_pos g,if_pos g]; exact this
 ·obtain⟨a,b,ha,hb,rfl⟩:=aC4 hv;have h3:=(hs _).1 (a2D (n:=n) wB ha hb);have key:∀ {v:V},Sp w W v->Sp w (λi x=>if x<n then W i x else 0) (λx=>if x<n then v x else 0):=by
   intro v hv
   induction hv with
   | zero =>
    refine cast (congrArg _ ?_) (Sp.zero (k:=w) (M:=λi x=>if x<n then W i x else 0))
    funext x; split <;> rfl
   | add i t hi _ ih =>
    refine cast (congrArg _ ?_) (Sp.add i t hi ih)
    funext x
    by_cases g:x<n
    ·simp only[g,if_true]
    ·simp only[g,if_false]; simp
  have h4:=(aTR (k:=w) (d:=j) (λi x=>if x<n then W i x else 0) hj (λi g1 g2=>by
   funext x
   show (if x<n then W i x else 0)=0;split
   ·exact hH.low i g2 x (by have:=h2 i g1 g2; omega)
   ·rfl) _).1 (key h3)
  refine cast (congrArg _ ?_) h4
  funext x
  by_cases g:x<n
  ·simp only[g,if_true]
  ·have z1:b x=0:=Sp.lM (λj hj=>wB j hj x (by omega)) hb;have z2:a x=0:=Sp.lM (λj hj=>wA j hj x (by omega)) ha;simp only[g,if_false,z1,z2]; rfl
 ·refine Sp.trans (λi hi=>?_) hv;obtain⟨a,b,ha,hb,q1,q2⟩:=a5P wA wB ((hs _).2 (Sp.mem (M:=W) (show i<w by omega)));refine cast (congrArg _ ?_) (Sp.sum (KF (k':=d') (M':=B) ha) (GJ (k:=d) (M:=A) hb))
  funext x
  show a x+b x=if x<n then W i x else 0
  by_cases g:x<n
  ·rw[if_pos g,q1 x g]
  ·have z1:b x=0:=Sp.lM (λj hj=>wB j hj x (by omega)) hb;have z2:a x=0:=Sp.lM (λj hj=>wA j hj x (by omega)) ha;rw[if_neg g,z1,z2]; rfl
end
theorem aKG(a b:List ByteArray) (ha:a.length<=1000) (hb:b.length<=1000):cA ([a,b],())=some (a++b):=by
 have key:=aV (step:=b9) (N:=2^64) (λt=>([a,b],(if t=0 then 0 else if t=1 then (a.length:Int) else ((a.length+b.length:Nat):Int)),[a,b],2,(t:Int),())) 2 ([a,b],((a.length+b.length:Nat):Int),()) (by omega) (λt ht=>?_) ?_
 ·have key:eQ ([a,b],0,[a,b],([a,b].length:Int),0,())=_:=key;have key2:=aV (step:=cB) (N:=2^64) (λt=>((if t=0 then [] else if t=1 then a else a++b),[a,b],2,(t:Int),())) 2 (a++b,()) (by omega) (λt ht=>?_) ?_
  ·have key2:eP ([],[a,b],([a,b].length:Int),0,())=_:=key2;have e1:ltI ((a.length+b.length:Nat):Int) 0=false:=by rw[aD]; exact oF (by omega)
   have e2:aB .i64 (((a.length+b.length:Nat):Int)-0)=((a.length+b.length:Nat):Int):=by rw[wrap64 (by omega) (by omega)]; omega
   have hg:cI ((),((a.length+b.length:Nat):Int),())=some []:=by
    by_cases h0:a.length+b.length=0
    ·have e3:ltI 0 ((a.length+b.length:Nat):Int)=false:=by rw[aD]; exact oF (by omega)
     simp only[cI,e1,e2,e3,oD]
    ·have e3:ltI 0 ((a.length+b.length:Nat):Int)=true:=by rw[aD]; exact oT (by omega)
     have e4:ltI 1048576 ((a.length+b.length:Nat):Int)=false:=by rw[aD]; exact oF (by omega)
     have e5:(List.replicate (((a.length+b.length:Nat):Int)).toNat (ByteArray.empty:Ty.den .str)).length=a.length+b.length:=by rw[List.length_replicate,oN]
     have e6:Nat.ble 0 0=true:=rfl;have e7:Nat.ble 0 (a.length+b.length)=true:=by rw[dM]; exact oT (by omega)
     have e8:Nat.blt 0 (a.length+b.length)=true:=by rw[cD]; exact oT (by omega)
     simp only[cI,e1,e2,e3,e4,e5,e6,e7,e8,oD,oC,Bool.not_false,Nat.sub_self,List.take_zero]
   simp only[cA,key,aE,hg,key2]
  ·have e1:ltI (t:Int) 2=true:=by rw[aD]; exact oT (by omega)
   have e3:=cC t (by omega);rcases(show t=0\/t=1 by omega)with rfl|rfl
   ·have e2:aF ((0:Nat):Int) 2=true:=by decide
    have e5:Nat.ble a.length 1048576=true:=by rw[dM]; exact oT (by omega)
    simp only[cB,e1,oC,e3];show (bif aF ((0:Nat):Int) 2 then bif Nat.ble a.length 1048576 then bif Nat.ble 0 1048576 then _ else none else none else none)=_;simp only[e2,e5,oC];rfl
   ·have e2:aF ((1:Nat):Int) 2=true:=by decide
    have e5:Nat.ble a.length 1048576=true:=by rw[dM]; exact oT (by omega)
    have e6:Nat.ble b.length 1048576=true:=by rw[dM]; exact oT (by omega)
    simp only[cB,e1,oC,e3];show (bif aF ((1:Nat):Int) 2 then bif Nat.ble b.length 1048576 then bif Nat.ble a.length 1048576 then _ else none else none else none)=_;simp only[e2,e5,e6,oC];rfl
  ·have e1:ltI ((2:Nat):Int) 2=false:=by decide
   simp only[cB,e1,oD];rfl
 ·have e1:ltI (t:Int) 2=true:=by rw[aD]; exact oT (by omega)
  have e3:=cC t (by omega);rcases(show t=0\/t=1 by omega)with rfl|rfl
  ·have e2:aF ((0:Nat):Int) 2=true:=by decide
   have e4:aB .i64 (0+(a.length:Int))=(a.length:Int):=by rw[wrap64 (by omega) (by omega)]; omega
   have e5:ltI (a.length:Int) 0=false:=by rw[aD]; exact oF (by omega)
   simp only[b9,e1,oC,e3];show (bif aF ((0:Nat):Int) 2 then bif ltI (aB .i64 (0+(a.length:Int))) 0 then none else some (Sum.inl ([a,b],aB .i64 (0+(a.length:Int)),[a,b],2,((0+1:Nat):Int),())) else none)=_;simp only[e2,e4,e5,oC,oD];rfl
  ·have e2:aF ((1:Nat):Int) 2=true:=by decide
   have e4:aB .i64 ((a.length:Int)+(b.length:Int))=((a.length+b.length:Nat):Int):=by rw[wrap64 (by omega) (by omega)]; omega
   have e5:ltI ((a.length+b.length:Nat):Int) 0=false:=by rw[aD]; exact oF (by omega)
   simp only[b9,e1,oC,e3];show (bif aF ((1:Nat):Int) 2 then bif ltI (aB .i64 ((a.length:Int)+(b.length:Int))) 0 then none else some (Sum.inl ([a,b],aB .i64 ((a.length:Int)+(b.length:Int)),[a,b],2,((1+1:Nat):Int),())) else none)=_;simp only[e2,e4,e5,oC,oD];rfl
 ·have e1:ltI ((2:Nat):Int) 2=false:=by decide
  simp only[b9,e1,oD];rfl
def gE(e:Nat):Nat->Nat
 | 0=>e
 | d+1=>19*gE e d^6
def gT(k e d:Nat):Nat:=if d+1<k then 9*gE e d^5 else gE e d
theorem a2P {e:Nat}(h:1<=e):∀ d,1<=gE e d
 | 0=>h
 | d+1=>Nat.mul_pos (by decide) (Nat.pow_pos (a2P h d))
theorem a0O(e:Nat):∀ d,19*gE e d^5=(19*e^5)^6^d
 | 0=>by simp[gE]
 | d+1=>by
  have h:=a0O e d;rw[Nat.pow_succ 6 d,Nat.pow_mul,<- h,gE];generalize gE e d=x;rw[Nat.mul_pow,Nat.mul_pow,<- Nat.pow_mul,<- Nat.pow_mul];have:(19:Nat)^6=19*19^5:=by decide
  rw[this,Nat.mul_assoc]
theorem a7Q {x N:Nat}(h:x^5<=10^(5*N)):x<=10^N:=by
 refine Classical.byContradiction λhn=>?_
 have h1:(10^N)^5<x^5:=Nat.pow_lt_pow_left (by omega) (by decide);rw[<- Nat.pow_mul,Nat.mul_comm]at h1;omega
theorem a0S {T N:Nat}(h:T<=10^N):Lib.nDigits (T+1)<=N+1:=by
 refine uF (k:=N) ?_;rw[Nat.pow_succ];have:1<=10^N:=Nat.pow_pos (by decide);omega
theorem a7F {e X k n:Nat}(h1:1<=e)(hX:19*e^5<=10^X)(hd:∀ d,d+1<k->2*(X*6^d+1)<=400000)(hl:∀ d,d+1=k->∃ N,X*6^d<=5*N/\2*(N+1)<=400000):Bds k n (gE e) (gT k e):=by
 have hp:=a2P h1;have hlaw:∀ d,19*gE e d^5<=10^(X*6^d):=λd=>by
  rw[a0O,Nat.pow_mul];exact Nat.pow_le_pow_left hX _
 have h56:∀ d,gE e d<=gE e d^5:=λd=>by
  have:=Nat.pow_le_pow_right (hp d) (show 1<=5 by omega);rwa[Nat.pow_one]at this
 have e9:vQ=400000:=rfl;refine⟨λd hk _=>⟨hp d,?_,λh=>?_,?_⟩,λd hk _=>?_⟩
 ·unfold gT; split
  ·have:=h56 d; omega
  ·exact Nat.le_refl _
 ·simp only[gT,h,if_true]; exact Nat.le_refl _
 ·by_cases h:d+1<k
  ·have h2:gT k e d<=10^(X*6^d):=by
    simp only[gT,h,if_true];have:=hlaw d; omega
   have h3:=a0S h2;have h4:=hd d h;omega
  ·have h2:gT k e d=gE e d:=by simp only[gT,h,if_false]
   obtain⟨N,n1,n2⟩:=hl d (by omega);have h3:gE e d<=10^N:=a7Q (Nat.le_trans (by have:=hlaw d; omega) (Nat.pow_le_pow_right (by decide) n1));have h4:=a0S h3;rw[h2]; omega
 ·have h2:gT k e d<=9*gE e d^5:=by
   unfold gT; split
   ·exact Nat.le_refl _
   ·have:=h56 d; omega
  rw[gE];have hp:=hp d;generalize gE e d=x at *;have h3:(x+1)*gT k e d<=(x+x)*(9*x^5):=Nat.mul_le_mul (by omega) h2;have e1:(x+x)*(9*x^5)=18*x^6:=by grind
  have e2:x^1<=x^6:=Nat.pow_le_pow_right hp (by decide);rw[Nat.pow_one]at e2;omega
theorem a8M {k n:Nat}(hk:k<=7):Bds k n (gE 8748) (gT k 8748):=by
 refine a7F (X:=21) (by decide) (by decide) (λd hd=>?_) λd hd=>?_
 ·have:6^d<=6^5:=Nat.pow_le_pow_right (by decide) (by omega);have e:(6^5:Nat)=7776:=by decide
  omega
 ·refine⟨195956,?_,by decide⟩;have:6^d<=6^6:=Nat.pow_le_pow_right (by decide) (by omega);have e:(6^6:Nat)=46656:=by decide
  omega
theorem a8W {k n:Nat}(hk:k<=8):Bds k n (gE 1) (gT k 1):=by
 refine a7F (X:=2) (by decide) (by decide) (λd hd=>?_) λd hd=>?_
 ·have:6^d<=6^6:=Nat.pow_le_pow_right (by decide) (by omega);have e:(6^6:Nat)=46656:=by decide
  omega
 ·refine⟨111975,?_,by decide⟩;have:6^d<=6^7:=Nat.pow_le_pow_right (by decide) (by omega);have e:(6^7:Nat)=279936:=by decide
  omega
section
variable {d n d':Nat} {A B:Nat->V} {p q:Nat->Nat}
theorem aTE(v1:Int)(R:List (List Int))(hd:d<=12)(hn:n<=12)(bA:Big d n A 1000000000) :
  sJ ((v1,R),(0,([],())),(n:Int),[],Mr d n A,(d:Int),0,[],())=some ((v1,R),(0,([],())),(n:Int),(List.range d).map (λi=>(i,0,n+n)),(List.range d).map (λi=>Zr (n+n) (wI d n A B i)),()):=by
 have key:=aV (step:=nW) (N:=2^64)
  (λt=>((v1,R),(0,([],())),(n:Int),(List.range t).map (λi=>(i,0,n+n)),Mr d n A,(d:Int),(t:Int),(List.range t).map (λi=>Zr (n+n) (wI d n A B i)),())) d ((v1,R),(0,([],())),(n:Int),(List.range d).map (λi=>(i,0,n+n)),(List.range d).map (λi=>Zr (n+n) (wI d n A B i)),()) (by omega) (λt ht=>?_) ?_
 ·exact key
 ·have e1:ltI (t:Int) (d:Int)=true:=by rw[aD]; exact oT (by omega)
  have e2:aF (t:Int) d=true:=by rw[aM]; exact oT (by omega)
  have e3:((t:Nat):Int).toNat=t:=oN _;have e5:=aKY (Vr n (A t)) (by rw[vU]; omega) λa ha=>by have:=aHE (λx hx=>bA t ht x hx) a ha; omega
  rw[aF4]at e5;have e6:=aKG (Zr n (A t)) (Zr n (A t)) (by rw[mQ]; omega) (by rw[mQ]; omega);have e7:Zr n (A t)++Zr n (A t)=Zr (n+n) (wI d n A B t):=by
   rw[aP6,aL1 ht]
   congr 1
   ·unfold Zr;refine List.map_congr_left λi hi=>?_
    have:i<n:=List.mem_range.1 hi;simp only[this,if_true]
   ·unfold Zr;refine List.map_congr_left λi _=>?_
    have h1:¬ n+i<n:=by omega
    have h2:n+i-n=i:=by omega
    simp only[h1,if_false,h2]
  have e8:((List.range t).map (λi=>Zr (n+n) (wI d n A B i))).length=t:=by simp
  have e9:(Zr (n+n) (wI d n A B t)).length=n+n:=mQ _ _;have e10:Nat.ble [(t,0,n+n)].length 1048576=true:=rfl;have e11:Nat.ble ((List.range t).map (λi=>(i,0,n+n))).length 1048576=true:=by rw[dM,List.length_map,List.length_range]; exact oT (by omega)
  have e12:=cC t (by omega);have e13:(List.range t).map (λi=>(i,0,n+n))++[(t,0,n+n)]=(List.range (t+1)).map (λi=>(i,0,n+n)):=by rw[List.range_succ,List.map_append]; rfl
  have e14:(List.range t).map (λi=>Zr (n+n) (wI d n A B i))++[Zr (n+n) (wI d n A B t)]=(List.range (t+1)).map (λi=>Zr (n+n) (wI d n A B i)):=by rw[List.range_succ,List.map_append]; rfl
  simp only[nW,e1,eJ,e2,e3,Z8 A ht,e5,aE,e6,e7,e8,e9,e10,e11,e12,e13,e14,oC]
 ·have e1:ltI (d:Int) (d:Int)=false:=by rw[aD]; exact oF (by omega)
  simp only[nW,e1,oD]
theorem aRS(hd:d<=12)(hd':d'<=12)(hn:n<=12)(wB:Wd d' n B)(bB:Big d' n B 1000000000) :
  sF ((0,([],())),(n:Int),(List.range d).map (λi=>(i,0,n+n)),Mr d' n B,(d':Int),0,(List.range d).map (λi=>Zr (n+n) (wI d n A B i)),())=some ((0,([],())),(n:Int),(List.range (d+d')).map (λi=>(i,0,n+n)),(List.range (d+d')).map (λi=>Zr (n+n) (wI d n A B i)),()):=by
 have key:=aV (step:=nY) (N:=2^64)
  (λt=>((0,([],())),(n:Int),(List.range (d+t)).map (λi=>(i,0,n+n)),Mr d' n B,(d':Int),(t:Int),(List.range (d+t)).map (λi=>Zr (n+n) (wI d n A B i)),())) d' ((0,([],())),(n:Int),(List.range (d+d')).map (λi=>(i,0,n+n)),(List.range (d+d')).map (λi=>Zr (n+n) (wI d n A B i)),()) (by omega) (λt ht=>?_) ?_
 ·exact key
 ·have e1:ltI (t:Int) (d':Int)=true:=by rw[aD]; exact oT (by omega)
  have e2:aF (t:Int) d'=true:=by rw[aM]; exact oT (by omega)
  have e3:((t:Nat):Int).toNat=t:=oN _;have e5:=aKY (Vr n (B t)) (by rw[vU]; omega) λa ha=>by have:=aHE (λx hx=>bB t ht x hx) a ha; omega
  rw[aF4]at e5;have e6:=aKG (Zr n (B t)) (Zr n (λ_=>0)) (by rw[mQ]; omega) (by rw[mQ]; omega);have e7:Zr n (B t)++Zr n (λ_=>0)=Zr (n+n) (wI d n A B (d+t)):=by
   rw[aP6,aHT]
   congr 1
   unfold Zr;refine List.map_congr_left λi _=>?_
   show Zn 0=Zn (B t (n+i));rw[wB t ht (n+i) (by omega)]
  have e8:((List.range (d+t)).map (λi=>Zr (n+n) (wI d n A B i))).length=d+t:=by simp
  have e9:(Zr (n+n) (wI d n A B (d+t))).length=n+n:=mQ _ _;have e10:Nat.ble [(d+t,0,n+n)].length 1048576=true:=rfl;have e11:Nat.ble ((List.range (d+t)).map (λi=>(i,0,n+n))).length 1048576=true:=by rw[dM,List.length_map,List.length_range]; exact oT (by omega)
  have e12:=cC t (by omega);have e13:(List.range (d+t)).map (λi=>(i,0,n+n))++[(d+t,0,n+n)]=(List.range (d+(t+1))).map (λi=>(i,0,n+n)):=by rw[show d+(t+1)=(d+t)+1 by omega,List.range_succ,List.map_append]; rfl
  have e14:(List.range (d+t)).map (λi=>Zr (n+n) (wI d n A B i))++[Zr (n+n) (wI d n A B (d+t))]=(List.range (d+(t+1))).map (λi=>Zr (n+n) (wI d n A B i)):=by rw[show d+(t+1)=(d+t)+1 by omega,List.range_succ,List.map_append]; rfl
  simp only[nY,e1,eJ,e2,e3,Z8 B ht,e5,aE,aS6 (show n<1048576 by omega),e6,e7,e8,e9,e10,e11,e12,e13,e14,oC]
 ·have e1:ltI (d':Int) (d':Int)=false:=by rw[aD]; exact oF (by omega)
  simp only[nY,e1,oD]
theorem aFA(hA:Hn d A p) (hB:Hn d' B q) (hn:n<=4) (wA:Wd d n A) (wB:Wd d' n B) (bA:Big d n A 1000000000) (bB:Big d' n B 1000000000) {E T:Nat->Nat} (hEA:Big d n A (E 0)) (hEB:Big d' n B (E 0)) (hb:Bds (d+d') (n+n) E T)
  {t:Nat} {I:Nat->V} {c:Nat->Nat} (hI:Hn t I c) (hs:∀ v,Sp t I v↔Sp d A v/\Sp d' B v) (bI:Big t n I 1000000000) :
  nQ (((n:Int),Mr d n A),((n:Int),Mr d' n B),())=some (((n:Int),Mr t n I),0,())/\∃ s J c',Hn s J c'/\Same (d+d') (mA d A B) s J/\s+t=d+d':=by
 have hd:=(Hn.kG hA wA).1;have hd':=(Hn.kG hB wB).1;have cb:=aFL hA hB (by omega) wA wB bA bB;have e0:eqI 0 0=true:=by decide
 have l0:=aTE (d:=d) (n:=n) (A:=A) (B:=B) (n:Int) (Mr d' n B) (by omega) (by omega) bA;have l1:=aRS (d:=d) (d':=d') (n:=n) (A:=A) (B:=B) (by omega) (by omega) (by omega) wB bB;have hL:lT 0 (d+d') (n+n) ((List.range (d+d')).map (λi=>(i,0,n+n))) ((List.range (d+d')).map (λi=>Zr (n+n) (wI d n A B i))) (λi=>i) (wI d n A B) :=
  ⟨rfl,λi hi=>⟨[],rfl,by rw[List.getElem?_map,List.getElem?_range hi]; rfl⟩,λi j _ _ e=>e⟩
 obtain⟨m1,A1,J1,W,w,u,g1,g2,g3,g4,g5,g6,g7⟩:=WN (show d+d'<1048576 by omega) (show n+n<1048576 by omega) hL (a7I wA wB) (a6N wB hEA hEB) hb;have hwd:Wd w (n+n) W:=λi hi x hx=>g6 i (by omega) x hx
 have hw1:w=d+d':=by
  have h1:=(a6D (n:=n) hA.ind hB.ind wB wA).aF1 (M:=W) λi hi=>⟨1,by decide,by
   have:=(g5 _).1 (Sp.mem hi);simpa using this⟩
  omega
 obtain⟨j,b1,b2,b3⟩:=Hn.split g4 n;obtain⟨c1,c2,c3,c4⟩:=aWT wA wB g4 g5 b1 b2 b3;have hsame:Same (w-j) (λi y=>W (j+i) (n+y)) t I:=λv=>(c2 v).trans (hs v).symm
 obtain⟨f1,_,f3⟩:=Hn.unique hI c1 hsame.symm;have hL2:=g3.take g2;have hbl:=aH4 (k:=n) (n:=n) (by omega) (show w<1048576 by omega) hL2 g4 hwd b1 b2 b3;have hL3:=hL2.behind (k:=n) (n:=n) b1;have hwK:Wd (w-j) n (λi y=>W (j+i) (n+y)):=λi hi x hx=>hwd (j+i) (by omega) (n+x) (by omega)
 have bK:Big (w-j) n (λi y=>W (j+i) (n+y)) (10^dg 9 0):=λi hi x hx=>by
  rw[show (10^dg 9 0:Nat)=1000000000 by decide];have:=f3 i (by omega);have:=congrFun this x;show (W (j+i) (n+x)).natAbs<=_;rw[<- this];exact bI i (by omega) x hx
 obtain⟨m2,A2,J2,K,r,p2,k1,k2,k3,k4,k5,k6,k7⟩:=WN (show w-j<1048576 by omega) (show n<1048576 by omega) hL3 hwK (E:=λd=>10^dg 9 d) (T:=λd=>10^(5*dg 9 d+1)) bK (aQH (.inr hn) (by decide));obtain⟨q1,_,q3⟩:=Hn.unique hI k4 (hsame.symm.trans k5);subst q1;have hsh:=aAK k3 k2 (by omega) (by omega) (λi hi x hx=>by rw[<- q3 i hi]; exact bI i hi x hx) (n:Int);have e2:(List.range t).map (λi=>Vr n (K i))=Mr t n I:=by
  refine List.map_congr_left λi hi=>?_
  rw[q3 i (List.mem_range.1 hi)]
 rw[e2]at hsh;refine⟨?_,j,_,u,c3,c4,by omega⟩;have e3:aB .i64 (2*(n:Int))=((n+n:Nat):Int):=by rw[wrap64 (by omega) (by omega)]; omega
 have hlen:((Mr d n A).length:Int)=(d:Int):=by rw[eJ]
 have hlen':((Mr d' n B).length:Int)=(d':Int):=by rw[eJ]
 have hbb:dK () (m1.take w,(n:Int),(n:Int),()) A1=some (m2.take t,A2):=by simp only[dK,hbl,aE,k1]
 simp only[nQ,cb,aE,e0,Bool.not_true,oD,hlen,l0,hlen',l1,e3,g1,hbb,hsh]
end
end Go.PM
namespace Go.PM
open Go Go.RowKit Go.Proofs
set_option maxHeartbeats 4000000
abbrev dR:List (Nat×Kd):=[(3,.box 52 TyI),(5,.box 35 TyG),(6,.box 35 TyG),(7,.box 35 TyG),(9,.box 35 TyG),(11,.own 3 TyE),(61,.int .i64),(62,.int .i64)]
abbrev fO:List (Ex×List (Nat×Kd)):=[(.exit 0,[(3,.box 52 TyI),(5,.box 35 TyG),(6,.box 35 TyG),(7,.box 35 TyG),(9,.box 35 TyG),(11,.own 3 TyE)])]
def eZ(x:Shape.den dR):oS dR fO:=match x with
 | (v3,v5,v6,v7,v9,v11,v61,v62,()) =>
  bif ltI v62 v61 then
   bif eqI (v62.tmod 4) 0 then
    bif aF v62 v11.length then bif Nat.blt v62.toNat v11.length then some (.inl (v3,v5,v6,v7,v9,(v11.set v62.toNat (IntKind.wrap .i64 v3.1)),v61,(aB .i64 (v62+1)),())) else none else none
   else bif eqI (v62.tmod 4) 1 then
    bif aF v62 v11.length then bif Nat.blt v62.toNat v11.length then some (.inl (v3,v5,v6,v7,v9,(v11.set v62.toNat (IntKind.wrap .i64 v3.2.1)),v61,(aB .i64 (v62+1)),())) else none else none
   else bif eqI (v62.tmod 4) 2 then
    bif aF v62 v11.length then bif Nat.blt v62.toNat v11.length then some (.inl (v3,v5,v6,v7,v9,(v11.set v62.toNat (IntKind.wrap .i64 v3.2.2.1)),v61,(aB .i64 (v62+1)),())) else none else none
   else bif eqI (v62.tmod 4) 3 then bif aF v62 v11.length then bif Nat.blt v62.toNat v11.length then some (.inl (v3,v5,v6,v7,v9,(v11.set v62.toNat (IntKind.wrap .i64 v3.2.2.2)),v61,(aB .i64 (v62+1)),())) else none else none else none
  else some (.inr ((v3,v5,v6,v7,v9,v11,())))
def jF(x:Shape.den dR):oX fO:=bH eZ (2^64) x
abbrev dS:List (Nat×Kd):=[(3,.box 52 TyI),(5,.box 35 TyG),(6,.box 35 TyG),(7,.box 35 TyG),(9,.box 35 TyG),(11,.own 3 TyE),(13,.int .i64),(14,.list TyE),(83,.list TyD),(84,.int .i64),(85,.int .i64),(91,.int .i64),(92,.int .i64)]
abbrev fT:List (Ex×List (Nat×Kd)):=[(.exit 4,[(3,.box 52 TyI),(5,.box 35 TyG),(6,.box 35 TyG),(7,.box 35 TyG),(9,.box 35 TyG),(11,.own 3 TyE),(83,.list TyD),(84,.int .i64),(85,.int .i64)])]
def eX(x:Shape.den dS):oS dS fT:=match x with
 | (v3,v5,v6,v7,v9,v11,v13,v14,v83,v84,v85,v91,v92,()) =>
  bif ltI v92 v91 then
   bif aF v92 v11.length then bif Nat.blt v92.toNat v11.length then bif eqI (v13.tmod 4) 0 then
    bif aF v92 v14.length then bif aF v92 v11.length then bif Nat.blt v92.toNat v11.length then some (.inl (v3,v5,v6,v7,v9,(v11.set v92.toNat (aB .i64 ((v11.getD v92.toNat 0)+(aB .i64 ((IntKind.wrap .i64 v3.1)*(v14.getD v92.toNat 0)))))),v13,v14,v83,v84,v85,v91,(aB .i64 (v92+1)),())) else none else none else none
   else bif eqI (v13.tmod 4) 1 then
    bif aF v92 v14.length then bif aF v92 v11.length then bif Nat.blt v92.toNat v11.length then some (.inl (v3,v5,v6,v7,v9,(v11.set v92.toNat (aB .i64 ((v11.getD v92.toNat 0)+(aB .i64 ((IntKind.wrap .i64 v3.2.1)*(v14.getD v92.toNat 0)))))),v13,v14,v83,v84,v85,v91,(aB .i64 (v92+1)),())) else none else none else none
   else bif eqI (v13.tmod 4) 2 then
    bif aF v92 v14.length then bif aF v92 v11.length then bif Nat.blt v92.toNat v11.length then some (.inl (v3,v5,v6,v7,v9,(v11.set v92.toNat (aB .i64 ((v11.getD v92.toNat 0)+(aB .i64 ((IntKind.wrap .i64 v3.2.2.1)*(v14.getD v92.toNat 0)))))),v13,v14,v83,v84,v85,v91,(aB .i64 (v92+1)),())) else none else none else none
   else bif eqI (v13.tmod 4) 3 then bif aF v92 v14.length then bif aF v92 v11.length then bif Nat.blt v92.toNat v11.length then some (.inl (v3,v5,v6,v7,v9,(v11.set v92.toNat (aB .i64 ((v11.getD v92.toNat 0)+(aB .i64 ((IntKind.wrap .i64 v3.2.2.2)*(v14.getD v92.toNat 0)))))),v13,v14,v83,v84,v85,v91,(aB .i64 (v92+1)),())) else none else none else none else none else none else none
  else some (.inr ((v3,v5,v6,v7,v9,v11,v83,v84,v85,())))
def jJ(x:Shape.den dS):oX fT:=bH eX (2^64) x
abbrev dT:List (Nat×Kd):=[(3,.box 52 TyI),(5,.box 35 TyG),(6,.box 35 TyG),(7,.box 35 TyG),(9,.box 35 TyG),(11,.own 3 TyE),(83,.list TyD),(84,.int .i64),(85,.int .i64)]
abbrev fR:List (Ex×List (Nat×Kd)):=[(.exit 2,[(5,.box 35 TyG),(6,.box 35 TyG),(7,.box 35 TyG),(9,.box 35 TyG),(11,.own 3 TyE)])]
def eY(x:Shape.den dT):oS dT fR:=match x with
 | (v3,v5,v6,v7,v9,v11,v83,v84,v85,()) =>
  bif ltI v85 v84 then
   bif aF v85 v83.length then aC (jJ (v3,v5,v6,v7,v9,v11,v85,(v83.getD v85.toNat []),v83,v84,v85,(v11.length:Int),0,())) λz8 =>
   some (.inl (z8.1,z8.2.1,z8.2.2.1,z8.2.2.2.1,z8.2.2.2.2.1,z8.2.2.2.2.2.1,z8.2.2.2.2.2.2.1,z8.2.2.2.2.2.2.2.1,(aB .i64 (z8.2.2.2.2.2.2.2.2.1+1)),())) else none
  else some (.inr ((v5,v6,v7,v9,v11,())))
def jO(x:Shape.den dT):oX fR:=bH eY (2^64) x
def dO(x:aK [.agg TyQ,.agg TyI]):oK [.bool]:=match x with
 | (v0,v1,()) =>
  aC (gU (())) λy1 =>
  bif y1.1 then
   aC (uH (v0,())) λy2 =>
   bif y2.1 then
    aC (BC ((v0.1,(v0.2.1,true)),())) λy3 =>
    aC (tW (y3.1,y3.2.1,())) λy4 =>
    aC (tX (y3.1,y3.2.1,())) λy5 =>
    bif !(eqI y4.2.1 0) then
     some (false,())
    else bif !(eqI y5.2.1 0) then
     some (false,())
    else bif !(ltI (y3.1.1.length:Int) 0) then bif !(ltI (y3.1.1.length:Int) (y3.1.1.length:Int)) then bif !(ltI 1048576 (y3.1.1.length:Int)) then aC (jF (v1,y3.1,y3.2.1,y4.1,y5.1,(List.replicate ((y3.1.1.length:Int).toNat) (0:Ty.den TyE)),((List.replicate ((y3.1.1.length:Int).toNat) (0:Ty.den TyE)).length:Int),0,())) λz6 =>
    bif eqI (z6.1.1.tmod 2) 0 then
     bif !(ltI (z6.2.1.1.length:Int) 0) then bif !(ltI (z6.2.1.1.length:Int) (z6.2.1.1.length:Int)) then bif !(ltI 1048576 (z6.2.1.1.length:Int)) then aC (jO (z6.1,z6.2.1,z6.2.2.1,z6.2.2.2.1,z6.2.2.2.2.1,(List.replicate ((z6.2.1.1.length:Int).toNat) (0:Ty.den TyE)),z6.2.1.2.1,(z6.2.1.2.1.length:Int),0,())) λz9 =>
     aC (bE (z9.1,z9.2.2.2.2.1,())) λy10 =>
     aC (bE (z9.2.1,z9.2.2.2.2.1,())) λy11 =>
     aC (bE (z9.2.2.2.1,z9.2.2.2.2.1,())) λy12 =>
     aC (bE (z9.2.2.1,z9.2.2.2.2.1,())) λy13 =>
     bif eqI y10.2.1 4 then
      some (true,())
     else bif eqI y10.2.1 0 then
      bif eqI y11.2.1 0 then
       bif eqI y12.2.1 0 then
        bif eqI y13.2.1 0 then
         bif y10.1 then
          bif y12.1 then
           bif y11.1 then
            bif y13.1 then
             some (true,())
            else bif y10.1 then
             some (false,())
            else bif y11.1 then
             some (false,())
            else some (true,())
           else some (false,())
          else bif y11.1 then
           some (false,())
          else bif y13.1 then
           some (true,())
          else bif y10.1 then
           some (false,())
          else bif y11.1 then
           some (false,())
          else some (true,())
         else bif y12.1 then
          some (false,())
         else bif y13.1 then
          some (true,())
         else bif y10.1 then
          some (false,())
         else bif y11.1 then
          some (false,())
         else some (true,())
        else some (false,())
       else some (false,())
      else some (false,())
     else some (false,()) else none else none else none
    else aC (bE (z6.2.1,z6.2.2.2.2.2.1,())) λy14 =>
    aC (bE (z6.2.2.1,z6.2.2.2.2.2.1,())) λy15 =>
    aC (bE (z6.2.2.2.2.1,z6.2.2.2.2.2.1,())) λy16 =>
    aC (bE (z6.2.2.2.1,z6.2.2.2.2.2.1,())) λy17 =>
    bif eqI y14.2.1 4 then
     some (true,())
    else bif eqI y14.2.1 0 then
     bif eqI y15.2.1 0 then
      bif eqI y16.2.1 0 then
       bif eqI y17.2.1 0 then
        bif y14.1 then
         bif y16.1 then
          bif y15.1 then
           bif y17.1 then
            some (true,())
           else bif y14.1 then
            some (false,())
           else bif y15.1 then
            some (false,())
           else some (true,())
          else some (false,())
         else bif y15.1 then
          some (false,())
         else bif y17.1 then
          some (true,())
         else bif y14.1 then
          some (false,())
         else bif y15.1 then
          some (false,())
         else some (true,())
        else bif y16.1 then
         some (false,())
        else bif y17.1 then
         some (true,())
        else bif y14.1 then
         some (false,())
        else bif y15.1 then
         some (false,())
        else some (true,())
       else some (false,())
      else some (false,())
     else some (false,())
    else some (false,()) else none else none else none
   else aC (gU (())) λy18 =>
   some (y18.1,())
  else aC (gU (())) λy19 =>
  some (y19.1,())
def rZ:Code:=eA Tryz.f5
abbrev mM:Env:=bL [J6,KT,Q7,PZ,NP,HB]
theorem kL:aR tP mM:=aU ⟨N1,NR,YI,YZ,XJ,Q0,trivial⟩
def pU:Code:=gQ rZ 0
def gP:Code:=gQ rZ 1
def pW:Code:=gQ gP 0
def lZ(id:Nat):Option cG:=bif Nat.beq id 11 then some ⟨dR,fO,jF⟩ else bif Nat.beq id 21 then some ⟨dS,fT,jJ⟩ else bif Nat.beq id 18 then some ⟨dT,fR,jO⟩ else none
theorem FQ:∀ x,iK tP mM 172 (aN Tryz.f5) lZ pU dR fO x=eZ x:=by
 rintro⟨v3,v5,v6,v7,v9,v11,v61,v62,⟨⟩⟩
 kernel_rfl
theorem GP:eG tP 172 pU ⟨dR,fO,jF⟩:=eN kL.callee bC.mixed _ (aO (l:=[]) (by kernel_rfl) trivial) FQ
theorem FR:∀ x,iK tP mM 172 (aN Tryz.f5) lZ pW dS fT x=eX x:=by
 rintro⟨v3,v5,v6,v7,v9,v11,v13,v14,v83,v84,v85,v91,v92,⟨⟩⟩
 kernel_rfl
theorem GN:eG tP 172 pW ⟨dS,fT,jJ⟩:=eN kL.callee bC.mixed _ (aO (l:=[]) (by kernel_rfl) trivial) FR
theorem FT:∀ x,iK tP mM 172 (aN Tryz.f5) lZ gP dT fR x=eY x:=by
 rintro⟨v3,v5,v6,v7,v9,v11,v83,v84,v85,⟨⟩⟩
 kernel_rfl
theorem H7:bF gP=[pW]:=by kernel_rfl
theorem GX:eG tP 172 gP ⟨dT,fR,jO⟩:=eN kL.callee bC.mixed _ (aO H7 ⟨eL (i:=21) (by kernel_rfl) rfl GN,trivial⟩) FT
theorem KO:ZE tP 5 _ _ dO:=aC9 bC kL Tryz.func5 (c:=rZ) (by kernel_rfl) (bV:=aN Tryz.f5) (lt:=lZ) (aO (l:=[pU,gP]) (by kernel_rfl) ⟨eL (i:=11) (by kernel_rfl) rfl GP,eL (i:=18) (by kernel_rfl) rfl GX,trivial⟩) (by rintro⟨v0,v1,⟨⟩⟩; kernel_rfl)
end Go.PM
namespace Go.PM
open Go Go.RowKit Go.Proofs Go.Lz
theorem aP0 {d n:Nat}{M:Nat->V}:∀ r∈Mr d n M,r.length=n:=λr hr=>by
 obtain⟨i,_,rfl⟩:=aDM hr;exact vU _ _
theorem aXG {d n E:Nat}{M:Nat->V}(h:Big d n M E):∀ r∈Mr d n M,∀ a∈r,a.natAbs<=E:=λr hr a ha=>by
 obtain⟨i,hi,rfl⟩:=aDM hr;exact aHE (λx hx=>h i hi x hx) a ha
theorem aXM {d n:Nat}{M:Nat->V}(hw:Wd d n M):Same (Mr d n M).length (J3 (Mr d n M)) d M:=by
 rw[eJ];exact Same.congr λi hi=>aJM hw hi
theorem a5S {d d' n:Nat}{A B:Nat->V}(wA:Wd d n A)(wB:Wd d' n B):Same (Mr d n A++Mr d' n B).length (J3 (Mr d n A++Mr d' n B)) (d+d') (mA d A B):=by
 rw[List.length_append,eJ,eJ];refine Same.congr λi hi=>?_
 by_cases g:i<d
 ·rw[GA A B g,<- aJM wA g];unfold J3
  congr 1
  simp only[List.getD];rw[List.getElem?_append_left (by rw[eJ]; exact g)]
 ·have e:mA d A B i=B (i-d):=by simp[mA,g]
  rw[e,<- aJM wB (show i-d<d' by omega)];unfold J3
  congr 1
  simp only[List.getD];rw[List.getElem?_append_right (by rw[eJ]; omega),eJ]
theorem aR7 {n r:Nat} {C K:Nat->V} {q:Nat->Nat} (hC:Hn n C q) (hw:Wd n n C) (hr:r=0) (hI:kM n r K n C):Big n n C 1:=by
 have hlt:=(Hn.kG hC hw).2;have hun:∀ x,x<n->Sp n C (un x):=λx hx=>(hI _).2 ⟨λc hc=>G9 (by omega),λy hy=>by omega⟩
 obtain⟨_,_,_,hall,_⟩:=aW7 n n q hC.inc hlt;have hp:∀ j,j<n->C j (q j)=1:=λj hj=>by
  have h1:=hC.aV6 (hun (q j) (hlt j hj)) j hj λl hl=>G9 (by have:=hC.inc l j hl hj; omega)
  rw[KW]at h1;have h2:=hC.pos j hj;have h3:=Int.le_of_dvd (by decide) h1;omega
 intro i hi x hx;rcases hall x hx with ⟨j,hj,rfl⟩|⟨l,hl,_⟩
 ·rcases Nat.lt_trichotomy i j with g|g|g
  ·have:=hC.red i j g hj;have:=hp j hj;omega
  ·subst g; rw[hp i hi]; decide
  ·rw[hC.low i hi _ (hC.inc j i g hi)]; decide
 ·omega
section
variable {ps:List Int} {n d r d' r':Nat} {C K C' K':Nat->V}
theorem RS.ne (h:RS ps n d r C K):r+d=n:=by
 obtain⟨q,hq⟩:=h.hc;obtain⟨p,hp⟩:=h.hk;exact aR2 hq h.wc h.n4 h.bc hp h.ker
theorem a4Y(h:RS ps n d r C K) (h':RS ps n d' r' C' K'):∃ t z S Z,RT ps n t z S Z/\ED ((ps,(Mr d n C,Mr r n K)),(ps,(Mr d' n C',Mr r' n K')),())=some ((ps,(Mr t n S,Mr z n Z)),0,()) /\
  dV (ps,Mr d n C++Mr d' n C',())=some ((ps,(Mr t n S,Mr z n Z)),0,())/\(∀ v,Sp d C v->Sp t S v)/\(∀ v,Sp d' C' v->Sp t S v)/\(∃ D:Int,D≠0/\∀ v,Sp t S v->Sp (d+d') (mA d C C') (λx=>D*v x))/\∃ J c,Hn t J c/\Same (d+d') (mA d C C') t J:=by
 have hn:=h.n4;have wXY:=h.wc.mA h'.wc;have bXY:=h.bc.mA h'.bc;obtain⟨q,hq⟩:=h.hc;obtain⟨q',hq'⟩:=h'.hc;have hd:=(Hn.kG hq h.wc).1;have hd':=(Hn.kG hq' h'.wc).1;have e9:(1000000000:Nat)=10^9:=by decide
 obtain⟨s,J,c,_,hJ,hs,wJ⟩:=PG (k:=d+d') (n:=n) (M:=mA d C C') (D:=9) (.inr hn) (by omega) (by omega) wXY (by rw[<- e9]; exact bXY) (by decide);have bJ:=a35 h h' hJ hs;have s4:=(Hn.kG hJ wJ).1;obtain⟨z,Z,p,hzn,hZ,hI,wZ⟩:=VP (d:=s) (by omega) hn wJ bJ (by decide) (D:=9) (by decide) (by decide);have bZ0:Big z n Z (10^38):=λi hi x _=>Nat.le_trans (U7 (E:=10^9) (D:=9) hn (by omega) wJ (by rw[<- e9]; exact bJ) (by decide) (Nat.le_refl _) (by decide) hZ hI i hi x) p38
 obtain⟨t,S,g,_,hS,hI2,wS⟩:=VP (d:=z) (by omega) hn wZ bZ0 (Nat.pow_pos (by decide)) (D:=38) (Nat.le_refl _) (by decide);have hIX:kM n (d+d') (mA d C C') z Z:=hI.of_same hs.symm;obtain⟨k,F,B,hk,fm,_⟩:=h.fc;obtain⟨k',F',B',hk',fm',_⟩:=h'.fc;obtain⟨bZ,bS,hzt,hsp⟩:=aTT hn hk hk' fm fm' h.wc h'.wc hZ hIX hS hI2;have hzs:=aR2 hJ wJ hn bJ hZ hI;have hts:t=s:=by omega
 subst hts;have back:=kM.back wJ hI hI2;have e0:eqI 0 0=true:=by decide
 have e1:((ps.length:Nat):Int)=(n:Int):=by rw[h.len]
 have hsum:=a6Z hq hq' hn h.wc h'.wc h.bc h'.bc hJ hs bJ;have f1:=T1 h.pr h.len hn (Mr t n J) (by rw[eJ]; omega) aP0 (aXG bJ) hJ (aXM wJ) bJ hZ hI bZ hS hI2 bS;have f2:=T1 h.pr h.len hn (Mr d n C++Mr d' n C') (by rw[List.length_append,eJ,eJ]; omega) (λr hr=>by
  rcases List.mem_append.1 hr with g|g
  ·exact aP0 r g
  ·exact aP0 r g) (λr hr=>by
  rcases List.mem_append.1 hr with g|g
  ·exact aXG h.bc r g
  ·exact aXG h'.bc r g) hJ ((a5S h.wc h'.wc).trans hs) bJ hZ hI bZ hS hI2 bS
 have mem:∀ v,Sp (d+d') (mA d C C') v->Sp t S v:=λv hv=>(hI2 _).2 ⟨λx hx=>Sp.lM (λj hj=>wXY j hj x hx) hv,λx hx=>by
  rw[n7];exact((hIX _).1 (Sp.mem hx)).span hv⟩
 refine⟨t,z,S,Z,⟨h.pr,h.len,hn,⟨g,hS⟩,⟨p,hZ⟩,wS,wZ,bS,bZ,back,hI2⟩,?_,f2,λv hv=>mem v (KF hv),λv hv=>mem v (GJ hv),hsp,J,c,hJ,hs⟩;simp only[ED,jH,aE,e1,hsum,e0,Bool.not_true,oD,f1]
theorem a5A(h:RS ps n d r C K) (h':RS ps n d' r' C' K'):∃ t z I N,RT ps n t z I N/\(aC (nQ (((n:Int),Mr d n C),((n:Int),Mr d' n C'),())) λy4=>bif !(eqI y4.2.1 0) then some (([],([],[])),y4.2.1,()) else aC (dV (ps,y4.1.2,())) λy5=>some ((y5.1.1,(y5.1.2.1,y5.1.2.2)),y5.2.1,()))=some ((ps,(Mr t n I,Mr z n N)),0,()) /\
  (∀ v,Sp t I v↔Sp d C v/\Sp d' C' v)/\∃ s J c,Hn s J c/\Same (d+d') (mA d C C') s J/\s+t=d+d':=by
 have hn:=h.n4;obtain⟨q,hq⟩:=h.hc;obtain⟨q',hq'⟩:=h'.hc;obtain⟨p,hp⟩:=h.hk;obtain⟨p',hp'⟩:=h'.hk;have hd:=(Hn.kG hq h.wc).1;have hd':=(Hn.kG hq' h'.wc).1;have hr:=(Hn.kG hp h.wk).1;have hr':=(Hn.kG hp' h'.wk).1;have wXY:=h.wk.mA h'.wk;have bXY:=h.bk.mA h'.bk;obtain⟨t,I,c,htn,hI0,hI,wI0⟩:=VP (d:=r+r') (by omega) hn wXY bXY (by decide) (D:=9) (by decide) (by decide);have e9:(1000000000:Nat)=10^9:=by decide
 have bI0:Big t n I (10^38):=λi hi x _=>Nat.le_trans (U7 (E:=10^9) (D:=9) hn (by omega) wXY (by rw[<- e9]; exact bXY) (by decide) (Nat.le_refl _) (by decide) hI0 hI i hi x) p38
 obtain⟨z,N,g,_,hN,hI2,wN⟩:=VP (d:=t) (by omega) hn wI0 bI0 (Nat.pow_pos (by decide)) (D:=38) (Nat.le_refl _) (by decide);obtain⟨k,F,B,hk,fm⟩:=h.fk;obtain⟨k',F',B',hk',fm'⟩:=h'.fk;obtain⟨bI,bN,_,_⟩:=aTT hn hk hk' fm fm' h.wk h'.wk hI0 hI hN hI2;have hsp:∀ v,Sp t I v↔Sp d C v/\Sp d' C' v:=λv=>by
  rw[hI v,h.ker2 v,h'.ker2 v];constructor
  ·intro g;exact⟨⟨g.1,λx hx=>g.span (KF (Sp.mem hx))⟩,⟨g.1,λx hx=>g.span (GJ (Sp.mem hx))⟩⟩
  ·rintro⟨g1,g2⟩;refine⟨g1.1,λx hx=>?_⟩
   by_cases e:x<r
   ·rw[GA K K' e]; exact g1.2 x e
   ·have e':mA r K K' x=K' (x-r):=by simp[mA,e]
    rw[e']; exact g2.2 _ (by omega)
 have back:=kM.back wXY hI hI2;have main:nQ (((n:Int),Mr d n C),((n:Int),Mr d' n C'),())=some (((n:Int),Mr t n I),0,())/\∃ s J c',Hn s J c'/\Same (d+d') (mA d C C') s J/\s+t=d+d':=by
  by_cases h7:d+d'<=7
  ·exact aFA hq hq' hn h.wc h'.wc h.bc h'.bc (E:=gE 8748) h.c8 h'.c8 (a8M h7) hI0 hsp bI
  ·have a1:d=n:=by omega
   have a2:d'=n:=by omega
   subst a1;subst a2;have r0:r=0:=by have:=h.ne; omega
   have r0':r'=0:=by have:=h'.ne; omega
   exact aFA hq hq' hn h.wc h'.wc h.bc h'.bc (E:=gE 1) (aR7 hq h.wc r0 h.ker2) (aR7 hq' h'.wc r0' h'.ker2) (a8W (by omega)) hI0 hsp bI
 obtain⟨m1,m2⟩:=main;have e0:eqI 0 0=true:=by decide
 have f1:=T1 h.pr h.len hn (Mr t n I) (by rw[eJ]; omega) aP0 (aXG bI) hI0 (aXM wI0) bI hN hI2 bN hI0 back bI;refine⟨t,z,I,N,⟨h.pr,h.len,hn,⟨c,hI0⟩,⟨g,hN⟩,wI0,wN,bI,bN,hI2,back⟩,?_,hsp,m2⟩;simp only[m1,aE,e0,Bool.not_true,oD,f1]
end
theorem map_set(n t:Nat)(g z:Nat->Int):((List.range n).map (λi=>if i<t then g i else z i)).set t (g t)=(List.range n).map (λi=>if i<t+1 then g i else z i):=by
 refine List.ext_getElem (by simp) λi h1 h2=>?_
 rw[List.getElem_set];have hi:i<n:=by simpa using h2
 by_cases e:t=i
 ·subst e;have:t<t+1:=by omega
  simp[this]
 ·simp only[e,if_false,List.getElem_map,List.getElem_range]
  by_cases h:i<t
  ·have:i<t+1:=by omega
   simp only[h,this,if_true]
  ·have:¬ i<t+1:=by omega
   simp only[h,this,if_false]
section
variable {x0 x1 x2 x3:Int} {a1 b1 j1 m1:List Int} {a2 a3 b2 b3 j2 j3 m2 m3:List (List Int)}
theorem i8w {x:Int}(h : -128<=x/\x<128):IntKind.wrap .i64 x=x:=SE (by omega) (by omega)
theorem aS8(hx:I8 (x0,x1,x2,x3)){n:Nat}(hn:n<=4) :
  jF ((x0,(x1,(x2,x3))),(a1,(a2,a3)),(b1,(b2,b3)),(j1,(j2,j3)),(m1,(m2,m3)),List.replicate n 0,(n:Int),0,())=some ((x0,(x1,(x2,x3))),(a1,(a2,a3)),(b1,(b2,b3)),(j1,(j2,j3)),(m1,(m2,m3)),(List.range n).map (tV (x0,x1,x2,x3)),()):=by
 have w0:=i8w (hx 0 (by omega));have w1:=i8w (hx 1 (by omega));have w2:=i8w (hx 2 (by omega));have w3:=i8w (hx 3 (by omega));have key:=aV (step:=eZ) (N:=2^64) (λt=>((x0,(x1,(x2,x3))),(a1,(a2,a3)),(b1,(b2,b3)),(j1,(j2,j3)),(m1,(m2,m3)),(List.range n).map (λi=>if i<t then tV (x0,x1,x2,x3) i else 0),(n:Int),(t:Int),())) n
  ((x0,(x1,(x2,x3))),(a1,(a2,a3)),(b1,(b2,b3)),(j1,(j2,j3)),(m1,(m2,m3)),(List.range n).map (tV (x0,x1,x2,x3)),()) (by omega) (λt ht=>?_) ?_
 ·have e:List.replicate n (0:Int)=(List.range n).map (λi=>if i<0 then tV (x0,x1,x2,x3) i else 0):=by
   refine List.ext_getElem (by simp) λi h1 h2=>?_
   simp
  rw[e];exact key
 ·have e1:ltI (t:Int) (n:Int)=true:=by rw[aD]; exact oT (by omega)
  have e2:aF (t:Int) n=true:=by rw[aM]; exact oT (by omega)
  have e3:((t:Nat):Int).toNat=t:=oN _;have e4:Nat.blt t n=true:=by rw[cD]; exact oT ht
  have e5:=cC t (by omega);have el:((List.range n).map (λi=>if i<t then tV (x0,x1,x2,x3) i else 0)).length=n:=by simp
  have e6:=map_set n t (tV (x0,x1,x2,x3)) (λ_=>0);simp only[eZ,e1,el,e2,e3,e4,oC,e5];rcases(show t=0\/t=1\/t=2\/t=3 by omega)with rfl|rfl|rfl|rfl
  ·have t0:eqI (((0:Nat):Int).tmod 4) 0=true:=by decide
   have s0:tV (x0,x1,x2,x3) 0=x0:=rfl;rw[s0]at e6;simp only[t0,oC];show some (Sum.inl (_,_,_,_,_,List.set _ 0 (IntKind.wrap .i64 x0),_))=_;rw[show IntKind.wrap .i64 x0=x0 from w0,e6]
  ·have t0:eqI (((1:Nat):Int).tmod 4) 0=false:=by decide
   have t1:eqI (((1:Nat):Int).tmod 4) 1=true:=by decide
   have s0:tV (x0,x1,x2,x3) 1=x1:=rfl;rw[s0]at e6;simp only[t0,t1,oC,oD];show some (Sum.inl (_,_,_,_,_,List.set _ 1 (IntKind.wrap .i64 x1),_))=_;rw[show IntKind.wrap .i64 x1=x1 from w1,e6]
  ·have t0:eqI (((2:Nat):Int).tmod 4) 0=false:=by decide
   have t1:eqI (((2:Nat):Int).tmod 4) 1=false:=by decide
   have t2:eqI (((2:Nat):Int).tmod 4) 2=true:=by decide
   have s0:tV (x0,x1,x2,x3) 2=x2:=rfl;rw[s0]at e6;simp only[t0,t1,t2,oC,oD];show some (Sum.inl (_,_,_,_,_,List.set _ 2 (IntKind.wrap .i64 x2),_))=_;rw[show IntKind.wrap .i64 x2=x2 from w2,e6]
  ·have t0:eqI (((3:Nat):Int).tmod 4) 0=false:=by decide
   have t1:eqI (((3:Nat):Int).tmod 4) 1=false:=by decide
   have t2:eqI (((3:Nat):Int).tmod 4) 2=false:=by decide
   have t3:eqI (((3:Nat):Int).tmod 4) 3=true:=by decide
   have s0:tV (x0,x1,x2,x3) 3=x3:=rfl;rw[s0]at e6;simp only[t0,t1,t2,t3,oC,oD];show some (Sum.inl (_,_,_,_,_,List.set _ 3 (IntKind.wrap .i64 x3),_))=_;rw[show IntKind.wrap .i64 x3=x3 from w3,e6]
 ·have e1:ltI (n:Int) (n:Int)=false:=by rw[aD]; exact oF (by omega)
  have e6:(List.range n).map (λi=>if i<n then tV (x0,x1,x2,x3) i else 0)=(List.range n).map (tV (x0,x1,x2,x3)):=List.map_congr_left λi hi=>by
   have:=List.mem_range.1 hi;simp only[this,if_true]
  simp only[eZ,e1,oD,e6]
def yS(x:Int×Int×Int×Int) (C:Nat->V) (k i:Nat):Int:=sm (λl=>tV x l*C l i) k
theorem a3A {x:Int×Int×Int×Int}(hx:I8 x){n d:Nat}{C:Nat->V}(hC:Big d n C 8748)(hd:d<=4){k:Nat}(hk:k<=d){i:Nat}(hi:i<n):(yS x C k i).natAbs<=k*(128*8748):=by
 refine aU9 λl hl=>L3 ?_ (hC l (by omega) i hi)
 have:=hx l (by omega);omega
theorem aSR(hx:I8 (x0,x1,x2,x3)){n d k:Nat}{C:Nat->V}(hn:n<=4)(hC:Big d n C 8748)(hd:d<=4)(hk:k<d)(R:List (List Int))(v84 v85:Int) :
  jJ ((x0,(x1,(x2,x3))),(a1,(a2,a3)),(b1,(b2,b3)),(j1,(j2,j3)),(m1,(m2,m3)),(List.range n).map (yS (x0,x1,x2,x3) C k),(k:Int),Vr n (C k),R,v84,v85,(n:Int),0,())=some ((x0,(x1,(x2,x3))),(a1,(a2,a3)),(b1,(b2,b3)),(j1,(j2,j3)),(m1,(m2,m3)),(List.range n).map (yS (x0,x1,x2,x3) C (k+1)),R,v84,v85,()):=by
 have w0:=i8w (hx 0 (by omega));have w1:=i8w (hx 1 (by omega));have w2:=i8w (hx 2 (by omega));have w3:=i8w (hx 3 (by omega));have key:=aV (step:=eX) (N:=2^64) (λt=>((x0,(x1,(x2,x3))),(a1,(a2,a3)),(b1,(b2,b3)),(j1,(j2,j3)),(m1,(m2,m3)),(List.range n).map (λi=>if i<t then yS (x0,x1,x2,x3) C (k+1) i else yS (x0,x1,x2,x3) C k i),(k:Int),Vr n (C k),R,v84,v85,(n:Int),(t:Int),())) n
  ((x0,(x1,(x2,x3))),(a1,(a2,a3)),(b1,(b2,b3)),(j1,(j2,j3)),(m1,(m2,m3)),(List.range n).map (yS (x0,x1,x2,x3) C (k+1)),R,v84,v85,()) (by omega) (λt ht=>?_) ?_
 ·have e:(List.range n).map (yS (x0,x1,x2,x3) C k)=(List.range n).map (λi=>if i<0 then yS (x0,x1,x2,x3) C (k+1) i else yS (x0,x1,x2,x3) C k i):=by
   refine List.map_congr_left λi _=>?_
   simp
  rw[e];exact key
 ·have e1:ltI (t:Int) (n:Int)=true:=by rw[aD]; exact oT (by omega)
  have e2:aF (t:Int) n=true:=by rw[aM]; exact oT (by omega)
  have e3:((t:Nat):Int).toNat=t:=oN _;have e4:Nat.blt t n=true:=by rw[cD]; exact oT ht
  have e5:=cC t (by omega);have el:((List.range n).map (λi=>if i<t then yS (x0,x1,x2,x3) C (k+1) i else yS (x0,x1,x2,x3) C k i)).length=n:=by simp
  have eg:((List.range n).map (λi=>if i<t then yS (x0,x1,x2,x3) C (k+1) i else yS (x0,x1,x2,x3) C k i)).getD t 0=yS (x0,x1,x2,x3) C k t:=by
   have:¬ t<t:=by omega
   simp[List.getD,ht,this]
  have ev:=vU n (C k);have evg:=aG2 (C k) ht;have e6:=map_set n t (yS (x0,x1,x2,x3) C (k+1)) (yS (x0,x1,x2,x3) C k);have bk:=a3A hx hC hd (show k<=d by omega) ht;have bk1:=a3A hx hC hd (show k+1<=d by omega) ht;have es:yS (x0,x1,x2,x3) C (k+1) t=yS (x0,x1,x2,x3) C k t+tV (x0,x1,x2,x3) k*C k t:=rfl;have bm:(tV (x0,x1,x2,x3) k*C k t).natAbs<=128*8748:=L3 (by have:=hx k (by omega); omega) (hC k hk t ht)
  have ew:aB .i64 (tV (x0,x1,x2,x3) k*C k t)=tV (x0,x1,x2,x3) k*C k t:=wrap64 (by omega) (by omega);have ew2:aB .i64 (yS (x0,x1,x2,x3) C k t+tV (x0,x1,x2,x3) k*C k t)=yS (x0,x1,x2,x3) C (k+1) t:=by rw[wrap64 (by omega) (by omega),es]
  simp only[eX,e1,el,e2,e3,e4,oC,e5,eg,ev,evg];rcases(show k=0\/k=1\/k=2\/k=3 by omega)with rfl|rfl|rfl|rfl
  ·have t0:eqI (((0:Nat):Int).tmod 4) 0=true:=by decide
   have s0:tV (x0,x1,x2,x3) 0=x0:=rfl;rw[s0]at ew ew2;simp only[t0,oC,show IntKind.wrap .i64 x0=x0 from w0,ew,ew2,e6]
  ·have t0:eqI (((1:Nat):Int).tmod 4) 0=false:=by decide
   have t1:eqI (((1:Nat):Int).tmod 4) 1=true:=by decide
   have s0:tV (x0,x1,x2,x3) 1=x1:=rfl;rw[s0]at ew ew2;simp only[t0,t1,oC,oD,show IntKind.wrap .i64 x1=x1 from w1,ew,ew2,e6]
  ·have t0:eqI (((2:Nat):Int).tmod 4) 0=false:=by decide
   have t1:eqI (((2:Nat):Int).tmod 4) 1=false:=by decide
   have t2:eqI (((2:Nat):Int).tmod 4) 2=true:=by decide
   have s0:tV (x0,x1,x2,x3) 2=x2:=rfl;rw[s0]at ew ew2;simp only[t0,t1,t2,oC,oD,show IntKind.wrap .i64 x2=x2 from w2,ew,ew2,e6]
  ·have t0:eqI (((3:Nat):Int).tmod 4) 0=false:=by decide
   have t1:eqI (((3:Nat):Int).tmod 4) 1=false:=by decide
   have t2:eqI (((3:Nat):Int).tmod 4) 2=false:=by decide
   have t3:eqI (((3:Nat):Int).tmod 4) 3=true:=by decide
   have s0:tV (x0,x1,x2,x3) 3=x3:=rfl;rw[s0]at ew ew2;simp only[t0,t1,t2,t3,oC,oD,show IntKind.wrap .i64 x3=x3 from w3,ew,ew2,e6]
 ·have e1:ltI (n:Int) (n:Int)=false:=by rw[aD]; exact oF (by omega)
  have e6:(List.range n).map (λi=>if i<n then yS (x0,x1,x2,x3) C (k+1) i else yS (x0,x1,x2,x3) C k i)=(List.range n).map (yS (x0,x1,x2,x3) C (k+1)):=List.map_congr_left λi hi=>by
   have:=List.mem_range.1 hi;simp only[this,if_true]
  simp only[eX,e1,oD,e6]
theorem aT8(hx:I8 (x0,x1,x2,x3)){n d:Nat}{C:Nat->V}(hn:n<=4)(hC:Big d n C 8748)(hd:d<=4) :
  jO ((x0,(x1,(x2,x3))),(a1,(a2,a3)),(b1,(b2,b3)),(j1,(j2,j3)),(m1,(m2,m3)),List.replicate n 0,Mr d n C,(d:Int),0,())=some ((a1,(a2,a3)),(b1,(b2,b3)),(j1,(j2,j3)),(m1,(m2,m3)),(List.range n).map (yS (x0,x1,x2,x3) C d),()):=by
 have key:=aV (step:=eY) (N:=2^64) (λt=>((x0,(x1,(x2,x3))),(a1,(a2,a3)),(b1,(b2,b3)),(j1,(j2,j3)),(m1,(m2,m3)),(List.range n).map (yS (x0,x1,x2,x3) C t),Mr d n C,(d:Int),(t:Int),())) d
  ((a1,(a2,a3)),(b1,(b2,b3)),(j1,(j2,j3)),(m1,(m2,m3)),(List.range n).map (yS (x0,x1,x2,x3) C d),()) (by omega) (λt ht=>?_) ?_
 ·have e:List.replicate n (0:Int)=(List.range n).map (yS (x0,x1,x2,x3) C 0):=by
   refine List.ext_getElem (by simp) λi h1 h2=>?_
   simp[yS,sm]
  rw[e];exact key
 ·have e1:ltI (t:Int) (d:Int)=true:=by rw[aD]; exact oT (by omega)
  have e2:aF (t:Int) d=true:=by rw[aM]; exact oT (by omega)
  have e3:((t:Nat):Int).toNat=t:=oN _;have e5:=cC t (by omega);have el:((List.range n).map (yS (x0,x1,x2,x3) C t)).length=n:=by simp
  have l1:=aSR (a1:=a1) (a2:=a2) (a3:=a3) (b1:=b1) (b2:=b2) (b3:=b3) (j1:=j1) (j2:=j2) (j3:=j3) (m1:=m1) (m2:=m2) (m3:=m3) hx hn hC hd ht (Mr d n C) (d:Int) (t:Int);simp only[eY,e1,eJ,e2,e3,Z8 C ht,el,l1,aE,e5,oC]
 ·have e1:ltI (d:Int) (d:Int)=false:=by rw[aD]; exact oF (by omega)
  simp only[eY,e1,oD]
end
section
variable {ps:List Int} {n d r d' r':Nat} {C K C' K':Nat->V}
theorem aU5(h:RS ps n d r C K) (h':RS ps n d' r' C' K') (x:(Int×List (Int×Int×Int×Int)×Bool)×(Int×List (Int×Int×Int×Int)×Bool)×Bool) (v:Int×Int×Int×Int) (hv:I8 v)
  (hf:uH (x,())=some (true,())) (hm:BC ((x.1,x.2.1,true),())=some ((ps,(Mr d n C,Mr r n K)),(ps,(Mr d' n C',Mr r' n K')),())):dO (x,v,())=some (true,()):=by
 obtain⟨⟨a1,a2,a3⟩,⟨b1,b2,b3⟩,b4⟩:=x;obtain⟨x0,x1,x2,x3⟩:=v;have e0:eqI 0 0=true:=by decide
 have e4:eqI 0 4=false:=by decide
 have kn:gU (())=some (true,()):=rfl;obtain⟨q,hq⟩:=h.hc;have n4:=h.n4;have d4:d<=4:=Nat.le_trans (Hn.kG hq h.wc).1 n4;obtain⟨t,z,S,Z,j1,j2,j3,jc,jc',_,J,c,j5,j6⟩:=a4Y h h';obtain⟨u,y,I,N,m1,m2,m3,_⟩:=a5A h h';have e1:((ps.length:Nat):Int)=(n:Int):=by rw[h.len]
 have pc:=aVR h.toRT h'.toRT;rw[if_pos rfl]at pc;have hJ:tW ((ps,(Mr d n C,Mr r n K)),(ps,(Mr d' n C',Mr r' n K')),())=some ((ps,(Mr t n S,Mr z n Z)),0,()):=by simp only[tW,pc,aE,e0,Bool.not_true,oD,j2]
 have hM:tX ((ps,(Mr d n C,Mr r n K)),(ps,(Mr d' n C',Mr r' n K')),())=some ((ps,(Mr u n I,Mr y n N)),0,()):=by
  simp only[tX,pc,aE,e0,Bool.not_true,oD,jH,e1];exact m2
 have l0:=aS8 (a1:=ps) (a2:=Mr d n C) (a3:=Mr r n K) (b1:=ps) (b2:=Mr d' n C') (b3:=Mr r' n K') (j1:=ps) (j2:=Mr t n S) (j3:=Mr z n Z) (m1:=ps) (m2:=Mr u n I) (m3:=Mr y n N) hv n4;have l2:=aT8 (a1:=ps) (a2:=Mr d n C) (a3:=Mr r n K) (b1:=ps) (b2:=Mr d' n C') (b3:=Mr r' n K') (j1:=ps) (j2:=Mr t n S) (j3:=Mr z n Z) (m1:=ps) (m2:=Mr u n I) (m3:=Mr y n N) hv n4 h.c8 d4;have c1:ltI (n:Int) 0=false:=by rw[aD]; exact oF (by omega)
 have c2:ltI (n:Int) (n:Int)=false:=by rw[aD]; exact oF (by omega)
 have c3:ltI 1048576 (n:Int)=false:=by rw[aD]; exact oF (by omega)
 have c4:((n:Nat):Int).toNat=n:=oN _;have c5:(List.replicate n (0:Int)).length=n:=by simp
 have c6:((Mr d n C).length:Int)=(d:Int):=by rw[eJ]
 -- what is tempered out
 have tm:∀ w:List Int,w.length=n->(∀ a∈w,a.natAbs<=1000000000)->∃ one two out:Bool,bE ((ps,(Mr d n C,Mr r n K)),w,())=some (one,0,())/\bE ((ps,(Mr d' n C',Mr r' n K')),w,())=some (two,0,())/\bE ((ps,(Mr u n I,Mr y n N)),w,())=some (one&&two,0,())/\bE ((ps,(Mr t n S,Mr z n Z)),w,())=some (out,0,())/\(one=true->out=true)/\(two=true->out=true):=λw hl hw=>by
  obtain⟨one,p1,q1⟩:=KU h.toRT w hl hw;obtain⟨two,p2,q2⟩:=KU h'.toRT w hl hw;obtain⟨in_,p3,q3⟩:=KU m1 w hl hw;obtain⟨out,p4,q4⟩:=KU j1 w hl hw;have hin:in_=(one&&two):=by
   refine Bool.eq_iff_iff.2 ?_;rw[oA,q1,q2,q3];exact m3 _
  subst hin;exact⟨one,two,out,p1,p2,p3,p4,λg=>q4.2 (jc _ (q1.1 g)),λg=>q4.2 (jc' _ (q2.1 g))⟩
 by_cases hz:eqI (x0.tmod 2) 0=true
 ·obtain⟨one,two,out,t1,t2,t3,t4,t5,t6⟩:=tm ((List.range n).map (yS (x0,x1,x2,x3) C d)) (by simp) λa ha=>by
   obtain⟨i,hi,rfl⟩:=List.mem_map.1 ha;have:=a3A hv h.c8 d4 (Nat.le_refl d) (List.mem_range.1 hi);have:d*(128*8748)<=4*(128*8748):=Nat.mul_le_mul_right _ d4;omega
  simp only[dO,kn,aE,oC,hf,hm,hJ,hM,e0,Bool.not_true,Bool.not_false,oD,e1,c1,c2,c3,c4,c5,l0,hz,c6,l2,t1,t2,t3,t4,e4];cases one <;> cases two <;> cases out <;> first|rfl|(exact absurd (t5 rfl) (by decide))|(exact absurd (t6 rfl) (by decide))
 ·have hz:eqI (x0.tmod 2) 0=false:=by simpa using hz
  obtain⟨one,two,out,t1,t2,t3,t4,t5,t6⟩:=tm ((List.range n).map (tV (x0,x1,x2,x3))) (by simp) λa ha=>by
   obtain⟨i,hi,rfl⟩:=List.mem_map.1 ha;have:=List.mem_range.1 hi;have:=hv i (by omega);omega
  simp only[dO,kn,aE,oC,hf,hm,hJ,hM,e0,Bool.not_true,Bool.not_false,oD,e1,c1,c2,c3,c4,c5,l0,hz,t1,t2,t3,t4,e4];cases one <;> cases two <;> cases out <;> first|rfl|(exact absurd (t5 rfl) (by decide))|(exact absurd (t6 rfl) (by decide))
end
theorem aYO(a b:Int×List (Int×Int×Int×Int)×Bool)(al:Bool):uH ((a,b,al),())=some (decide (a.2.1.length<=3)&&decide (b.2.1.length<=3),()):=by
 obtain⟨a1,a2,a3⟩:=a;obtain⟨b1,b2,b3⟩:=b;have fa:=a1R (a1,a2,a3);have fb:=a1R (b1,b2,b3);simp only[uH,fa,fb,aE];cases decide (a2.length<=3) <;> cases decide (b2.length<=3) <;> rfl
theorem aU6(x:(Int×List (Int×Int×Int×Int)×Bool)×(Int×List (Int×Int×Int×Int)×Bool)×Bool)(v:Int×Int×Int×Int)(hA:aU1 x.1)(hB:aU1 x.2.1)(hv:I8 v):dO (x,v,())=some (true,()):=by
 obtain⟨⟨a1,a2,a3⟩,⟨b1,b2,b3⟩,al⟩:=x;have kn:gU (())=some (true,()):=rfl;have hf:=aYO (a1,a2,a3) (b1,b2,b3) al
 by_cases ha:a2.length<=3
 ·by_cases hb:b2.length<=3
  ·rw[oT ha,oT hb]at hf;obtain⟨d,r,C,K,m1,h1⟩:=aXV a1 hA.1.1 hA.1.2 a2 ha hA.2 a3;obtain⟨d',r',C',K',m2,h2⟩:=aXV a1 hA.1.1 hA.1.2 b2 hb hB.2 b3;exact aU5 h1 h2 ((a1,a2,a3),(b1,b2,b3),al) v hv hf (by simp only[BC,oC,m1,m2,aE])
  ·rw[oT ha,oF hb]at hf;simp only[Bool.true_and,Bool.and_false]at hf;simp only[dO,kn,aE,oC,hf,oD]
 ·rw[oF ha]at hf;simp only[Bool.false_and]at hf;simp only[dO,kn,aE,oC,hf,oD]
theorem a8N {v:Int×Int×Int×Int}(h:WF (.prod (.int .i8) (.prod (.int .i8) (.prod (.int .i8) (.int .i8)))) v):I8 v:=λi hi=>by
 obtain⟨a1,a2,a3,a4⟩:=h;rcases(show i=0\/i=1\/i=2\/i=3 by omega)with rfl|rfl|rfl|rfl
 ·exact wf_i8 a1
 ·exact wf_i8 a2
 ·exact wf_i8 a3
 ·exact wf_i8 a4
end Go.PM
