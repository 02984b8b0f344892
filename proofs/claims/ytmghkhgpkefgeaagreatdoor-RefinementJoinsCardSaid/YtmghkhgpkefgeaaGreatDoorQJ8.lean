/- Texts of one proof, joined (8). -/
import Derived.WalkKit
import Derived.Lib.Walk
import Derived.Lib.SliceRun
import Derived.Deep.Upon
import Derived.Test.YtmghkhgpkefgeaaGreatDoorQJ7
set_option linter.unusedSimpArgs false
set_option linter.unusedVariables false
set_option maxRecDepth 100000
noncomputable section
namespace Go.Lz
theorem aUP(a b:V):∀ n,sm (λx=>a x*b x) n=dot n a b
 | 0=>rfl
 | n+1=>by
  show sm _ n+_=dot n a b+_;rw[aUP a b n]
theorem KG(x:Nat):un x x=1:=by simp[un]
theorem GU {x c:Nat}(h:c≠x):un x c=0:=by simp[un,h]
theorem a3O(x c:Nat):un x c=un c x:=by
 by_cases h:c=x
 ·subst h; rfl
 ·rw[GU h,GU (Ne.symm h)]
theorem a4I {n:Nat}{v:V}(h:∀ x,n<=x->v x=0):Sp n un v:=by
 have:=Sp.sm (k:=n) (M:=un) (w:=un) (s:=v) (n:=n) λj hj=>Sp.mem hj
 refine cast (congrArg _ ?_) this
 funext x
 by_cases hx:x<n
 ·rw[R0 hx λi hi hne=>by rw[GU (Ne.symm hne),Int.mul_zero],KG,Int.mul_one]
 ·rw[h x (by omega),KI λi hi=>by rw[GU (by omega),Int.mul_zero]]
theorem a5K(n:Nat):Ind n un:=λc hc i hi=>by
 have:=hc i;rw[R0 hi λl hl hne=>by rw[GU (Ne.symm hne),Int.mul_zero],KG,Int.mul_one]at this;exact this
theorem aSH {v:V}:∀ {n:Nat},0<=dot n v v/\(dot n v v=0->∀ x,x<n->v x=0)
 | 0=>⟨Int.le_refl _,λ_ x hx=>by omega⟩
 | n+1=>by
  have h1:=aSH (v:=v) (n:=n);have h2:0<=v n*v n:=by
   rcases(by omega:0<=v n\/v n<=0)with g|g
   ·exact Int.mul_nonneg g g
   ·exact Int.mul_nonneg_of_nonpos_of_nonpos g g
  refine⟨by show 0<=dot n v v+v n*v n; omega,λh x hx=>?_⟩;have h:dot n v v+v n*v n=0:=h
  by_cases e:x=n
  ·subst e;have:v x*v x=0:=by omega
   rcases Int.mul_eq_zero.1 this with g|g <;> exact g
  ·exact h1.2 (by omega) x (by omega)
def lW(k:Nat) (M M':Nat->V):Nat->V:=λi=>if i<k then M i else M' (i-k)
theorem FX {k i:Nat}(M M':Nat->V)(h:i<k):lW k M M' i=M i:=by simp[lW,h]
theorem aN9 {k i:Nat}(M M':Nat->V):lW k M M' (k+i)=M' i:=by
 have:¬ k+i<k:=by omega
 simp only[lW,this,if_false]
 congr 1; omega
theorem JW {k k':Nat}{M M':Nat->V}{v:V}(h:Sp k M v):Sp (k+k') (lW k M M') v :=
 Sp.trans (λj hj=>by rw[<- FX M M' hj]; exact Sp.mem (by omega)) h
theorem GI {k k':Nat}{M M':Nat->V}{v:V}(h:Sp k' M' v):Sp (k+k') (lW k M M') v :=
 Sp.trans (λj hj=>by rw[<- aN9 M M']; exact Sp.mem (by omega)) h
theorem aN0(f:Nat->Int)(k:Nat):∀ k',sm f (k+k')=sm f k+sm (λi=>f (k+i)) k'
 | 0=>by simp[sm]
 | k'+1=>by
  show sm f (k+k')+f (k+k')=_;rw[aN0 f k k',sm]; omega
theorem aB4 {k k':Nat}{M M':Nat->V}{v:V}(h:Sp (k+k') (lW k M M') v):∃ a b,Sp k M a/\Sp k' M' b/\v=λx=>a x+b x:=by
 induction h with
 | zero=>exact⟨_,_,.zero,.zero,by funext x; simp⟩
 | add j t hj _ ih =>
  obtain⟨a,b,ha,hb,rfl⟩:=ih
  by_cases hk:j<k
  ·refine⟨_,b,Sp.comb t ha (Sp.mem hk),hb,?_⟩
   funext x
   rw[FX M M' hk];show a x+b x+t*M j x=a x+t*M j x+b x;omega
  ·refine⟨a,_,ha,Sp.comb t hb (Sp.mem (j:=j-k) (by omega)),?_⟩
   funext x
   have:lW k M M' j=M' (j-k):=by simp[lW,hk]
   rw[this];show a x+b x+t*M' (j-k) x=a x+(b x+t*M' (j-k) x);omega
structure Dw (n k:Nat) (M:Nat->V) (d:Nat) (p:Nat->Nat) (D:Int) (w:Nat->V) (W:Nat):Prop where
 D0:D≠0
 DW:D.natAbs<=W
 mem:∀ j,j<d->Sp k M (w j)
 at_:∀ j,j<d->w j (p j)=D
 off:∀ i j,i<d->j<d->i≠j->w j (p i)=0
 le:∀ j,j<d->∀ x,(w j x).natAbs<=W
 lt:∀ j,j<d->p j<n
 wide:∀ i,i<k->∀ x,n<=x->M i x=0
 full:∀ v,Sp k M v->(∀ l,l<d->v (p l)=0)->v=λ_=>0
theorem Dw.of {n k d W:Nat} {M:Nat->V} {p:Nat->Nat} (h:∃ (D:Int) (w:Nat->V),D≠0/\D.natAbs<=W/\∀ j,j<d->Sp k M (w j)/\w j (p j)=D/\(∀ i,i<d->i≠j->w j (p i)=0)/\∀ x,(w j x).natAbs<=W)
  (lt:∀ j,j<d->p j<n) (wide:∀ i,i<k->∀ x,n<=x->M i x=0) (full:∀ v,Sp k M v->(∀ l,l<d->v (p l)=0)->v=λ_=>0):∃ D w,Dw n k M d p D w W:=by
 obtain⟨D,w,h1,h2,h3⟩:=h;exact⟨D,w,h1,h2,λj hj=>(h3 j hj).1,λj hj=>(h3 j hj).2.1,λi j hi hj hne=>(h3 j hj).2.2.1 i hi hne,λj hj=>(h3 j hj).2.2.2,lt,wide,full⟩
def kx(D:Int) (w:Nat->V) (d:Nat) (p:Nat->Nat) (x:Nat):V:=λc=>sm (λj=>-(w j x)*un (p j) c) d+D*un x c
section
variable {n k d W:Nat} {M:Nat->V} {p:Nat->Nat} {D:Int} {w:Nat->V}
theorem Dw.inj (h:Dw n k M d p D w W){i j:Nat}(hi:i<d)(hj:j<d)(e:p i=p j):i=j :=
 Classical.byContradiction λhn=>h.D0 (by rw[<- h.at_ j hj,<- e]; exact h.off i j hi hj hn)
theorem Dw.comb (h:Dw n k M d p D w W){b:V}(hb:Sp k M b)(x:Nat):D*b x=sm (λj=>b (p j)*w j x) d:=by
 have hz:=h.full (λy=>D*b y-sm (λj=>b (p j)*w j y) d) (Sp.sub (Sp.smul D hb) (Sp.sm λj hj=>h.mem j hj)) λl hl=>by
  rw[R0 (f:=λj=>b (p j)*w j (p l)) hl λj hj hne=>by rw[h.off l j hl hj (Ne.symm hne),Int.mul_zero],h.at_ l hl];grind
 have:=congrFun hz x;have:D*b x-sm (λj=>b (p j)*w j x) d=0:=this;omega
theorem Dw.a5E (h:Dw n k M d p D w W){x:Nat}(hx:x<n)(b:V):dot n (kx D w d p x) b=D*b x-sm (λj=>b (p j)*w j x) d:=by
 show dot n (λc=>sm (λj=>-(w j x)*un (p j) c) d+D*un x c) b=_;rw[vY,aOM,(aA5 b).1 hx];have:sm (λj=>-(w j x)*dot n (un (p j)) b) d = -(sm (λj=>b (p j)*w j x) d):=by
  rw[<- Int.neg_one_mul,<- aN7];refine wE λj hj=>?_
  rw[(aA5 b).1 (h.lt j hj)];grind
 rw[this];omega
theorem Dw.aUC (h:Dw n k M d p D w W){x:Nat}(hx:x<n):Ker n k M (kx D w d p x):=by
 refine⟨λc hc=>?_,λi hi=>?_⟩
 ·show sm (λj=>-(w j x)*un (p j) c) d+D*un x c=0;rw[KI λj hj=>by rw[GU (by have:=h.lt j hj; omega),Int.mul_zero],GU (by omega),Int.mul_zero];rfl
 ·rw[h.a5E hx,h.comb (Sp.mem hi) x]; omega
theorem Dw.aN4 (h:Dw n k M d p D w W){x c:Nat}(hc:∀ j,j<d->p j≠c):kx D w d p x c=D*un x c:=by
 show sm (λj=>-(w j x)*un (p j) c) d+D*un x c=_;rw[KI λj hj=>by rw[GU (Ne.symm (hc j hj)),Int.mul_zero],Int.zero_add]
theorem Dw.a4R (h:Dw n k M d p D w W){x j:Nat}(hj:j<d):kx D w d p x (p j) = -(w j x)+D*un x (p j):=by
 show sm (λj'=>-(w j' x)*un (p j') (p j)) d+D*un x (p j)=_;rw[R0 hj λl hl hne=>by rw[GU (λe=>hne (h.inj hl hj e.symm)),Int.mul_zero],KG,Int.mul_one]
theorem Dw.aZS (h:Dw n k M d p D w W){i:Nat}(hi:i<d)(c:Nat):kx D w d p (p i) c=0:=by
 by_cases hc:∃ j,j<d/\p j=c
 ·obtain⟨j,hj,rfl⟩:=hc;rw[h.a4R hj]
  by_cases e:i=j
  ·subst e;rw[h.at_ i hi,KG]; omega
  ·rw[h.off i j hi hj e,GU (λe'=>e (h.inj hi hj e'.symm))]; omega
 ·have hc:∀ j,j<d->p j≠c:=λj hj e=>hc ⟨j,hj,e⟩
  rw[h.aN4 hc,GU (Ne.symm (hc i hi)),Int.mul_zero]
theorem Dw.a4J (h:Dw n k M d p D w W)(x c:Nat):(kx D w d p x c).natAbs<=W:=by
 by_cases hp:∃ i,i<d/\p i=x
 ·obtain⟨i,hi,rfl⟩:=hp;rw[h.aZS hi]; simp
 ·have hp:∀ i,i<d->p i≠x:=λi hi e=>hp ⟨i,hi,e⟩
  by_cases hc:∃ j,j<d/\p j=c
  ·obtain⟨j,hj,rfl⟩:=hc;rw[h.a4R hj,GU (hp j hj)];have:=h.le j hj x;omega
  ·have hc:∀ j,j<d->p j≠c:=λj hj e=>hc ⟨j,hj,e⟩
   rw[h.aN4 hc];have:=h.DW
   by_cases e:c=x
   ·subst e; rw[KG]; omega
   ·rw[GU e]; omega
theorem Dw.a2L (h:Dw n k M d p D w W){y:V}(hy:Ker n k M y):Sp n (kx D w d p) (λc=>D*y c):=by
 have:=Sp.sm (k:=n) (M:=kx D w d p) (w:=kx D w d p) (s:=y) (n:=n) λj hj=>Sp.mem hj
 refine cast (congrArg _ ?_) this
 funext c
 have e1:sm (λx=>y x*kx D w d p x c) n=dot n (λx=>sm (λj=>-(un (p j) c)*w j x) d+D*un c x) y:=by
  rw[nI,<- aUP];refine wE λx _=>?_
  congr 1
  show sm (λj=>-(w j x)*un (p j) c) d+D*un x c=_;rw[a3O x c]
  congr 1
  exact wE λj _=>by grind
 rw[e1,vY,aOM,KI λj hj=>by rw[nI,hy.span (h.mem j hj),Int.mul_zero]]
 by_cases hc:c<n
 ·rw[(aA5 y).1 hc]; omega
 ·rw[(aA5 y).2 (by omega),hy.1 c (by omega)]; omega
theorem Dw.aC1 (h:Dw n k M d p D w W) {t:Nat} {K:Nat->V} (hK:Ind t K) (hI:jX n k M t K):t+d=n:=by
 have h1:n<=t+d:=by
  refine Ind.aC1 (M:=lW t K λj=>un (p j)) (a5K n) λx hx=>⟨D,h.D0,?_⟩
  have a1:=JW (k':=d) (M':=λj=>un (p j)) ((hI _).2 (h.aUC hx));have a2:=GI (k:=t) (M:=K) (Sp.sm (k:=d) (M:=λj=>un (p j)) (w:=λj=>un (p j)) (s:=λj=>w j x) (n:=d) λj hj=>Sp.mem hj);have:=Sp.sum a1 a2;refine cast (congrArg _ ?_) this
  funext c
  show (sm (λj=>-(w j x)*un (p j) c) d+D*un x c)+_=_;have e:sm (λj=>-(w j x)*un (p j) c) d = -(sm (λj=>w j x*un (p j) c) d):=by
   rw[<- Int.neg_one_mul,<- aN7];exact wE λj _=>by grind
  rw[e]; omega
 have h2:t+d<=n:=by
  have hi:Ind (t+d) (lW t K w):=λc hc=>by
   have e1:∀ x,sm (λi=>c i*K i x) t+sm (λj=>c (t+j)*w j x) d=0:=λx=>by
    have:=hc x;rw[aN0]at this;rw[<- this]
    congr 1
    ·exact wE λi hi=>by rw[FX K w hi]
    ·exact wE λi hi=>by simp only[aN9 K w]
   have s1:Sp t K (λx=>sm (λi=>c i*K i x) t):=Sp.sm λj hj=>Sp.mem hj
   have s2:Sp k M (λx=>sm (λj=>c (t+j)*w j x) d):=Sp.sm λj hj=>h.mem j hj
   have s3:(λx=>sm (λi=>c i*K i x) t)=λx=>-(sm (λj=>c (t+j)*w j x) d):=by funext x; have:=e1 x; omega
   have s4:=((hI _).1 s1);have s5:=s4.span s2;rw[s3]at s5;have s6:dot n (λx=>sm (λj=>c (t+j)*w j x) d) (λx=>sm (λj=>c (t+j)*w j x) d)=0:=by
    have:=vY (λ_=>0) (λx=>sm (λj=>c (t+j)*w j x) d) (λx=>sm (λj=>c (t+j)*w j x) d) (-1) n;rw[HW]at this;have e:(λi=>(0:Int) + -1*sm (λj=>c (t+j)*w j i) d)=λx=>-(sm (λj=>c (t+j)*w j x) d):=by funext x; omega
    rw[e,s5]at this;omega
   have s7:=aSH.2 s6;have s8:∀ x,sm (λj=>c (t+j)*w j x) d=0:=λx=>by
    rcases Nat.lt_or_ge x n with hx|hx
    ·exact s7 x hx
    ·exact Sp.lC (λj hj=>h.wide j hj x hx) s2
   intro i hi
   by_cases hit:i<t
   ·exact hK c (λx=>by have:=e1 x; have:=s8 x; omega) i hit
   ·have:=s8 (p (i-t));rw[R0 (j:=i-t) (by omega) λl hl hne=>by rw[h.off (i-t) l (by omega) hl (Ne.symm hne),Int.mul_zero],h.at_ _ (by omega)]at this;have e:t+(i-t)=i:=by omega
    rw[e]at this;rcases Int.mul_eq_zero.1 this with g|g
    ·exact g
    ·exact absurd g h.D0
  refine Ind.aC1 (M:=un) hi λi hi=>⟨1,by decide,?_⟩
  simp only[Int.one_mul];refine a4I λx hx=>?_
  by_cases hit:i<t
  ·rw[FX K w hit]; exact hI.width hit x hx
  ·have e:i=t+(i-t):=by omega
   rw[e,aN9 K w];exact Sp.lC (λj hj=>h.wide j hj x hx) (h.mem _ (by omega))
 omega
end
theorem aV0:∀ (n t:Nat) (c:Nat->Nat),(∀ i j,i<j->j<t->c i<c j)->(∀ i,i<t->c i<n)->t<=n/\∃ q:Nat->Nat,(∀ l,l<n-t->q l<n/\∀ i,i<t->c i≠q l)/\(∀ x,x<n->(∃ i,i<t/\c i=x)\/∃ l,l<n-t/\q l=x)/\∀ l m,l<m->m<n-t->q l<q m
 | 0,t,c,h1,h2=>by
  have:t=0:=by
   rcases Nat.eq_zero_or_pos t with h|h
   ·exact h
   ·have:=h2 0 h; omega
  subst this;exact⟨Nat.le_refl _,λ_=>0,λl hl=>by omega,λx hx=>by omega,λl m h1 h2=>by omega⟩
 | n+1,t,c,h1,h2=>by
  by_cases hc:∃ i,i<t/\c i=n
  ·obtain⟨i,hi,hn⟩:=hc;have hit:i=t-1:=by
    rcases Nat.lt_or_ge i (t-1)with g|g
    ·have a1:=h1 i (t-1) g (by omega);have a2:=h2 (t-1) (by omega);omega
    ·omega
   obtain⟨b0,q,b1,b2,b3⟩:=aV0 n (t-1) c (λa b hab hb=>h1 a b hab (by omega)) λa ha=>by
    have:=h1 a i (by omega) hi;omega
   have e:n+1-t=n-(t-1):=by omega
   refine⟨by omega,q,λl hl=>⟨by have:=(b1 l (by omega)).1; omega,λa ha=>?_⟩,λx hx=>?_,λl m g1 g2=>b3 l m g1 (by omega)⟩
   ·by_cases ea:a=i
    ·subst ea;have:=(b1 l (by omega)).1;omega
    ·exact(b1 l (by omega)).2 a (by omega)
   ·by_cases ex:x=n
    ·exact .inl ⟨i,hi,by omega⟩
    ·rcases b2 x (by omega)with ⟨a,g1,g2⟩|⟨l,g1,g2⟩
     ·exact .inl ⟨a,by omega,g2⟩
     ·exact .inr ⟨l,by omega,g2⟩
  ·have hc:∀ i,i<t->c i≠n:=λi hi e=>hc ⟨i,hi,e⟩
   obtain⟨b0,q,b1,b2,b3⟩:=aV0 n t c h1 λa ha=>by
    have:=h2 a ha;have:=hc a ha;omega
   refine⟨by omega,λl=>if l<n-t then q l else n,λl hl=>?_,λx hx=>?_,λl m g1 g2=>?_⟩
   ·by_cases g:l<n-t
    ·simp only[g,if_true];exact⟨by have:=(b1 l g).1; omega,(b1 l g).2⟩
    ·simp only[g,if_false];exact⟨by omega,hc⟩
   ·by_cases ex:x=n
    ·refine .inr ⟨n-t,by omega,?_⟩;have:¬ n-t<n-t:=by omega
     simp only[this,if_false,ex]
    ·rcases b2 x (by omega)with ⟨a,g1,g2⟩|⟨l,g1,g2⟩
     ·exact .inl ⟨a,by omega,g2⟩
     ·exact .inr ⟨l,by omega,by simp only[g1,if_true]; exact g2⟩
   ·have g3:l<n-t:=by omega
    simp only[g3,if_true]
    by_cases g:m<n-t
    ·simp only[g,if_true]; exact b3 l m g1 g
    ·simp only[g,if_false]; exact(b1 l g3).1
theorem aQ6 {d:Nat} {H:Nat->V} {q:Nat->Nat} (hH:Ind d H) (full:∀ v,Sp d H v->(∀ l,l<d->v (q l)=0)->v=λ_=>0) {i:Nat} (hi:i<d):∃ u,Sp d H u/\(∀ l,l<d->l≠i->u (q l)=0)/\u (q i)≠0:=by
 obtain⟨d,rfl⟩:∃ e,d=e+1:=⟨d-1,by omega⟩;obtain⟨c,⟨i0,hi0,hc0⟩,h1⟩:=dep d un (λl m=>if m<d then H l (q (skip i m)) else 0) λl hl=>a4I λx hx=>by
  have:¬ x<d:=by omega
  simp only[this,if_false]
 have hu:Sp (d+1) H (λx=>sm (λl=>c l*H l x) (d+1)):=Sp.sm λj hj=>Sp.mem hj
 have hz:∀ l,l<d+1->l≠i->sm (λm=>c m*H m (q l)) (d+1)=0:=λl hl hne=>by
  have:=h1 (if l<i then l else l-1);have e1:skip i (if l<i then l else l-1)=l:=by
   unfold skip
   by_cases g:l<i
   ·simp only[g,if_true]
   ·have:¬ l-1<i:=by omega
    simp only[g,if_false,this];omega
  have e2:(if l<i then l else l-1)<d:=by
   by_cases g:l<i
   ·simp only[g,if_true]; omega
   ·simp only[g,if_false]; omega
  simp only[e1,e2,if_true]at this;exact this
 refine⟨_,hu,hz,λh0=>?_⟩;have:=full _ hu λl hl=>by
  by_cases e:l=i
  ·subst e; exact h0
  ·exact hz l hl e
 exact hc0 (hH c (λx=>congrFun this x) i0 (by omega))
theorem a1E {n k d t W W0:Nat} {F K H:Nat->V} {B:Nat->Nat} {c p:Nat->Nat} {D:Int} {w:Nat->V} (hn:n<=4) (h0:Dw n k F d p D w W0) (hH:Hn d H p) (hs:Same k F d H) (hE:∀ j,j<k->∀ x,(F j x).natAbs<=B j) (hP:aKG k B W d) (hK:Hn t K c) (hI:jX n k F t K) :
  ∀ i,i<t->∀ x,(K i x).natAbs<=t*W:=by
 have hr:=h0.aC1 hK.ind hI;have hcn:∀ i,i<t->c i<n:=λi hi=>Classical.byContradiction λg=>by
  have:=hI.width hi (c i) (by omega);have:=hK.pos i hi;omega
 obtain⟨_,q,q1,q2,q3⟩:=aV0 n t c hK.inc hcn;have ed:n-t=d:=by omega
 rw[ed]at q1 q2 q3;have fullF:∀ v,Sp k F v->(∀ l,l<d->v (q l)=0)->v=λ_=>0:=λv hv hz=>by
  have hker:∀ j,j<t->dot n (K j) v=0:=λj hj=>((hI _).1 (Sp.mem hj)).span hv
  have hcz:∀ N i,t-i<=N->i<t->v (c i)=0:=by
   intro N
   induction N with
   | zero=>intro i h1 h2; omega
   | succ N ih =>
    intro i h1 h2;have:=hker i h2;rw[<- aUP,R0 (hcn i h2) λx hx hne=>by
     rcases q2 x hx with ⟨l,g1,rfl⟩|⟨l,g1,rfl⟩
     ·rcases Nat.lt_or_ge l i with g|g
      ·rw[hK.low i h2 _ (hK.inc l i g h2),Int.zero_mul]
      ·have:i<l:=by
        rcases Nat.eq_or_lt_of_le g with e|e
        ·subst e; exact absurd rfl hne
        ·exact e
       rw[ih l (by omega) g1,Int.mul_zero]
     ·rw[hz l g1,Int.mul_zero]]at this
    have hp:=hK.pos i h2;rcases Int.mul_eq_zero.1 this with g|g
    ·omega
    ·exact g
  funext x
  rcases Nat.lt_or_ge x n with hx|hx
  ·rcases q2 x hx with ⟨l,g1,rfl⟩|⟨l,g1,rfl⟩
   ·exact hcz t l (by omega) g1
   ·exact hz l g1
  ·exact Sp.lC (λj hj=>h0.wide j hj x hx) hv
 have hC:aZ1 k F d q:=λi hi=>by
  obtain⟨u,u1,u2,u3⟩:=aQ6 hH.ind (λv hv=>fullF v ((hs v).2 hv)) hi;refine⟨u,⟨1,by decide,?_⟩,λl hl=>u2 l (by omega) (by omega),u3⟩;simp only[Int.one_mul];exact(hs u).2 u1
 obtain⟨D',w',h1⟩:=Dw.of (n:=n) (WD (by omega) hC hE hP) (λj hj=>(q1 j hj).1) h0.wide fullF;have hd:Dg t K t c W:=⟨D',λj=>kx D' w' d q (c j),h1.D0,λj hj=>⟨(hI _).2 (h1.aUC (hcn j hj)),?_,λi hi hne=>?_,λx=>h1.a4J _ _⟩⟩
 ·exact Hn.aEI hK hd
 ·show kx D' w' d q (c j) (c j)=D';rw[h1.aN4 λl hl=>Ne.symm ((q1 l hl).2 j hj),KG,Int.mul_one]
 ·show kx D' w' d q (c j) (c i)=0;rw[h1.aN4 λl hl=>Ne.symm ((q1 l hl).2 i hi),GU,Int.mul_zero];intro e;rcases Nat.lt_trichotomy i j with g|g|g
  ·have:=hK.inc i j g hj; omega
  ·exact hne g
  ·have:=hK.inc j i g hi; omega
end Go.Lz
namespace Go.Lz
structure Fam (d:Nat) (C:Nat->V) (k:Nat) (F:Nat->V) (B:Nat->Nat):Prop where
 mem:∀ j,j<k->Sp d C (F j)
 span:∃ D:Int,D≠0/\∀ v,Sp d C v->Sp k F (λx=>D*v x)
 le:∀ j,j<k->∀ x,(F j x).natAbs<=B j
 g1:∀ a,a<k->B a<=2916
 g2:∀ a b,a<k->b<k->a≠b->B a*B b<=26244
 g3:∀ a b c,a<k->b<k->c<k->a≠b->a≠c->b≠c->B a*B b*B c<=729
 g4:∀ a b c d,a<k->b<k->c<k->d<k->a≠b->a≠c->a≠d->b≠c->b≠d->c≠d->B a*B b*B c*B d<=6561
def Q2(k:Nat) (B:Nat->Nat):Prop:=∀ a b,a<k->b<k->a≠b->B a*B b<=81
def apB(k:Nat)(B B':Nat->Nat):Nat->Nat:=λi=>if i<k then B i else B' (i-k)
theorem eG {k i:Nat}(B B':Nat->Nat)(h:i<k):apB k B B' i=B i:=by simp[apB,h]
theorem eF {k i:Nat}(B B':Nat->Nat)(h:¬ i<k):apB k B B' i=B' (i-k):=by simp[apB,h]
def WW:Nat->Nat
 | 0=>1
 | 1=>2916
 | 2=>17006112
 | 3=>306110016
 | _=>34012224
section
variable {d d' k k':Nat} {C C' F F':Nat->V} {B B':Nat->Nat}
theorem Fam.aWR (h:Fam d C k F B)(h':Fam d' C' k' F' B'):∀ j,j<k+k'->∀ x,(lW k F F' j x).natAbs<=apB k B B' j:=λj hj x=>by
 by_cases g:j<k
 ·rw[FX F F' g,eG B B' g]; exact h.le j g x
 ·rw[eF B B' g];have:lW k F F' j=F' (j-k):=by simp[lW,g]
  rw[this]; exact h'.le _ (by omega) x
theorem Fam.a6V (h:Fam d C k F B)(h':Fam d' C' k' F' B'):aKG (k+k') (apB k B B') (WW 1) 1:=λa ha =>by
 show _<=2916;generalize ea:apB k B B' a=Xa
 by_cases ga:a<k
 ·rw[eG B B' ga]at ea;subst ea;have bd:=h.g1 a ga;omega
 ·rw[eF B B' ga]at ea;subst ea;have bd:=h'.g1 (a-k) (by omega);omega
theorem Fam.a6C (h:Fam d C k F B)(h':Fam d' C' k' F' B'):aKG (k+k') (apB k B B') (WW 2) 2:=λa b ha hb nab=>by
 show _<=17006112;generalize ea:apB k B B' a=Xa;generalize eb:apB k B B' b=Xb
 by_cases ga:a<k
 ·by_cases gb:b<k
  ·rw[eG B B' ga]at ea;rw[eG B B' gb]at eb;subst ea eb;have bd:=h.g2 a b ga gb nab;have e:B a*B b=B a*B b:=by grind
   rw[e]; omega
  ·rw[eG B B' ga]at ea;rw[eF B B' gb]at eb;subst ea eb;have bd:=Nat.mul_le_mul (h.g1 a ga) (h'.g1 (b-k) (by omega));have e:B a*B' (b-k)=(B a)*(B' (b-k)):=by grind
   rw[e]; omega
 ·by_cases gb:b<k
  ·rw[eF B B' ga]at ea;rw[eG B B' gb]at eb;subst ea eb;have bd:=Nat.mul_le_mul (h.g1 b gb) (h'.g1 (a-k) (by omega));have e:B' (a-k)*B b=(B b)*(B' (a-k)):=by grind
   rw[e]; omega
  ·rw[eF B B' ga]at ea;rw[eF B B' gb]at eb;subst ea eb;have bd:=h'.g2 (a-k) (b-k) (by omega) (by omega) (by omega);have e:B' (a-k)*B' (b-k)=B' (a-k)*B' (b-k):=by grind
   rw[e]; omega
theorem Fam.a68 (h:Fam d C k F B)(h':Fam d' C' k' F' B'):aKG (k+k') (apB k B B') (WW 3) 3:=λa b c ha hb hc nab nac nbc=>by
 show _<=306110016;generalize ea:apB k B B' a=Xa;generalize eb:apB k B B' b=Xb;generalize ec:apB k B B' c=Xc
 by_cases ga:a<k
 ·by_cases gb:b<k
  ·by_cases gc:c<k
   ·rw[eG B B' ga]at ea;rw[eG B B' gb]at eb;rw[eG B B' gc]at ec;subst ea eb ec;have bd:=h.g3 a b c ga gb gc nab nac nbc;have e:B a*B b*B c=B a*B b*B c:=by grind
    rw[e]; omega
   ·rw[eG B B' ga]at ea;rw[eG B B' gb]at eb;rw[eF B B' gc]at ec;subst ea eb ec;have bd:=Nat.mul_le_mul (h.g2 a b ga gb nab) (h'.g1 (c-k) (by omega));have e:B a*B b*B' (c-k)=(B a*B b)*(B' (c-k)):=by grind
    rw[e]; omega
  ·by_cases gc:c<k
   ·rw[eG B B' ga]at ea;rw[eF B B' gb]at eb;rw[eG B B' gc]at ec;subst ea eb ec;have bd:=Nat.mul_le_mul (h.g2 a c ga gc nac) (h'.g1 (b-k) (by omega));have e:B a*B' (b-k)*B c=(B a*B c)*(B' (b-k)):=by grind
    rw[e]; omega
   ·rw[eG B B' ga]at ea;rw[eF B B' gb]at eb;rw[eF B B' gc]at ec;subst ea eb ec;have bd:=Nat.mul_le_mul (h.g1 a ga) (h'.g2 (b-k) (c-k) (by omega) (by omega) (by omega));have e:B a*B' (b-k)*B' (c-k)=(B a)*(B' (b-k)*B' (c-k)):=by grind
    rw[e]; omega
 ·by_cases gb:b<k
  ·by_cases gc:c<k
   ·rw[eF B B' ga]at ea;rw[eG B B' gb]at eb;rw[eG B B' gc]at ec;subst ea eb ec;have bd:=Nat.mul_le_mul (h.g2 b c gb gc nbc) (h'.g1 (a-k) (by omega));have e:B' (a-k)*B b*B c=(B b*B c)*(B' (a-k)):=by grind
    rw[e]; omega
   ·rw[eF B B' ga]at ea;rw[eG B B' gb]at eb;rw[eF B B' gc]at ec;subst ea eb ec;have bd:=Nat.mul_le_mul (h.g1 b gb) (h'.g2 (a-k) (c-k) (by omega) (by omega) (by omega));have e:B' (a-k)*B b*B' (c-k)=(B b)*(B' (a-k)*B' (c-k)):=by grind
    rw[e]; omega
  ·by_cases gc:c<k
   ·rw[eF B B' ga]at ea;rw[eF B B' gb]at eb;rw[eG B B' gc]at ec;subst ea eb ec;have bd:=Nat.mul_le_mul (h.g1 c gc) (h'.g2 (a-k) (b-k) (by omega) (by omega) (by omega));have e:B' (a-k)*B' (b-k)*B c=(B c)*(B' (a-k)*B' (b-k)):=by grind
    rw[e]; omega
   ·rw[eF B B' ga]at ea;rw[eF B B' gb]at eb;rw[eF B B' gc]at ec;subst ea eb ec;have bd:=h'.g3 (a-k) (b-k) (c-k) (by omega) (by omega) (by omega) (by omega) (by omega) (by omega);have e:B' (a-k)*B' (b-k)*B' (c-k)=B' (a-k)*B' (b-k)*B' (c-k):=by grind
    rw[e]; omega
theorem Fam.a7A (h:Fam d C k F B)(h':Fam d' C' k' F' B')(q:Q2 k B\/Q2 k' B'):aKG (k+k') (apB k B B') (WW 4) 4:=λa b c d ha hb hc hd nab nac nad nbc nbd ncd=>by
 show _<=34012224;generalize ea:apB k B B' a=Xa;generalize eb:apB k B B' b=Xb;generalize ec:apB k B B' c=Xc;generalize ed:apB k B B' d=Xd
 by_cases ga:a<k
 ·by_cases gb:b<k
  ·by_cases gc:c<k
   ·by_cases gd:d<k
    ·rw[eG B B' ga]at ea;rw[eG B B' gb]at eb;rw[eG B B' gc]at ec;rw[eG B B' gd]at ed;subst ea eb ec ed;have bd:=h.g4 a b c d ga gb gc gd nab nac nad nbc nbd ncd;have e:B a*B b*B c*B d=B a*B b*B c*B d:=by grind
     rw[e]; omega
    ·rw[eG B B' ga]at ea;rw[eG B B' gb]at eb;rw[eG B B' gc]at ec;rw[eF B B' gd]at ed;subst ea eb ec ed;have bd:=Nat.mul_le_mul (h.g3 a b c ga gb gc nab nac nbc) (h'.g1 (d-k) (by omega));have e:B a*B b*B c*B' (d-k)=(B a*B b*B c)*(B' (d-k)):=by grind
     rw[e]; omega
   ·by_cases gd:d<k
    ·rw[eG B B' ga]at ea;rw[eG B B' gb]at eb;rw[eF B B' gc]at ec;rw[eG B B' gd]at ed;subst ea eb ec ed;have bd:=Nat.mul_le_mul (h.g3 a b d ga gb gd nab nad nbd) (h'.g1 (c-k) (by omega));have e:B a*B b*B' (c-k)*B d=(B a*B b*B d)*(B' (c-k)):=by grind
     rw[e]; omega
    ·rw[eG B B' ga]at ea;rw[eG B B' gb]at eb;rw[eF B B' gc]at ec;rw[eF B B' gd]at ed;subst ea eb ec ed;rcases q with q|q
     ·have bd:=Nat.mul_le_mul (q a b ga gb nab) (h'.g2 (c-k) (d-k) (by omega) (by omega) (by omega));have e:B a*B b*B' (c-k)*B' (d-k)=(B a*B b)*(B' (c-k)*B' (d-k)):=by grind
      rw[e]; omega
     ·have bd:=Nat.mul_le_mul (h.g2 a b ga gb nab) (q (c-k) (d-k) (by omega) (by omega) (by omega));have e:B a*B b*B' (c-k)*B' (d-k)=(B a*B b)*(B' (c-k)*B' (d-k)):=by grind
      rw[e]; omega
  ·by_cases gc:c<k
   ·by_cases gd:d<k
    ·rw[eG B B' ga]at ea;rw[eF B B' gb]at eb;rw[eG B B' gc]at ec;rw[eG B B' gd]at ed;subst ea eb ec ed;have bd:=Nat.mul_le_mul (h.g3 a c d ga gc gd nac nad ncd) (h'.g1 (b-k) (by omega));have e:B a*B' (b-k)*B c*B d=(B a*B c*B d)*(B' (b-k)):=by grind
     rw[e]; omega
    ·rw[eG B B' ga]at ea;rw[eF B B' gb]at eb;rw[eG B B' gc]at ec;rw[eF B B' gd]at ed;subst ea eb ec ed;rcases q with q|q
     ·have bd:=Nat.mul_le_mul (q a c ga gc nac) (h'.g2 (b-k) (d-k) (by omega) (by omega) (by omega));have e:B a*B' (b-k)*B c*B' (d-k)=(B a*B c)*(B' (b-k)*B' (d-k)):=by grind
      rw[e]; omega
     ·have bd:=Nat.mul_le_mul (h.g2 a c ga gc nac) (q (b-k) (d-k) (by omega) (by omega) (by omega));have e:B a*B' (b-k)*B c*B' (d-k)=(B a*B c)*(B' (b-k)*B' (d-k)):=by grind
      rw[e]; omega
   ·by_cases gd:d<k
    ·rw[eG B B' ga]at ea;rw[eF B B' gb]at eb;rw[eF B B' gc]at ec;rw[eG B B' gd]at ed;subst ea eb ec ed;rcases q with q|q
     ·have bd:=Nat.mul_le_mul (q a d ga gd nad) (h'.g2 (b-k) (c-k) (by omega) (by omega) (by omega));have e:B a*B' (b-k)*B' (c-k)*B d=(B a*B d)*(B' (b-k)*B' (c-k)):=by grind
      rw[e]; omega
     ·have bd:=Nat.mul_le_mul (h.g2 a d ga gd nad) (q (b-k) (c-k) (by omega) (by omega) (by omega));have e:B a*B' (b-k)*B' (c-k)*B d=(B a*B d)*(B' (b-k)*B' (c-k)):=by grind
      rw[e]; omega
    ·rw[eG B B' ga]at ea;rw[eF B B' gb]at eb;rw[eF B B' gc]at ec;rw[eF B B' gd]at ed;subst ea eb ec ed;have bd:=Nat.mul_le_mul (h.g1 a ga) (h'.g3 (b-k) (c-k) (d-k) (by omega) (by omega) (by omega) (by omega) (by omega) (by omega));have e:B a*B' (b-k)*B' (c-k)*B' (d-k)=(B a)*(B' (b-k)*B' (c-k)*B' (d-k)):=by grind
     rw[e]; omega
 ·by_cases gb:b<k
  ·by_cases gc:c<k
   ·by_cases gd:d<k
    ·rw[eF B B' ga]at ea;rw[eG B B' gb]at eb;rw[eG B B' gc]at ec;rw[eG B B' gd]at ed;subst ea eb ec ed;have bd:=Nat.mul_le_mul (h.g3 b c d gb gc gd nbc nbd ncd) (h'.g1 (a-k) (by omega));have e:B' (a-k)*B b*B c*B d=(B b*B c*B d)*(B' (a-k)):=by grind
     rw[e]; omega
    ·rw[eF B B' ga]at ea;rw[eG B B' gb]at eb;rw[eG B B' gc]at ec;rw[eF B B' gd]at ed;subst ea eb ec ed;rcases q with q|q
     ·have bd:=Nat.mul_le_mul (q b c gb gc nbc) (h'.g2 (a-k) (d-k) (by omega) (by omega) (by omega));have e:B' (a-k)*B b*B c*B' (d-k)=(B b*B c)*(B' (a-k)*B' (d-k)):=by grind
      rw[e]; omega
     ·have bd:=Nat.mul_le_mul (h.g2 b c gb gc nbc) (q (a-k) (d-k) (by omega) (by omega) (by omega));have e:B' (a-k)*B b*B c*B' (d-k)=(B b*B c)*(B' (a-k)*B' (d-k)):=by grind
      rw[e]; omega
   ·by_cases gd:d<k
    ·rw[eF B B' ga]at ea;rw[eG B B' gb]at eb;rw[eF B B' gc]at ec;rw[eG B B' gd]at ed;subst ea eb ec ed;rcases q with q|q
     ·have bd:=Nat.mul_le_mul (q b d gb gd nbd) (h'.g2 (a-k) (c-k) (by omega) (by omega) (by omega));have e:B' (a-k)*B b*B' (c-k)*B d=(B b*B d)*(B' (a-k)*B' (c-k)):=by grind
      rw[e]; omega
     ·have bd:=Nat.mul_le_mul (h.g2 b d gb gd nbd) (q (a-k) (c-k) (by omega) (by omega) (by omega));have e:B' (a-k)*B b*B' (c-k)*B d=(B b*B d)*(B' (a-k)*B' (c-k)):=by grind
      rw[e]; omega
    ·rw[eF B B' ga]at ea;rw[eG B B' gb]at eb;rw[eF B B' gc]at ec;rw[eF B B' gd]at ed;subst ea eb ec ed;have bd:=Nat.mul_le_mul (h.g1 b gb) (h'.g3 (a-k) (c-k) (d-k) (by omega) (by omega) (by omega) (by omega) (by omega) (by omega));have e:B' (a-k)*B b*B' (c-k)*B' (d-k)=(B b)*(B' (a-k)*B' (c-k)*B' (d-k)):=by grind
     rw[e]; omega
  ·by_cases gc:c<k
   ·by_cases gd:d<k
    ·rw[eF B B' ga]at ea;rw[eF B B' gb]at eb;rw[eG B B' gc]at ec;rw[eG B B' gd]at ed;subst ea eb ec ed;rcases q with q|q
     ·have bd:=Nat.mul_le_mul (q c d gc gd ncd) (h'.g2 (a-k) (b-k) (by omega) (by omega) (by omega));have e:B' (a-k)*B' (b-k)*B c*B d=(B c*B d)*(B' (a-k)*B' (b-k)):=by grind
      rw[e]; omega
     ·have bd:=Nat.mul_le_mul (h.g2 c d gc gd ncd) (q (a-k) (b-k) (by omega) (by omega) (by omega));have e:B' (a-k)*B' (b-k)*B c*B d=(B c*B d)*(B' (a-k)*B' (b-k)):=by grind
      rw[e]; omega
    ·rw[eF B B' ga]at ea;rw[eF B B' gb]at eb;rw[eG B B' gc]at ec;rw[eF B B' gd]at ed;subst ea eb ec ed;have bd:=Nat.mul_le_mul (h.g1 c gc) (h'.g3 (a-k) (b-k) (d-k) (by omega) (by omega) (by omega) (by omega) (by omega) (by omega));have e:B' (a-k)*B' (b-k)*B c*B' (d-k)=(B c)*(B' (a-k)*B' (b-k)*B' (d-k)):=by grind
     rw[e]; omega
   ·by_cases gd:d<k
    ·rw[eF B B' ga]at ea;rw[eF B B' gb]at eb;rw[eF B B' gc]at ec;rw[eG B B' gd]at ed;subst ea eb ec ed;have bd:=Nat.mul_le_mul (h.g1 d gd) (h'.g3 (a-k) (b-k) (c-k) (by omega) (by omega) (by omega) (by omega) (by omega) (by omega));have e:B' (a-k)*B' (b-k)*B' (c-k)*B d=(B d)*(B' (a-k)*B' (b-k)*B' (c-k)):=by grind
     rw[e]; omega
    ·rw[eF B B' ga]at ea;rw[eF B B' gb]at eb;rw[eF B B' gc]at ec;rw[eF B B' gd]at ed;subst ea eb ec ed;have bd:=h'.g4 (a-k) (b-k) (c-k) (d-k) (by omega) (by omega) (by omega) (by omega) (by omega) (by omega) (by omega) (by omega) (by omega) (by omega);have e:B' (a-k)*B' (b-k)*B' (c-k)*B' (d-k)=B' (a-k)*B' (b-k)*B' (c-k)*B' (d-k):=by grind
     rw[e]; omega
end
end Go.Lz
namespace Go.Lz
def W9:Nat->Nat
 | 0=>1
 | 1=>9
 | 2=>162
 | 3=>2916
 | _=>104976
theorem a13(k r:Nat)(hr:r<=4):aKG k (λ_=>9) (W9 r) r:=by
 rcases(show r=0\/r=1\/r=2\/r=3\/r=4 by omega)with rfl|rfl|rfl|rfl|rfl
 ·show 1<=1; omega
 ·intro a _; show 9<=9; omega
 ·intro a b _ _ _; show 2*(9*9)<=162; omega
 ·intro a b c _ _ _ _ _ _; show 4*(9*9*9)<=2916; omega
 ·intro a b c d _ _ _ _ _ _ _ _ _ _; show 16*(9*9*9*9)<=104976; omega
theorem a7W {d k:Nat} {C F:Nat->V} (mem:∀ j,j<k->Sp d C (F j)) (span:∃ D:Int,D≠0/\∀ v,Sp d C v->Sp k F (λx=>D*v x)) (le:∀ j,j<k->∀ x,(F j x).natAbs<=9):Fam d C k F (λ_=>9) :=
 ⟨mem,span,le,λ_ _=>by omega,λ_ _ _ _ _=>by omega,λ_ _ _ _ _ _ _ _ _=>by omega,λ_ _ _ _ _ _ _ _ _ _ _ _ _ _=>by omega⟩
section
variable {n k d:Nat} {M:Nat->V} {p:Nat->Nat} {D:Int} {w:Nat->V}
open Classical in
/-- The sizes of a kernel's short rows. -/
def kB(d:Nat) (p:Nat->Nat) (x:Nat):Nat:=if ∃ j,j<d/\p j=x then 0 else W9 d
theorem aAX(d:Nat)(p:Nat->Nat)(x:Nat):kB d p x=0\/((∀ j,j<d->p j≠x)/\kB d p x=W9 d):=by
 by_cases h:∃ j,j<d/\p j=x
 ·left; simp only[kB,h,if_true]
 ·right; exact⟨λj hj e=>h ⟨j,hj,e⟩,by simp only[kB,h,if_false]⟩
theorem a7P(hn:n<=4) (hd:d<=3) (h:Dw n k M d p D w (W9 d)) (inc:∀ i j,i<j->j<d->p i<p j) {t:Nat} {K:Nat->V} (hI:jX n k M t K):Fam t K n (kx D w d p) (kB d p)/\(Q2 n (kB d p)\/d=2):=by
 have hle:∀ j,j<n->∀ x,(kx D w d p j x).natAbs<=kB d p j:=λj _ x=>by
  rcases aAX d p j with g|⟨_,g⟩
  ·have:∃ i,i<d/\p i=j:=Classical.byContradiction λhno=>by
    have:kB d p j=W9 d:=by simp only[kB,hno,if_false]
    rw[this]at g;rcases(show d=0\/d=1\/d=2\/d=3 by omega)with rfl|rfl|rfl|rfl <;> cases g
   obtain⟨i,hi,rfl⟩:=this;rw[h.aZS hi]; simp
  ·rw[g]; exact h.a4J j x
 have hmem:∀ j,j<n->Sp t K (kx D w d p j):=λj hj=>(hI _).2 (h.aUC hj)
 have hspan:∃ D':Int,D'≠0/\∀ v,Sp t K v->Sp n (kx D w d p) (λx=>D'*v x):=⟨D,h.D0,λv hv=>h.a2L ((hI v).1 hv)⟩;have hlt:=h.lt;rcases(show d=0\/d=1\/d=2\/d=3 by omega)with rfl|rfl|rfl|rfl
 ·have e:∀ x,kB 0 p x=1:=λx=>by
   rcases aAX 0 p x with g|⟨_,g⟩
   ·have:¬ ∃ j,j<0/\p j=x:=λ⟨j,hj,_⟩=>by omega
    simp only[kB,this,if_false,W9]at g;cases g
   ·exact g
  refine⟨⟨hmem,hspan,hle,λa _=>?_,λa b _ _ _=>?_,λa b c _ _ _ _ _ _=>?_,λa b c d _ _ _ _ _ _ _ _ _ _=>?_⟩,.inl λa b _ _ _=>?_⟩
  all_goals simp only[e]; omega
 ·have e:∀ x,kB 1 p x<=9:=λx=>by
   rcases aAX 1 p x with g|⟨_,g⟩
   ·omega
   ·rw[g]; exact Nat.le_refl _
  have e2:∀ a b,kB 1 p a*kB 1 p b<=81:=λa b=>Nat.mul_le_mul (e a) (e b)
  have e3:∀ a b c,kB 1 p a*kB 1 p b*kB 1 p c<=729:=λa b c=>Nat.mul_le_mul (e2 a b) (e c)
  exact⟨⟨hmem,hspan,hle,λa _=>by have:=e a; omega,λa b _ _ _=>by have:=e2 a b; omega,λa b c _ _ _ _ _ _=>e3 a b c,λa b c d _ _ _ _ _ _ _ _ _ _=>Nat.mul_le_mul (e3 a b c) (e d)⟩,.inl λa b _ _ _=>e2 a b⟩
 ·have i1:=inc 0 1 (by omega) (by omega);have l1:=hlt 1 (by omega);have e:∀ x,kB 2 p x<=162:=λx=>by
   rcases aAX 2 p x with g|⟨_,g⟩
   ·omega
   ·rw[g]; exact Nat.le_refl _
  have e2:∀ a b,kB 2 p a*kB 2 p b<=26244:=λa b=>Nat.mul_le_mul (e a) (e b)
  have e3:∀ a b c,a<n->b<n->c<n->a≠b->a≠c->b≠c->kB 2 p a*kB 2 p b*kB 2 p c=0:=λa b c h1 h2 h3 n1 n2 n3=>by
   rcases aAX 2 p a with g|⟨q1,_⟩
   ·rw[g]; simp
   rcases aAX 2 p b with g|⟨q2,_⟩
   ·rw[g]; simp
   rcases aAX 2 p c with g|⟨q3,_⟩
   ·rw[g]; simp
   have:=q1 0 (by omega); have:=q1 1 (by omega); have:=q2 0 (by omega); have:=q2 1 (by omega); have:=q3 0 (by omega); have:=q3 1 (by omega);omega
  refine⟨⟨hmem,hspan,hle,λa _=>by have:=e a; omega,λa b _ _ _=>e2 a b,λa b c h1 h2 h3 n1 n2 n3=>by rw[e3 a b c h1 h2 h3 n1 n2 n3]; omega,λa b c d h1 h2 h3 h4 n1 n2 n3 n4 n5 n6=>by rw[e3 a b c h1 h2 h3 n1 n2 n4]; simp⟩,.inr rfl⟩
 ·have i1:=inc 0 1 (by omega) (by omega);have i2:=inc 1 2 (by omega) (by omega);have l1:=hlt 2 (by omega);have e:∀ x,kB 3 p x<=2916:=λx=>by
   rcases aAX 3 p x with g|⟨_,g⟩
   ·omega
   ·rw[g]; exact Nat.le_refl _
  have e2:∀ a b,a<n->b<n->a≠b->kB 3 p a*kB 3 p b=0:=λa b h1 h2 n1=>by
   rcases aAX 3 p a with g|⟨q1,_⟩
   ·rw[g]; simp
   rcases aAX 3 p b with g|⟨q2,_⟩
   ·rw[g]; simp
   have:=q1 0 (by omega); have:=q1 1 (by omega); have:=q1 2 (by omega); have:=q2 0 (by omega); have:=q2 1 (by omega); have:=q2 2 (by omega);omega
  refine⟨⟨hmem,hspan,hle,λa _=>e a,λa b h1 h2 n1=>by rw[e2 a b h1 h2 n1]; omega,λa b c h1 h2 h3 n1 n2 n3=>by rw[e2 a b h1 h2 n1]; simp,λa b c d h1 h2 h3 h4 n1 n2 n3 n4 n5 n6=>by rw[e2 a b h1 h2 n1]; simp⟩,.inl λa b h1 h2 n1=>by rw[e2 a b h1 h2 n1]; omega⟩
end
theorem a1U {k n:Nat} {K F:Nat->V} {p:Nat->Nat} (hK:Hn 2 K p) (mem:∀ j,j<k->Sp 2 K (F j)) (span:∃ D:Int,D≠0/\∀ v,Sp 2 K v->Sp k F (λx=>D*v x)) :
  ∃ a b,a<k/\b<k/\d2 (F a) (F b) (p 0) (p 1)≠0/\∀ y:V,dot n y (F a)=0->dot n y (F b)=0->∀ i,i<2->dot n y (K i)=0:=by
 obtain⟨D,h0,hs⟩:=span;have hc:=hK.chain (k:=k) (M:=F) λj hj=>⟨D,h0,hs _ (Sp.mem hj)⟩
 obtain⟨u,⟨t,ht,hu⟩,z0,n0⟩:=hc 0 (by omega);obtain⟨a,ha,q0⟩:=aAV ht hu n0;obtain⟨u,⟨t,ht,hu⟩,z1,n1⟩:=hc 1 (by omega);obtain⟨b,hb,q1⟩:=aGP ht hu (z1 0 (by omega)) n1 q0;refine⟨a,b,ha,hb,q1,λy ya yb i hi=>?_⟩;have hz:=hK.zero (v:=λx=>d2 (F a) (F b) (p 0) (p 1)*K i x-((K i (p 0)*F b (p 1)-K i (p 1)*F b (p 0))*F a x+(K i (p 1)*F a (p 0)-K i (p 0)*F a (p 1))*F b x))
  (Sp.sub (Sp.smul _ (Sp.mem hi)) (Sp.sum (Sp.smul _ (mem a ha)) (Sp.smul _ (mem b hb)))) λl hl=>by
   rcases(show l=0\/l=1 by omega)with rfl|rfl
   ·simp only[d2]; grind
   ·simp only[d2]; grind
 have h1:(λx=>d2 (F a) (F b) (p 0) (p 1)*K i x)=λx=>(λx=>(0:Int)+(K i (p 0)*F b (p 1)-K i (p 1)*F b (p 0))*F a x) x+(K i (p 1)*F a (p 0)-K i (p 0)*F a (p 1))*F b x:=by
  funext x
  have:=congrFun hz x;show d2 (F a) (F b) (p 0) (p 1)*K i x=0+_+_;have:d2 (F a) (F b) (p 0) (p 1)*K i x-((K i (p 0)*F b (p 1)-K i (p 1)*F b (p 0))*F a x+(K i (p 1)*F a (p 0)-K i (p 0)*F a (p 1))*F b x)=0:=this;omega
 have h2:dot n (λx=>(0:Int)+d2 (F a) (F b) (p 0) (p 1)*K i x) y=0:=by
  have e:(λx=>(0:Int)+d2 (F a) (F b) (p 0) (p 1)*K i x)=λx=>d2 (F a) (F b) (p 0) (p 1)*K i x:=by funext x; omega
  rw[e,h1,vY,vY (λ_=>0),HW,nI (F a),nI (F b),ya,yb];simp
 rw[vY (λ_=>0),HW,Int.zero_add]at h2;rcases Int.mul_eq_zero.1 h2 with g|g
 ·exact absurd g q1
 ·rw[nI]; exact g
def a3A(a b c d:V):Nat->V
 | 0=>a
 | 1=>b
 | 2=>c
 | _=>d
theorem a7C(a b:V):dot 4 a b=a 0*b 0+a 1*b 1+a 2*b 2+a 3*b 3:=by
 show 0+a 0*b 0+a 1*b 1+a 2*b 2+a 3*b 3=_;omega
def cof(Q:Nat->V) (i:Nat):V:=λx=>if x<4 then d4 (if i=0 then un x else Q 0) (if i=1 then un x else Q 1) (if i=2 then un x else Q 2) (if i=3 then un x else Q 3) 0 1 2 3 else 0
theorem a2M(Q:Nat->V)(i j:Nat)(hi:i<4)(hj:j<4)(hne:j≠i):dot 4 (cof Q i) (Q j)=0:=by
 rw[a7C];rcases(show i=0\/i=1\/i=2\/i=3 by omega)with rfl|rfl|rfl|rfl <;> rcases(show j=0\/j=1\/j=2\/j=3 by omega)with rfl|rfl|rfl|rfl <;> first|exact absurd rfl hne|(simp[cof,d4,d3,d2,un]; grind)
theorem a2J(Q:Nat->V)(x y:Nat)(hx:x<4)(hy:y<4):Q 0 y*cof Q 0 x+Q 1 y*cof Q 1 x+Q 2 y*cof Q 2 x+Q 3 y*cof Q 3 x=d4 (Q 0) (Q 1) (Q 2) (Q 3) 0 1 2 3*un y x:=by rcases(show x=0\/x=1\/x=2\/x=3 by omega)with rfl|rfl|rfl|rfl <;> rcases(show y=0\/y=1\/y=2\/y=3 by omega)with rfl|rfl|rfl|rfl <;> (simp[cof,d4,d3,d2,un]; grind)
end Go.Lz
namespace Go.Lz
theorem a6Y {J:Nat->V} {c:Nat->Nat} (hJ:Hn 4 J c) (hc:c 3<4) {v:V} (h:∀ i,i<4->dot 4 v (J i)=0):∀ x,x<4->v x=0:=by
 have i1:=hJ.inc 0 1 (by omega) (by omega);have i2:=hJ.inc 1 2 (by omega) (by omega);have i3:=hJ.inc 2 3 (by omega) (by omega);have c0:c 0=0:=by omega
 have c1:c 1=1:=by omega
 have c2:c 2=2:=by omega
 have c3:c 3=3:=by omega
 have p0:=hJ.pos 0 (by omega);have p1:=hJ.pos 1 (by omega);have p2:=hJ.pos 2 (by omega);have p3:=hJ.pos 3 (by omega);rw[c0]at p0; rw[c1]at p1; rw[c2]at p2; rw[c3]at p3;have l3:=hJ.low 3 (by omega);have l2:=hJ.low 2 (by omega);have l1:=hJ.low 1 (by omega);have h3:=h 3 (by omega);have h2:=h 2 (by omega);have h1:=h 1 (by omega);have h0:=h 0 (by omega);rw[a7C]at h0 h1 h2 h3;have nz:∀ {a b:Int},a*b=0->0<b->a=0:=λh hb=>by
  rcases Int.mul_eq_zero.1 h with g|g
  ·exact g
  ·omega
 rw[l3 0 (by omega),l3 1 (by omega),l3 2 (by omega)]at h3;have v3:v 3=0:=nz (by simpa using h3) p3;rw[l2 0 (by omega),l2 1 (by omega),v3]at h2;have v2:v 2=0:=nz (by simpa using h2) p2;rw[l1 0 (by omega),v2,v3]at h1;have v1:v 1=0:=nz (by simpa using h1) p1;rw[v1,v2,v3]at h0;have v0:v 0=0:=nz (by simpa using h0) p0;intro x hx;rcases(show x=0\/x=1\/x=2\/x=3 by omega)with rfl|rfl|rfl|rfl
 ·exact v0
 ·exact v1
 ·exact v2
 ·exact v3
section
variable {k k' d d':Nat} {K K' F F' C C' J:Nat->V} {p p' c:Nat->Nat}
theorem a7T(hK:Hn 2 K p) (hK':Hn 2 K' p') (wK:∀ i,i<2->∀ x,4<=x->K i x=0) (wK':∀ i,i<2->∀ x,4<=x->K' i x=0)
  (mem:∀ j,j<k->Sp 2 K (F j)) (span:∃ D:Int,D≠0/\∀ v,Sp 2 K v->Sp k F (λx=>D*v x)) (mem':∀ j,j<k'->Sp 2 K' (F' j)) (span':∃ D:Int,D≠0/\∀ v,Sp 2 K' v->Sp k' F' (λx=>D*v x))
  (le:∀ j,j<k->∀ x,(F j x).natAbs<=9) (le':∀ j,j<k'->∀ x,(F' j x).natAbs<=9)
  (hI:jX 4 2 K d C) (hI':jX 4 2 K' d' C') (hJ:Hn 4 J c) (hc:c 3<4) (hs:Same (d+d') (lW d C C') 4 J):Dg 4 J 4 c 104976:=by
 obtain⟨a,b,ha,hb,e1,orth⟩:=a1U (n:=4) hK mem span;obtain⟨a',b',ha',hb',e2,orth'⟩:=a1U (n:=4) hK' mem' span';have wsp:∀ {v},Sp 2 K v->∀ x,4<=x->v x=0:=λhv x hx=>Sp.lC (λj hj=>wK j hj x hx) hv
 have wsp':∀ {v},Sp 2 K' v->∀ x,4<=x->v x=0:=λhv x hx=>Sp.lC (λj hj=>wK' j hj x hx) hv
 have two0:∀ {A B:V} {x y:Nat} {s t:Int},d2 A B x y≠0->(∀ z,s*A z+t*B z=0)->s=0/\t=0:=λ{A B x y s t} h hz=>by
  have h1:=hz x;have h2:=hz y;have g1:s*d2 A B x y=0:=by simp only[d2]; grind
  have g2:t*d2 A B x y=0:=by simp only[d2]; grind
  exact⟨(Int.mul_eq_zero.1 g1).resolve_right h,(Int.mul_eq_zero.1 g2).resolve_right h⟩
 -- the four rows are independent
 have ind:Ind 4 (a3A (F a) (F b) (F' a') (F' b')):=λs hz=>by
  have hz:∀ x,0+s 0*F a x+s 1*F b x+s 2*F' a' x+s 3*F' b' x=0:=hz;have v1:Sp 2 K (λx=>s 0*F a x+s 1*F b x):=Sp.sum (Sp.smul _ (mem a ha)) (Sp.smul _ (mem b hb));have v2:Sp 2 K' (λx=>-(s 2)*F' a' x + -(s 3)*F' b' x):=Sp.sum (Sp.smul _ (mem' a' ha')) (Sp.smul _ (mem' b' hb'));have ev:(λx=>s 0*F a x+s 1*F b x)=λx=>-(s 2)*F' a' x + -(s 3)*F' b' x:=by
   funext x
   have:=hz x;grind
  have h0:∀ x,x<4->(λx=>s 0*F a x+s 1*F b x) x=0:=a6Y hJ hc λi hi=>by
   obtain⟨y,z,hy,hz,e⟩:=aB4 ((hs _).2 (Sp.mem hi));have g1:=((hI y).1 hy).span v1;have g2:=((hI' z).1 hz).span v2;rw[<- ev]at g2;have e':J i=λx=>(λx=>0+1*y x) x+1*z x:=by
    rw[e]; funext x;show y x+z x=0+1*y x+1*z x;omega
   rw[nI,e',vY,vY (λ_=>0),HW,g1,g2];rfl
  have h1:∀ x,s 0*F a x+s 1*F b x=0:=λx=>by
   rcases Nat.lt_or_ge x 4 with g|g
   ·exact h0 x g
   ·exact wsp v1 x g
  obtain⟨q0,q1⟩:=two0 e1 h1;have h2:∀ x,-(s 2)*F' a' x + -(s 3)*F' b' x=0:=λx=>by
   have:=congrFun ev x;have:s 0*F a x+s 1*F b x = -(s 2)*F' a' x + -(s 3)*F' b' x:=this;rw[<- this]; exact h1 x
  obtain⟨q2,q3⟩:=two0 e2 h2;intro i hi;rcases(show i=0\/i=1\/i=2\/i=3 by omega)with rfl|rfl|rfl|rfl
  ·exact q0
  ·exact q1
  ·omega
  ·omega
 have wU:∀ i,i<4->∀ x,4<=x->a3A (F a) (F b) (F' a') (F' b') i x=0:=λi hi x hx=>by
  rcases(show i=0\/i=1\/i=2\/i=3 by omega)with rfl|rfl|rfl|rfl
  ·exact wsp (mem a ha) x hx
  ·exact wsp (mem b hb) x hx
  ·exact wsp' (mem' a' ha') x hx
  ·exact wsp' (mem' b' hb') x hx
 have bU:∀ i,i<4->∀ x,(a3A (F a) (F b) (F' a') (F' b') i x).natAbs<=9:=λi hi x=>by
  rcases(show i=0\/i=1\/i=2\/i=3 by omega)with rfl|rfl|rfl|rfl
  ·exact le a ha x
  ·exact le b hb x
  ·exact le' a' ha' x
  ·exact le' b' hb' x
 generalize hU:a3A (F a) (F b) (F' a') (F' b')=U at ind wU bU;have full:∀ v,Sp 4 U v->(∀ l,l<4->v l=0)->v=λ_=>0:=λv hv hz=>by
  funext x
  rcases Nat.lt_or_ge x 4 with g|g
  ·exact hz x g
  ·exact Sp.lC (λj hj=>wU j hj x g) hv
 have ch:∀ i,i<4->∃ u:V,(∃ t:Int,t≠0/\Sp 4 U (λx=>t*u x))/\(∀ l,l<i->u l=0)/\u i≠0:=λi hi=>by
  obtain⟨u,u1,u2,u3⟩:=aQ6 (q:=λl=>l) ind full hi;exact⟨u,⟨1,by decide,by simpa using u1⟩,λl hl=>u2 l (by omega) (by omega),u3⟩
 obtain⟨u,⟨t,ht,hu⟩,z0,n0⟩:=ch 0 (by omega);obtain⟨i0,hi0,q0⟩:=aAV ht hu n0;obtain⟨u,⟨t,ht,hu⟩,z1,n1⟩:=ch 1 (by omega);obtain⟨i1,hi1,q1⟩:=aGP ht hu (z1 0 (by omega)) n1 q0;obtain⟨u,⟨t,ht,hu⟩,z2,n2⟩:=ch 2 (by omega);obtain⟨i2,hi2,q2⟩:=aQN ht hu (z2 0 (by omega)) (z2 1 (by omega)) n2 q1;obtain⟨u,⟨t,ht,hu⟩,z3,n3⟩:=ch 3 (by omega);obtain⟨i3,hi3,q3⟩:=a1B ht hu (z3 0 (by omega)) (z3 1 (by omega)) (z3 2 (by omega)) n3 q2
 have r1:i0≠i1:=λe=>q1 (by subst e; simp only[d2]; grind)
 have r2:i0≠i2:=λe=>q2 (by subst e; simp only[d3,d2]; grind)
 have r3:i1≠i2:=λe=>q2 (by subst e; simp only[d3,d2]; grind)
 have r4:i0≠i3:=λe=>q3 (by subst e; simp only[d4,d3,d2]; grind)
 have r5:i1≠i3:=λe=>q3 (by subst e; simp only[d4,d3,d2]; grind)
 have r6:i2≠i3:=λe=>q3 (by subst e; simp only[d4,d3,d2]; grind)
 have ix:∃ f:Nat->Nat,f 0=i0/\f 1=i1/\f 2=i2/\f 3=i3:=⟨λj=>if j=0 then i0 else if j=1 then i1 else if j=2 then i2 else i3,rfl,rfl,rfl,rfl⟩;obtain⟨f,f0,f1,f2,f3⟩:=ix;have hQ:∀ j,j<4->∀ l,l<4->l≠f j->dot 4 (cof (λj=>U (f j)) j) (U l)=0:=λj hj l hl hne=>by
  have:∃ m,m<4/\f m=l:=by
   rcases(show l=i0\/l=i1\/l=i2\/l=i3 by omega)with rfl|rfl|rfl|rfl
   ·exact⟨0,by omega,f0⟩
   ·exact⟨1,by omega,f1⟩
   ·exact⟨2,by omega,f2⟩
   ·exact⟨3,by omega,f3⟩
  obtain⟨m,hm,rfl⟩:=this;exact a2M (λj=>U (f j)) j m hj hm λe=>hne (by rw[e])
 have hlt:∀ j,j<4->f j<4:=λj hj=>by rcases(show j=0\/j=1\/j=2\/j=3 by omega)with rfl|rfl|rfl|rfl <;> omega
 have hmem:∀ j,j<4->Sp 4 J (cof (λj=>U (f j)) j):=λj hj=>by
  have wide:∀ x,4<=x->cof (λj=>U (f j)) j x=0:=λx hx=>by
   have:¬ x<4:=by omega
   simp only[cof,this,if_false]
  have hf:=hlt j hj;refine(hs _).1 ?_
  by_cases g:f j<2
  ·refine GI ((hI' _).2 ⟨wide,orth' _ ?_ ?_⟩)
   ·have:=hQ j hj 2 (by omega) (by omega);rw[<- hU]at this ⊢; exact this
   ·have:=hQ j hj 3 (by omega) (by omega);rw[<- hU]at this ⊢; exact this
  ·refine JW ((hI _).2 ⟨wide,orth _ ?_ ?_⟩)
   ·have:=hQ j hj 0 (by omega) (by omega);rw[<- hU]at this ⊢; exact this
   ·have:=hQ j hj 1 (by omega) (by omega);rw[<- hU]at this ⊢; exact this
 have hD:d4 (U (f 0)) (U (f 1)) (U (f 2)) (U (f 3)) 0 1 2 3≠0:=by rw[f0,f1,f2,f3]; exact q3
 have hDW:=d4W (a:=U (f 0)) (b:=U (f 1)) (c:=U (f 2)) (d:=U (f 3)) (bU _ (hlt 0 (by omega))) (bU _ (hlt 1 (by omega))) (bU _ (hlt 2 (by omega))) (bU _ (hlt 3 (by omega))) 0 1 2 3;have hcl:∀ j,j<4->c j<4:=λj hj=>by
  rcases(show j=3\/j<3 by omega)with rfl|g
  ·exact hc
  ·have:=hJ.inc j 3 g (by omega); omega
 refine⟨d4 (U (f 0)) (U (f 1)) (U (f 2)) (U (f 3)) 0 1 2 3,λj x=>d4 (U (f 0)) (U (f 1)) (U (f 2)) (U (f 3)) 0 1 2 3*un (c j) x,hD,λj hj=>⟨?_,?_,λi hi hne=>?_,λx=>?_⟩⟩
 ·have h1:=Sp.sum (Sp.sum (Sp.sum (Sp.smul (U (f 0) (c j)) (hmem 0 (by omega))) (Sp.smul (U (f 1) (c j)) (hmem 1 (by omega)))) (Sp.smul (U (f 2) (c j)) (hmem 2 (by omega)))) (Sp.smul (U (f 3) (c j)) (hmem 3 (by omega)));refine cast (congrArg _ ?_) h1
  funext x
  rcases Nat.lt_or_ge x 4 with g|g
  ·exact a2J (λj=>U (f j)) x (c j) g (hcl j hj)
  ·have e:∀ m,cof (λj=>U (f j)) m x=0:=λm=>by
    have:¬ x<4:=by omega
    simp only[cof,this,if_false]
   have:¬ x=c j:=by have:=hcl j hj; omega
   simp only[e,un,this,if_false];simp
 ·show _*un (c j) (c j)=_;rw[KG,Int.mul_one]
 ·show _*un (c j) (c i)=_;rw[GU,Int.mul_zero];intro e;rcases Nat.lt_trichotomy i j with g|g|g
  ·have:=hJ.inc i j g hj; omega
  ·exact hne g
  ·have:=hJ.inc j i g hi; omega
 ·by_cases e:x=c j
  ·subst e;show (_*un (c j) (c j)).natAbs<=_;rw[KG,Int.mul_one]; omega
  ·show (_*un (c j) x).natAbs<=_;rw[GU e,Int.mul_zero]; simp
end
end Go.Lz
namespace Go.PM
open Go Go.RowKit Go.Proofs Go.Lz
theorem aTL {ps:List Int} {n:Nat} (hp:pI (ps,())=some (0,())) (hl:ps.length=n) (hn:n<=4) (rows:List (List Int)) (hk:rows.length<=3) (hlen:∀ r∈rows,r.length=n) (hr:∀ r∈rows,∀ a∈r,a.natAbs<=9) :
  ∃ t r S K,(∃ s,Hn t S s)/\(∃ p,Hn r K p)/\Wd t n S/\Wd r n K/\jX n rows.length (KC rows) r K/\jX n r K t S/\Wd rows.length n (KC rows)/\Big rows.length n (KC rows) 9/\Big t n S 1000000000/\Big r n K 1000000000 /\
   ∀ vals:Bool,pX (ps,rows,vals,())=some ((ps,bif vals then (Mr r n K,Mr t n S) else (Mr t n S,Mr r n K)),0,()):=by
 have hrow:∀ i,i<rows.length->∃ r,r∈rows/\KC rows i=vL r:=λi hi=>⟨rows[i],List.getElem_mem hi,by unfold KC; simp[List.getD,hi]⟩
 have hw:Wd rows.length n (KC rows):=λi hi x hx=>by
  obtain⟨r,hr1,hr2⟩:=hrow i hi;rw[hr2]; unfold vL;have:=hlen r hr1;simp[List.getD,List.getElem?_eq_none (show r.length<=x by omega)]
 have hB:Big rows.length n (KC rows) 10:=λi hi x hx=>by
  obtain⟨r,hr1,hr2⟩:=hrow i hi;rw[hr2]; unfold vL;have hl:=hlen r hr1;have:r.getD x 0=r[x]'(by omega):=by simp[List.getD,show x<r.length by omega]
  rw[this];exact Nat.le_succ_of_le (hr r hr1 _ (List.getElem_mem _))
 have b10:4*(24*(10*10*10*10))<=1000000000:=by decide
 obtain⟨d,M,q,g1,g2,g3,g4,g5,g6⟩:=of_eq rows (n:=n) (by omega) (by omega) hlen (E:=λd=>10^dg 1 d) (T:=λd=>10^(5*dg 1 d+1)) (λr h a ha=>Nat.le_succ_of_le (hr r h a ha)) (show 10^dg 1 0<=1000000000 by decide) (aN8 (.inl (by omega)) (by decide)) λd H p hd hH hs hwd i hi x hx=>by
  have hdg:=(aO0 (k:=rows.length) (M:=KC rows) (E:=10) (by omega) hH (λj hj=>⟨1,by decide,by
   have:=(hs _).2 (Sp.mem hj);refine cast (oZ _ ?_) this
   funext x; simp⟩) (hB.all hw)).mono λv=>(hs v).1
  exact oR (oR (Hn.aEI hH hdg i hi x) (Nat.mul_le_mul (by omega) (aU9 (by decide) (by omega)))) b10
 have hd:=(Hn.gL g3 g5).1;obtain⟨m,A,a1,a2⟩:=aBC (by omega) (by omega) g5 g6;obtain⟨m',A',J',K,p,r,k1,k2,k3,k4,k5,k6,k7⟩:=aA4 (by omega) hn g5 (by rw[<- p9]; exact g6) a2;obtain⟨m2,A2,J2,S,s,t,c1,c2,c3,c4,c5,c6,c7⟩:=aJE (by omega) hn k6 k7 k2;have hI:jX n rows.length (KC rows) r K:=k5.of_same g4.symm;have bK:Big r n K 1000000000:=λi hi x hx=>oR (T5 (E:=10) (D:=1) hn (by omega) hw hB (by decide) (by decide) (by decide) k4 hI i hi x) b10
 have bS:Big t n S 1000000000:=λi hi x hx=>oR (aYJ (E:=10) (D:=1) (by omega) hn hw hB (by decide) (by decide) (by decide) hI c4 c5 i hi x) b10
 have s1:=ZD g3 hn g5 g6 k5 c4 c5 bS;have s2:=PW g3 hn g5 g6 k4 k5 bK;have back:=jX.back g5 k5 c5;have e0:eqI 0 0=true:=by decide
 have e1:((ps.length:Nat):Int)=(n:Int):=by rw[hl]
 have g1':DE ((n:Int),rows,())=some (((n:Int),Mr d n M),0,()):=g1;have hB9:Big rows.length n (KC rows) 9:=λi hi x hx=>by
  obtain⟨r,hr1,hr2⟩:=hrow i hi;rw[hr2]; unfold vL;have hl:=hlen r hr1;have:r.getD x 0=r[x]'(by omega):=by simp[List.getD,show x<r.length by omega]
  rw[this];exact hr r hr1 _ (List.getElem_mem _)
 refine⟨t,r,S,K,⟨s,c4⟩,⟨p,k4⟩,c6,k6,hI,c5,hw,hB9,bS,bK,λvals=>?_⟩;cases vals with
 | false=>simp only[pX,hp,aD,e0,Bool.not_true,oD,e1,g1',s1,s2]
 | true=>simp only[pX,hp,aD,e0,Bool.not_true,oD,oC,e1,g1',s1,s2]
theorem a5I {n d E:Nat} {C:Nat->V} {q:Nat->Nat} (hH:Hn d C q) (hw:Wd d n C) (hn:n<=4) (hE:Big d n C E):∃ D w W,Dw n d C d q D w W:=by
 obtain⟨d4,hlt⟩:=Hn.gL hH hw;have hP:∀ r,r<=4->∃ W,aKG d (λ_=>E) W r:=λr hr=>by
  rcases(show r=0\/r=1\/r=2\/r=3\/r=4 by omega)with rfl|rfl|rfl|rfl|rfl
  ·exact⟨1,oM 1⟩
  ·exact⟨E,λ_ _=>oM _⟩
  ·exact⟨2*(E*E),λ_ _ _ _ _=>oM _⟩
  ·exact⟨4*(E*E*E),λ_ _ _ _ _ _ _ _ _=>oM _⟩
  ·exact⟨16*(E*E*E*E),λ_ _ _ _ _ _ _ _ _ _ _ _ _ _=>oM _⟩
 obtain⟨W,hW⟩:=hP d (by omega);obtain⟨D,w,h⟩:=Dw.of (n:=n) (WD (k:=d) (M:=C) (p:=q) (by omega) (hH.chain λj hj=>⟨1,by decide,by simpa using Sp.mem hj⟩) (hE.all hw) hW) hlt hw λv hv hz=>hH.zero hv hz
 exact⟨D,w,W,h⟩
theorem aQH {n d r E:Nat} {C K:Nat->V} {q p:Nat->Nat} (hH:Hn d C q) (hw:Wd d n C) (hn:n<=4) (hE:Big d n C E) (hK:Hn r K p) (hI:jX n d C r K):r+d=n:=by
 obtain⟨D,w,W,h⟩:=a5I hH hw hn hE;exact h.aC1 hK.ind hI
structure RS (ps:List Int) (n d r:Nat) (C K:Nat->V):Prop extends RT ps n d r C K where
 c8:Big d n C 8748
 k8:Big r n K 8748
 fc:∃ k F B,k<=4/\Fam d C k F B/\(Q2 k B\/(r=2/\∃ k' F',(∀ j,j<k'->Sp r K (F' j))/\(∃ D:Int,D≠0/\∀ v,Sp r K v->Sp k' F' (λx=>D*v x))/\∀ j,j<k'->∀ x,(F' j x).natAbs<=9))
 fk:∃ k F B,k<=4/\Fam r K k F B
theorem a6U(t:Nat)(h:t<=3):t*W9 t<=8748:=by rcases(show t=0\/t=1\/t=2\/t=3 by omega)with rfl|rfl|rfl|rfl <;> decide
theorem a6J(n d r:Nat)(hn:n<=4)(h:r+d=n)(hd:d<=3):r*W9 d<=8748:=by
 have hr:r<=4-d:=by omega
 refine oR (Nat.mul_le_mul_right _ hr) ?_;rcases(show d=0\/d=1\/d=2\/d=3 by omega)with rfl|rfl|rfl|rfl <;> decide
theorem a1C {ps:List Int} {n:Nat} (hp:pI (ps,())=some (0,())) (hl:ps.length=n) (hn:n<=4) (rows:List (List Int)) (hk:rows.length<=3) (hlen:∀ r∈rows,r.length=n) (hr:∀ r∈rows,∀ a∈r,a.natAbs<=9) (vals:Bool) :
  ∃ d r C K,pX (ps,rows,vals,())=some ((ps,(Mr d n C,Mr r n K)),0,())/\RS ps n d r C K:=by
 obtain⟨t,r,S,K,⟨s,hS⟩,⟨p,hK⟩,wS,wK,hI,hI2,wR,bR,bS,bK,hb⟩:=aTL hp hl hn rows hk hlen hr;generalize hk':rows.length=k at *;generalize KC rows=R at *;obtain⟨d,H,c,g1,hH,hs,wH⟩:=OP (k:=k) (n:=n) (M:=R) (.inl (by omega)) (by omega) (by omega) wR (D:=1) (λi hi x hx=>Nat.le_succ_of_le (bR i hi x hx)) (by decide);have hlt:=(Hn.gL hH wH).2;have hall:=bR.all wR;have d3:d<=3:=by omega
 have span1:∀ j,j<d->∃ t:Int,t≠0/\Sp k R (λi=>t*H j i):=λj hj=>⟨1,by decide,by
  have:=(hs _).2 (Sp.mem hj);simpa using this⟩
 have hcr:=WD (k:=k) (M:=R) (p:=c) (W:=W9 d) (B:=λ_=>9) (by omega) (hH.chain span1) hall (a13 k d (by omega));obtain⟨D,w,hw⟩:=Dw.of (n:=n) hcr hlt wR λv hv hz=>hH.zero ((hs v).1 hv) hz
 have hrd:=hw.aC1 hK.ind hI;obtain⟨D0,hD0,hsp⟩:=aI9 wR hH hs hlt (aSN hcr) hI hI2;have hmem:∀ j,j<k->Sp t S (R j):=λj hj=>(hI2 _).2 ⟨wR j hj,λx hx=>by
  rw[nI];exact((hI _).1 (Sp.mem hx)).2 j hj⟩
 have td:t<=d:=hS.ind.aC1 (M:=H) λi hi=>⟨D0,hD0,(hs _).1 (hsp _ (Sp.mem hi))⟩
 have dt:d<=t:=hH.ind.aC1 (M:=S) λi hi=>⟨1,by decide,by
  have:=Sp.trans hmem ((hs _).2 (Sp.mem hi));simpa using this⟩
 have s8:Big t n S 8748:=λi hi x _=>by
  have:=Hn.aEI hS ((aSN (WD (k:=k) (M:=R) (p:=s) (W:=W9 t) (B:=λ_=>9) (by omega) (hS.chain λj hj=>⟨D0,hD0,hsp _ (Sp.mem hj)⟩) hall (a13 k t (by omega)))).mono λv hv=>Sp.trans hmem hv) i hi x;exact oR this (a6U t (by omega))
 have k8:Big r n K 8748:=λi hi x _=>oR (a1E hn hw hH hs hall (a13 k d (by omega)) hK hI i hi x) (a6J n d r hn hrd d3)
 have famS:Fam t S k R (λ_=>9):=a7W hmem ⟨D0,hD0,hsp⟩ hall;obtain⟨famK',hq⟩:=a7P hn d3 hw hH.inc hI;have back:=jX.back wR hI hI2;cases vals with
 | false =>
  refine⟨t,r,S,K,hb false,⟨⟨hp,hl,hn,⟨s,hS⟩,⟨p,hK⟩,wS,wK,bS,bK,back,hI2⟩,s8,k8,⟨k,R,λ_=>9,by omega,famS,.inl λ_ _ _ _ _=>(by show 9*9<=81; decide)⟩,⟨n,_,_,hn,famK'⟩⟩⟩
 | true =>
  refine⟨r,t,K,S,hb true,⟨⟨hp,hl,hn,⟨p,hK⟩,⟨s,hS⟩,wK,wS,bK,bS,hI2,back⟩,k8,s8,⟨n,_,_,hn,famK',?_⟩,⟨k,R,λ_=>9,by omega,famS⟩⟩⟩;rcases hq with hq|hq
  ·exact .inl hq
  ·exact .inr ⟨by omega,k,R,hmem,⟨D0,hD0,hsp⟩,hall⟩
theorem aPM(v:Int) (h0:0<=v) (h1:v<256) (rows:List (Int×Int×Int×Int)) (hk:rows.length<=3) (hr:∀ t∈rows,I8 t) (vals:Bool) :
  ∃ d r C K,nA ((v,(rows,vals)),())=some ((L12.getD (v%10).toNat [],(Mr d (L12.getD (v%10).toNat []).length C,Mr r (L12.getD (v%10).toNat []).length K)),())/\RS (L12.getD (v%10).toNat []) (L12.getD (v%10).toNat []).length d r C K:=by
 obtain⟨hp,hl⟩:=a58 (v%10).toNat (by omega);have hP:=aYR v h0 h1;generalize L12.getD (v%10).toNat []=ps at hp hl hP ⊢;have key:=aU (step:=sK) (N:=2^64) (λs=>((v,(rows,vals)),([],([],[])),ps,(rows.take s).map (λt=>(List.range ps.length).map (λi=>(L6 t i).tmod 10)),(s:Int),())) rows.length
  ((v,(rows,vals)),([],([],[])),ps,rows.map (λt=>(List.range ps.length).map (λi=>(L6 t i).tmod 10)),()) (by omega) (λs hs=>?_) ?_
 ·have key:yQ ((v,(rows,vals)),([],([],[])),ps,[],0,())=_:=key;obtain⟨d,r,C,K,b1,b2⟩:=a1C hp rfl hl (rows.map (λt=>(List.range ps.length).map (λi=>(L6 t i).tmod 10))) (by rw[List.length_map]; omega) (λr hr=>by
   obtain⟨t,_,rfl⟩:=List.mem_map.1 hr;simp) (λr hr a ha=>by
   obtain⟨t,_,rfl⟩:=List.mem_map.1 hr;obtain⟨i,_,rfl⟩:=List.mem_map.1 ha;rw[Int.natAbs_tmod];have:=Nat.mod_lt (L6 t i).natAbs (show 0<(10:Int).natAbs by decide);have e:(10:Int).natAbs=10:=rfl;omega) vals
  refine⟨d,r,C,K,?_,b2⟩;simp only[nA,hP,aD,key,b1]
 ·have e1:ltI (s:Int) (rows.length:Int)=true:=by rw[aE]; exact oT (by omega)
  have e2:ltI (s:Int) 3=true:=by rw[aE]; exact oT (by omega)
  have e3:=bX s (by omega);have e4:aF (s:Int) rows.length=true:=by rw[aM]; exact oT (by omega)
  have e5:((s:Nat):Int).toNat=s:=oN _;have e6:rows.getD s (0,0,0,0)=rows[s]:=by simp[List.getD,hs]
  have e7:=aRR ps hl rows[s] (hr _ (List.getElem_mem hs));have e8:∀ x:List Int,Nat.ble [x].length 1048576=true:=λ_=>rfl
  have e9:Nat.ble ((rows.take s).map (λt=>(List.range ps.length).map (λi=>(L6 t i).tmod 10))).length 1048576=true:=by rw[dN,List.length_map,List.length_take]; exact oT (by omega)
  have e10:(rows.take (s+1)).map (λt=>(List.range ps.length).map (λi=>(L6 t i).tmod 10))=(rows.take s).map (λt=>(List.range ps.length).map (λi=>(L6 t i).tmod 10))++[(List.range ps.length).map (λi=>(L6 rows[s] i).tmod 10)]:=by rw[List.take_succ_eq_append_getElem hs,List.map_append]; rfl
  simp only[sK,e1,e2,oC,e4,e5,e6,e7,aD,e8,e9,e3,e10]
 ·have e1:ltI (rows.length:Int) (rows.length:Int)=false:=by rw[aE]; exact oF (by omega)
  simp only[sK,e1,oD,List.take_length]
theorem a1A(k E r:Nat)(hr:r<=4):∃ W,aKG k (λ_=>E) W r:=by
 rcases(show r=0\/r=1\/r=2\/r=3\/r=4 by omega)with rfl|rfl|rfl|rfl|rfl
 ·exact⟨1,oM 1⟩
 ·exact⟨E,λ_ _=>oM _⟩
 ·exact⟨2*(E*E),λ_ _ _ _ _=>oM _⟩
 ·exact⟨4*(E*E*E),λ_ _ _ _ _ _ _ _ _=>oM _⟩
 ·exact⟨16*(E*E*E*E),λ_ _ _ _ _ _ _ _ _ _ _ _ _ _=>oM _⟩
theorem a6A(t:Nat)(h:t<=3):t*WW t<=1000000000:=by rcases(show t=0\/t=1\/t=2\/t=3 by omega)with rfl|rfl|rfl|rfl <;> decide
theorem a6M(n d z:Nat)(hn:n<=4)(h:z+d=n)(hd:d<=3):z*WW d<=1000000000:=by
 have hr:z<=4-d:=by omega
 refine oR (Nat.mul_le_mul_right _ hr) ?_;rcases(show d=0\/d=1\/d=2\/d=3 by omega)with rfl|rfl|rfl|rfl <;> decide
section
variable {n d d' k k':Nat} {X Y F F':Nat->V} {B B':Nat->Nat}
theorem _root_.Go.Lz.Fam.pick (h:Fam d X k F B)(h':Fam d' Y k' F' B'){r:Nat}(hr:r<=3):aKG (k+k') (apB k B B') (WW r) r:=by
 rcases(show r=0\/r=1\/r=2\/r=3 by omega)with rfl|rfl|rfl|rfl
 ·exact oM 1
 ·exact h.a6V h'
 ·exact h.a6C h'
 ·exact h.a68 h'
theorem _root_.Go.Lz.Fam.aV2 (h:Fam d X k F B)(h':Fam d' Y k' F' B'):∀ j,j<k+k'->Sp (d+d') (lW d X Y) (lW k F F' j):=λj hj=>by
 by_cases g:j<k
 ·rw[FX F F' g]; exact JW (h.mem j g)
 ·have e:lW k F F' j=F' (j-k):=by simp[lW,g]
  rw[e]; exact GI (h'.mem _ (by omega))
theorem _root_.Go.Lz.Fam.aQ9 (h:Fam d X k F B)(h':Fam d' Y k' F' B'):∃ D:Int,D≠0/\∀ v,Sp (d+d') (lW d X Y) v->Sp (k+k') (lW k F F') (λx=>D*v x):=by
 obtain⟨D,h0,h1⟩:=h.span;obtain⟨D',h0',h1'⟩:=h'.span;refine⟨D*D',Int.mul_ne_zero h0 h0',λv hv=>?_⟩;obtain⟨a,b,ha,hb,rfl⟩:=aB4 hv;have g1:=JW (k':=k') (M':=F') (Sp.smul D' (h1 a ha));have g2:=GI (k:=k) (M:=F) (Sp.smul D (h1' b hb));refine cast (oZ _ ?_) (Sp.sum g1 g2)
 funext x
 show D'*(D*a x)+D*(D'*b x)=D*D'*(a x+b x);grind
theorem Wd.lW (wX:Wd d n X)(wY:Wd d' n Y):Wd (d+d') n (Lz.lW d X Y):=λi hi x hx=>by
 by_cases g:i<d
 ·rw[FX X Y g]; exact wX i g x hx
 ·have e:Lz.lW d X Y i=Y (i-d):=by simp[Lz.lW,g]
  rw[e]; exact wY _ (by omega) x hx
theorem Big.lW {E:Nat}(wX:Big d n X E)(wY:Big d' n Y E):Big (d+d') n (Lz.lW d X Y) E:=λi hi x hx=>by
 by_cases g:i<d
 ·rw[FX X Y g]; exact wX i g x hx
 ·have e:Lz.lW d X Y i=Y (i-d):=by simp[Lz.lW,g]
  rw[e]; exact wY _ (by omega) x hx
theorem a3F {m k:Nat} {A F:Nat->V} (mem:∀ j,j<k->Sp m A (F j)) (span:∃ D:Int,D≠0/\∀ v,Sp m A v->Sp k F (λx=>D*v x)) (y:V):Ker n m A y↔Ker n k F y:=by
 constructor
 ·intro g;exact⟨g.1,λj hj=>g.span (mem j hj)⟩
 ·intro g;obtain⟨D,h0,h1⟩:=span;refine⟨g.1,λi hi=>?_⟩;have:=g.span (h1 _ (Sp.mem hi));rw[nI]at this;have e:(λx=>D*A i x)=λx=>(λ_=>(0:Int)) x+D*A i x:=by funext x; show D*A i x=0+D*A i x; omega
  rw[e,vY,HW,Int.zero_add,nI]at this;exact(Int.mul_eq_zero.1 this).resolve_left h0
theorem a1V {z t:Nat} {Z S:Nat->V} {s:Nat->Nat} (hn:n<=4) (hz:z=0) (hS:Hn t S s) (hI2:jX n z Z t S):Big t n S 4:=λi hi x _=>by
 have hwS:Wd t n S:=λi hi x hx=>hI2.width hi x hx
 obtain⟨t4,hlt⟩:=Hn.gL hS hwS;have hd:Dg t S t s 1:=⟨1,λj=>un (s j),by decide,λj hj=>⟨(hI2 _).2 ⟨λc hc=>GU (by have:=hlt j hj; omega),λx hx=>by omega⟩,KG _,λl hl hne=>GU λe=>hne (by
  rcases Nat.lt_trichotomy l j with g|g|g
  ·have:=hS.inc l j g hj; omega
  ·exact g
  ·have:=hS.inc j l g hl; omega),λx=>by by_cases e:x=s j <;> simp[un,e]⟩⟩
 have:=Hn.aEI hS hd i hi x;omega
theorem aRK(hn:n<=4) (hk:k<=4) (hk':k'<=4) (h:Fam d X k F B) (h':Fam d' Y k' F' B') (wX:Wd d n X) (wY:Wd d' n Y)
  {z t:Nat} {Z S:Nat->V} {c s:Nat->Nat} (hZ:Hn z Z c) (hI:jX n (d+d') (lW d X Y) z Z) (hS:Hn t S s) (hI2:jX n z Z t S) :
  Big z n Z 1000000000/\Big t n S 1000000000/\z+t=n/\∃ D:Int,D≠0/\∀ v,Sp t S v->Sp (d+d') (lW d X Y) (λx=>D*v x):=by
 have hle:=h.aWR h';have hmem:=h.aV2 h';have hspan:=h.aQ9 h';have wXY:=wX.lW wY;have wF:∀ i,i<k+k'->∀ x,n<=x->lW k F F' i x=0:=λi hi x hx=>Sp.lC (λj hj=>wXY j hj x hx) (hmem i hi)
 have b29:∀ i,i<k+k'->∀ x,(lW k F F' i x).natAbs<=2916:=λi hi x=>by
  by_cases g:i<k
  ·rw[FX F F' g]; exact oR (h.le i g x) (h.g1 i g)
  ·have e:lW k F F' i=F' (i-k):=by simp[lW,g]
   rw[e]; exact oR (h'.le _ (by omega) x) (h'.g1 _ (by omega))
 obtain⟨f,H,p,g1,hH,hs,wH⟩:=OP (k:=k+k') (n:=n) (M:=lW k F F') (.inr hn) (by omega) (by omega) wF (D:=4) (λi hi x hx=>oR (b29 i hi x) (by decide)) (by decide);obtain⟨f4,hlt⟩:=Hn.gL hH wH;have span1:∀ j,j<f->∃ t:Int,t≠0/\Sp (k+k') (lW k F F') (λi=>t*H j i):=λj hj=>⟨1,by decide,by
  have:=(hs _).2 (Sp.mem hj);simpa using this⟩
 obtain⟨W0,hW0⟩:=a1A (k+k') 2916 f (by omega);have hcr:=WD (p:=p) (by omega) (hH.chain span1) b29 hW0;obtain⟨D,w,hw⟩:=Dw.of (n:=n) hcr hlt wF λv hv hz=>hH.zero ((hs v).1 hv) hz
 have hIF:jX n (k+k') (lW k F F') z Z:=λy=>(hI y).trans (a3F hmem hspan y)
 have hr:=hw.aC1 hZ.ind hIF;obtain⟨D0,hD0,hsp⟩:=aI9 wF hH hs hlt (aSN hcr) hIF hI2;have tf:t<=f:=hS.ind.aC1 (M:=H) λi hi=>⟨D0,hD0,(hs _).1 (hsp _ (Sp.mem hi))⟩
 have hmemS:∀ v,Sp (k+k') (lW k F F') v->Sp t S v:=λv hv=>(hI2 _).2 ⟨λx hx=>Sp.lC (λj hj=>wF j hj x hx) hv,λx hx=>by
  rw[nI];exact((hIF _).1 (Sp.mem hx)).span hv⟩
 have ft:f<=t:=hH.ind.aC1 (M:=S) λi hi=>⟨1,by decide,by
  have:=hmemS _ ((hs _).2 (Sp.mem hi));simpa using this⟩
 refine⟨λi hi x _=>?_,?_,by omega,D0,hD0,λv hv=>Sp.trans hmem (hsp v hv)⟩
 ·have f3:f<=3:=by omega
  exact oR (a1E hn hw hH hs hle (h.pick h' f3) hZ hIF i hi x) (a6M n f z hn hr f3)
 ·by_cases t3:t<=3
  ·intro i hi x _;have:=Hn.aEI hS ((aSN (WD (p:=s) (by omega) (hS.chain λj hj=>⟨D0,hD0,hsp _ (Sp.mem hj)⟩) hle (h.pick h' t3))).mono hmemS) i hi x;exact oR this (a6A t t3)
  ·intro i hi x hx;exact oR (a1V hn (show z=0 by omega) hS hI2 i hi x hx) (by decide)
theorem a4E {ps:List Int} {r r':Nat} {C K C' K':Nat->V} (h:RS ps n d r C K) (h':RS ps n d' r' C' K') {s:Nat} {J:Nat->V} {c:Nat->Nat} (hJ:Hn s J c) (hs:Same (d+d') (lW d C C') s J):Big s n J 1000000000:=by
 obtain⟨k,F,B,hk,fm,q⟩:=h.fc;obtain⟨k',F',B',hk',fm',q'⟩:=h'.fc;have hn:=h.n4;have wXY:=h.wc.lW h'.wc;have wJ:Wd s n J:=λi hi x hx=>Sp.lC (λj hj=>wXY j hj x hx) ((hs _).2 (Sp.mem hi))
 obtain⟨s4,hlt⟩:=Hn.gL hJ wJ;obtain⟨D,h0,hsp⟩:=fm.aQ9 fm';have hmem:=fm.aV2 fm';have hch:=hJ.chain (k:=k+k') (M:=lW k F F') λj hj=>⟨D,h0,hsp _ ((hs _).2 (Sp.mem hj))⟩
 have main:∀ {W},aKG (k+k') (apB k B B') W s->∀ i,i<s->∀ x,(J i x).natAbs<=s*W:=λhW =>
  Hn.aEI hJ ((aSN (WD (p:=c) (by omega) hch (fm.aWR fm') hW)).mono λv hv=>(hs v).1 (Sp.trans hmem hv))
 by_cases s3:s<=3
 ·exact λi hi x _=>oR (main (fm.pick fm' s3) i hi x) (a6A s s3)
 ·have e4:s=4:=by omega
  subst e4;have n4:n=4:=by omega
  subst n4;have fin:(Q2 k B\/Q2 k' B')->Big 4 4 J 1000000000:=λhq i hi x _=>oR (main (fm.a7A fm' hq) i hi x) (by decide)
  rcases q with q|⟨e2,kf,Ff,m1,m2,m3⟩
  ·exact fin (.inl q)
  rcases q' with q'|⟨e2',kf',Ff',m1',m2',m3'⟩
  ·exact fin (.inr q')
  subst e2; subst e2';obtain⟨p,hp⟩:=h.hk;obtain⟨p',hp'⟩:=h'.hk;have hd:=a7T hp hp' h.wk h'.wk m1 m2 m1' m2' m3 m3' h.ker2 h'.ker2 hJ (hlt 3 (by omega)) hs;exact λi hi x _=>oR (Hn.aEI hJ hd i hi x) (by decide)
end
theorem aIK {d n:Nat} {M:Nat->V} (A:List (List ByteArray)) (hd:d<=12) (hn:n<=12) (hM:Big d n M 1000000000) :
  cL () (Mr d n M,()) A=some ((List.range d).map (λi=>(A.length+i,0,n)),A++(List.range d).map (λi=>Zr n (M i))):=by
 have key:=aU (step:=dQ) (N:=2^64)
  (λt=>((List.range t).map (λi=>(A.length+i,0,n)),Mr d n M,(d:Int),(t:Int),A++(List.range t).map (λi=>Zr n (M i)),())) d ((List.range d).map (λi=>(A.length+i,0,n)),A++(List.range d).map (λi=>Zr n (M i)),()) (by omega) (λt ht=>?_) ?_
 ·have e0:A++(List.range 0).map (λi=>Zr n (M i))=A:=by simp
  have key:mM ([],Mr d n M,(d:Int),0,A++(List.range 0).map (λi=>Zr n (M i)),())=_:=key;rw[e0]at key;simp only[cL,cJ,key,aD]
 ·have e1:ltI (t:Int) (d:Int)=true:=by rw[aE]; exact oT (by omega)
  have e2:aF (t:Int) d=true:=by rw[aM]; exact oT (by omega)
  have e3:((t:Nat):Int).toNat=t:=oN _;have e5:=aFM (Vr n (M t)) (by rw[vW]; omega) λa ha=>by have:=aBJ (λx hx=>hM t ht x hx) a ha; omega
  have e6:(A++(List.range t).map (λi=>Zr n (M i))).length=A.length+t:=by simp
  have e7:Nat.ble [(A.length+t,0,n)].length 1048576=true:=rfl;have e8:Nat.ble ((List.range t).map (λi=>(A.length+i,0,n))).length 1048576=true:=by rw[dN,List.length_map,List.length_range]; exact oT (by omega)
  have e9:=bX t (by omega);have e10:(Zr n (M t)).length=n:=mC _ _;have e11:(A++(List.range t).map (λi=>Zr n (M i)))++[Zr n (M t)]=A++(List.range (t+1)).map (λi=>Zr n (M i)):=by rw[List.range_succ,List.map_append,List.append_assoc]; rfl
  have e12:(List.range t).map (λi=>(A.length+i,0,n))++[(A.length+t,0,n)]=(List.range (t+1)).map (λi=>(A.length+i,0,n)):=by rw[List.range_succ,List.map_append]; rfl
  rw[aE0]at e5;simp only[dQ,e1,cJ,e2,e3,Y5 M ht,e5,aD,e6,e7,e8,e9,e10,e11,e12,oC]
 ·have e1:ltI (d:Int) (d:Int)=false:=by rw[aE]; exact oF (by omega)
  simp only[dQ,e1,oD]
section
variable {d n d':Nat} {A B:Nat->V} {p q:Nat->Nat}
theorem aDS(hA:Hn d A p)(hB:Hn d' B q)(hn:n<=12)(wA:Wd d n A)(wB:Wd d' n B)(bA:Big d n A 1000000000)(bB:Big d' n B 1000000000):qY (((n:Int),Mr d n A),((n:Int),Mr d' n B),())=some (0,()):=by
 have hd:=(Hn.gL hA wA).1;have hd':=(Hn.gL hB wB).1;have c1:=XR hA wA (by omega) hn bA;have c2:=XR hB wB (by omega) hn bB;have e0:eqI 0 0=true:=by decide
 have en:eqI (n:Int) (n:Int)=true:=by rw[fP]; exact oT rfl
 have key:=aU (step:=nX) (N:=2^64) (λt=>(((n:Int),Mr d n A),((n:Int),Mr d' n B),[((n:Int),Mr d n A),((n:Int),Mr d' n B)],2,(t:Int),())) 2 (.inr (((n:Int),Mr d n A),((n:Int),Mr d' n B),())) (by omega) (λt ht=>?_) ?_
 ·have key:yX (((n:Int),Mr d n A),((n:Int),Mr d' n B),[((n:Int),Mr d n A),((n:Int),Mr d' n B)],([((n:Int),Mr d n A),((n:Int),Mr d' n B)].length:Int),0,())=_:=key;simp only[qY,key,aD,jN,en,Bool.not_true,oD]
 ·have e1:ltI (t:Int) 2=true:=by rw[aE]; exact oT (by omega)
  have e3:=bX t (by omega);rcases(show t=0\/t=1 by omega)with rfl|rfl
  ·have e2:aF ((0:Nat):Int) 2=true:=by decide
   simp only[nX,e1,oC,e3];show (bif aF ((0:Nat):Int) 2 then aC (mK (((n:Int),Mr d n A),())) _ else none)=_;simp only[e2,oC,c1,aD,e0,Bool.not_true,oD]
  ·have e2:aF ((1:Nat):Int) 2=true:=by decide
   simp only[nX,e1,oC,e3];show (bif aF ((1:Nat):Int) 2 then aC (mK (((n:Int),Mr d' n B),())) _ else none)=_;simp only[e2,oC,c2,aD,e0,Bool.not_true,oD]
 ·have e1:ltI ((2:Nat):Int) 2=false:=by decide
  simp only[nX,e1,oD]
theorem a5B(hA:Hn d A p) (hB:Hn d' B q) (hn:n<=4) (wA:Wd d n A) (wB:Wd d' n B) (bA:Big d n A 1000000000) (bB:Big d' n B 1000000000) {s:Nat} {J:Nat->V} {c:Nat->Nat} (hJ:Hn s J c) (hs:Same (d+d') (lW d A B) s J) (bJ:Big s n J 1000000000) :
  IV (((n:Int),Mr d n A),((n:Int),Mr d' n B),())=some (((n:Int),Mr s n J),0,()):=by
 have hd:=(Hn.gL hA wA).1;have hd':=(Hn.gL hB wB).1;have cb:=aDS hA hB (by omega) wA wB bA bB;have e0:eqI 0 0=true:=by decide
 have l1:=aIK (d:=d) (n:=n) (M:=A) [] (by omega) (by omega) bA;have l2:=aIK (d:=d') (n:=n) (M:=B) ([]++(List.range d).map (λi=>Zr n (A i))) (by omega) (by omega) bB;have e1:([]++(List.range d).map (λi=>Zr n (A i))).length=d:=by simp
 have hL:lH 0 (d+d') n ((List.range d).map (λi=>(([]:List (List ByteArray)).length+i,0,n))++(List.range d').map (λi=>(([]++(List.range d).map (λi=>Zr n (A i))).length+i,0,n))) ([]++(List.range d).map (λi=>Zr n (A i))++(List.range d').map (λi=>Zr n (B i))) (λi=>i) (lW d A B):=by
  refine⟨?_,λi hi=>⟨[],rfl,?_⟩,λi j _ _ e=>e⟩
  ·rw[e1,List.range_add,List.map_append,List.map_map]
   congr 1
   refine List.map_congr_left λi _=>?_
   simp
  ·rw[List.nil_append,List.nil_append]
   by_cases g:i<d
   ·rw[List.getElem?_append_left (by simpa using g),List.getElem?_map,List.getElem?_range g,FX A B g]; rfl
   ·have e:lW d A B i=B (i-d):=by simp[lW,g]
    rw[List.getElem?_append_right (by simp; omega),List.getElem?_map,List.length_map,List.length_range,List.getElem?_range (by omega),e]; rfl
 obtain⟨m',A',J',M',t,u,g1,g2,g3,g4,g5,g6,g7⟩:=UP (show d+d'<1048576 by omega) (show n<1048576 by omega) hL (wA.lW wB) (E:=λd=>10^dg 9 d) (T:=λd=>10^(5*dg 9 d+1)) (by show Big (d+d') n (lW d A B) (10^dg 9 0); rw[show (10^dg 9 0:Nat)=1000000000 by decide]; exact bA.lW bB) (aN8 (.inr hn) (by decide));obtain⟨f1,_,f3⟩:=Hn.unique hJ g4 (hs.symm.trans g5);subst f1;have hk:=(Hn.gL hJ λi hi x hx=>by rw[f3 i hi]; exact g6 i (by omega) x hx).1
 have hsh:=XY g3 g2 (by omega) (by omega) (λi hi x hx=>by rw[<- f3 i hi]; exact bJ i hi x hx) (n:Int);have e2:(List.range s).map (λi=>Vr n (M' i))=Mr s n J:=by
  refine List.map_congr_left λi hi=>?_
  rw[f3 i (List.mem_range.1 hi)]
 rw[e2]at hsh;have b1:Nat.ble ((List.range d').map (λi=>(([]++(List.range d).map (λi=>Zr n (A i))).length+i,0,n))).length 1048576=true:=by rw[dN,List.length_map,List.length_range]; exact oT (by omega)
 have b2:Nat.ble ((List.range d).map (λi=>(([]:List (List ByteArray)).length+i,0,n))).length 1048576=true:=by rw[dN,List.length_map,List.length_range]; exact oT (by omega)
 simp only[IV,cb,aD,e0,Bool.not_true,oD,l1,l2,b1,b2,oC,g1,hsh]
end
theorem aTP {ps:List Int}(hp:pI (ps,())=some (0,())):0<ps.length:=by
 cases ps with
 | nil =>
  have:pI (([]:List Int),())=some (13,()):=rfl;rw[this]at hp;cases hp
 | cons a l=>simp
theorem aPP {ps:List Int}(h0:0<ps.length)(h1:ps.length<=1048576):mS (ps,())=some (ps,()):=by
 have e1:Nat.blt 0 ps.length=true:=by rw[cD]; simpa using h0
 have e2:Nat.ble ps.length 1048576=true:=by rw[dN]; simpa using h1
 simp only[mS,e1,e2,oC]
theorem R5 {ps:List Int} {n:Nat} (hp:pI (ps,())=some (0,())) (hl:ps.length=n) (hn:n<=4) (rows:List (List Int)) (hk:rows.length<=12) (hlen:∀ r∈rows,r.length=n) (hr:∀ r∈rows,∀ a∈r,a.natAbs<=1000000000)
  {d r t:Nat} {M K S:Nat->V} {c p s:Nat->Nat} (hM:Hn d M c) (hsm:Same rows.length (KC rows) d M) (bM:Big d n M 1000000000) (hK:Hn r K p) (hI:jX n d M r K) (bK:Big r n K 1000000000) (hS:Hn t S s) (hI2:jX n r K t S) (bS:Big t n S 1000000000) :
  cM (ps,rows,())=some ((ps,(Mr t n S,Mr r n K)),0,()):=by
 have e0:eqI 0 0=true:=by decide
 have e1:((ps.length:Nat):Int)=(n:Int):=by rw[hl]
 obtain⟨d',M',c',g1,g2,g3,g4,g5,g6⟩:=of_eq rows hk (show n<=12 by omega) hlen (E:=λd=>10^dg 9 d) (T:=λd=>10^(5*dg 9 d+1)) (by rw[show (10^dg 9 0:Nat)=1000000000 by decide]; exact hr) (by rw[show (10^dg 9 0:Nat)=1000000000 by decide]; exact oM _) (aN8 (.inr hn) (by decide)) λd' H p' _ hH hs' _=>by
  obtain⟨f1,_,f3⟩:=Hn.unique hM hH (hsm.symm.trans hs');subst f1;exact λi hi x hx=>by rw[<- f3 i hi]; exact bM i hi x hx
 obtain⟨f1,_,f3⟩:=Hn.unique hM g3 (hsm.symm.trans g4);subst f1;have e2:(List.range d).map (λi=>Vr n (M' i))=Mr d n M:=by
  refine List.map_congr_left λi hi=>?_
  rw[f3 i (List.mem_range.1 hi)]
 rw[e2]at g1;have wM:Wd d n M:=λi hi x hx=>by rw[f3 i hi]; exact g5 i hi x hx
 have s1:=ZD hM hn wM bM hI hS hI2 bS;have s2:=PW hM hn wM bM hK hI bK;have hfr:CK (ps,rows,())=some (Mr t n S,Mr r n K,0,()):=by simp only[CK,hp,aD,e0,Bool.not_true,oD,e1,g1,s1,s2]
 simp only[cM,hfr,aD,e0,Bool.not_true,oD,aPP (aTP hp) (show ps.length<=1048576 by omega)]
theorem UX {d n:Nat} {M:Nat->V} (hd:d<=1000) (hn:n<=4) (hw:Wd d n M) {E D:Nat} (hE:Big d n M E) (h1:1<=E) (hD:E<=10^D) (hD2:D<=154):∃ r K p,r<=n/\Hn r K p/\jX n d M r K/\Wd r n K:=by
 have hB:=hE.wide (k:=d) (M:=M) h1;obtain⟨f,W,q,g1,g2,g3,g4⟩:=OP (k:=n) (n:=d+n) (M:=wide n d M) (.inl hn) (by omega) (by omega) hw.wide (λi hi x hx=>oR (hB i hi x hx) hD) hD2;obtain⟨j,b1,b2,b3⟩:=Hn.split g2 d;obtain⟨c1,c2⟩:=YR g2 g3 b1 b2 b3;exact⟨f-j,_,_,by omega,c1,c2,λi hi x hx=>c2.width hi x hx⟩
def wI(d n:Nat) (A B:Nat->V):Nat->V:=λi=>if i<d then (λx=>if x<n then A i x else A i (x-n)) else B (i-d)
section
variable {d n d':Nat} {A B:Nat->V}
theorem aIW {i:Nat}(h:i<d):wI d n A B i=λx=>if x<n then A i x else A i (x-n):=by simp only[wI,h,if_true]
theorem aGQ(i:Nat):wI d n A B (d+i)=B i:=by
 have e:¬ d+i<d:=by omega
 have e2:d+i-d=i:=by omega
 simp only[wI,e,if_false,e2]
theorem a4H(wA:Wd d n A)(wB:Wd d' n B){v:V}(h:Sp (d+d') (wI d n A B) v):∃ a b,Sp d A a/\Sp d' B b/\(∀ x,x<n->v x=a x+b x)/\∀ x,v (n+x)=a x:=by
 induction h with
 | zero=>exact⟨_,_,.zero,.zero,λ_ _=>rfl,λ_=>rfl⟩
 | add j t hj _ ih =>
  obtain⟨a,b,ha,hb,h1,h2⟩:=ih
  by_cases g:j<d
  ·refine⟨_,b,Sp.comb t ha (Sp.mem g),hb,λx hx=>?_,λx=>?_⟩
   ·rw[aIW g];have:=h1 x hx;simp only[hx,if_true]; omega
   ·rw[aIW g];have:=h2 x;have e1:¬ n+x<n:=by omega
    have e2:n+x-n=x:=by omega
    simp only[e1,if_false,e2,this]
  ·obtain⟨i,rfl⟩:∃ i,j=d+i:=⟨j-d,by omega⟩;refine⟨a,_,ha,Sp.comb t hb (Sp.mem (j:=i) (by omega)),λx hx=>?_,λx=>?_⟩
   ·rw[aGQ];have:=h1 x hx;simp only[]; omega
   ·rw[aGQ];have h5:=h2 x;have h6:=wB i (by omega) (n+x) (by omega);simp only[h5,h6,Int.mul_zero,Int.add_zero]
theorem aZJ {a b:V}(wB:Wd d' n B)(ha:Sp d A a)(hb:Sp d' B b):Sp (d+d') (wI d n A B) (λx=>if x<n then a x+b x else a (x-n)):=by
 have h1:Sp (d+d') (wI d n A B) (λx=>if x<n then a x else a (x-n)):=by
  induction ha with
  | zero =>
   refine cast (oZ _ ?_) (Sp.zero (k:=d+d') (M:=wI d n A B))
   funext x; split <;> rfl
  | add j t hj _ ih =>
   have:=Sp.add j t (show j<d+d' by omega) ih;rw[aIW hj]at this;refine cast (oZ _ ?_) this
   funext x
   by_cases g:x<n
   ·simp only[g,if_true]
   ·simp only[g,if_false]
 have h2:Sp (d+d') (wI d n A B) b:=Sp.trans (λj hj=>by have:=Sp.mem (k:=d+d') (M:=wI d n A B) (j:=d+j) (by omega); rwa[aGQ]at this) hb;have hz:∀ x,n<=x->b x=0:=λx hx=>Sp.lC (λj hj=>wB j hj x hx) hb
 refine cast (oZ _ ?_) (Sp.sum h1 h2)
 funext x
 by_cases g:x<n
 ·simp only[g,if_true]
 ·simp only[g,if_false,hz x (by omega),Int.add_zero]
theorem a6S(wA:Wd d n A)(wB:Wd d' n B):Wd (d+d') (n+n) (wI d n A B):=λi hi x hx=>by
 by_cases g:i<d
 ·rw[aIW g];have e:¬ x<n:=by omega
  simp only[e,if_false];exact wA i g _ (by omega)
 ·obtain⟨j,rfl⟩:∃ j,i=d+j:=⟨i-d,by omega⟩;rw[aGQ]; exact wB j (by omega) x (by omega)
theorem a5G {E:Nat}(wB:Wd d' n B)(bA:Big d n A E)(bB:Big d' n B E):Big (d+d') (n+n) (wI d n A B) E:=λi hi x hx=>by
 by_cases g:i<d
 ·rw[aIW g];show (if x<n then A i x else A i (x-n)).natAbs<=E;split
  ·rename_i h; exact bA i g x h
  ·exact bA i g _ (by omega)
 ·obtain⟨j,rfl⟩:∃ j,i=d+j:=⟨i-d,by omega⟩;rw[aGQ];rcases oG x n with h|h
  ·exact bB j (by omega) x h
  ·rw[wB j (by omega) x h]; simp
theorem a5Z(hA:Ind d A)(hB:Ind d' B)(wB:Wd d' n B)(wA:Wd d n A):Ind (d+d') (wI d n A B):=λc hc=>by
 have h1:∀ i,i<d->c i=0:=hA c λx=>by
  have:=hc (n+x);rw[aN0,KI (n:=d') λi hi=>by rw[aGQ,wB i hi _ (by omega),Int.mul_zero],Int.add_zero]at this;rw[<- this];refine wE λi hi=>?_
  have e1:¬ n+x<n:=by omega
  have e2:n+x-n=x:=by omega
  rw[aIW hi];simp only[e1,if_false,e2]
 have h2:∀ i,i<d'->c (d+i)=0:=hB (λi=>c (d+i)) λx=>by
  have:=hc x;rw[aN0,KI (n:=d) λi hi=>by rw[h1 i hi,Int.zero_mul],Int.zero_add]at this;rw[<- this];exact wE λi _=>by rw[aGQ]
 intro i hi
 by_cases g:i<d
 ·exact h1 i g
 ·have:=h2 (i-d) (by omega);rwa[show d+(i-d)=i by omega]at this
theorem aTB(wA:Wd d n A) (wB:Wd d' n B) {w:Nat} {W:Nat->V} {p:Nat->Nat} (hH:Hn w W p) (hs:Same (d+d') (wI d n A B) w W) {j:Nat} (hj:j<=w) (h1:∀ i,i<j->p i<n) (h2:∀ i,j<=i->i<w->n<=p i) :
  Hn (w-j) (λi y=>W (j+i) (n+y)) (λi=>p (j+i)-n)/\(∀ v,Sp (w-j) (λi y=>W (j+i) (n+y)) v↔Sp d A v/\Sp d' B v)/\Hn j (λi x=>if x<n then W i x else 0) p/\Same (d+d') (lW d A B) j (λi x=>if x<n then W i x else 0):=by
 refine⟨⟨λa b hab hb=>?_,λi hi x hx=>?_,λi hi=>?_,λa b hab hb=>?_⟩,λy=>⟨λhy=>?_,λ⟨ya,yb⟩=>?_⟩,⟨λa b hab hb=>hH.inc a b hab (by omega),λi hi x hx=>?_,λi hi=>?_,λa b hab hb=>?_⟩,λv=>⟨λhv=>?_,λhv=>?_⟩⟩
 ·have g1:=h2 (j+a) (by omega) (by omega);have g2:=hH.inc (j+a) (j+b) (by omega) (by omega);show p (j+a)-n<p (j+b)-n;omega
 ·exact hH.low (j+i) (by omega) (n+x) (by have:x<p (j+i)-n:=hx; omega)
 ·have g1:=h2 (j+i) (by omega) (by omega);show 0<W (j+i) (n+(p (j+i)-n));rw[show n+(p (j+i)-n)=p (j+i)by omega];exact hH.pos (j+i) (by omega)
 ·have g1:=h2 (j+b) (by omega) (by omega);show 0<=W (j+a) (n+(p (j+b)-n))/\W (j+a) (n+(p (j+b)-n))<W (j+b) (n+(p (j+b)-n));rw[show n+(p (j+b)-n)=p (j+b)by omega];exact hH.red (j+a) (j+b) (by omega) (by omega)
 ·have key:∃ v,Sp w W v/\(∀ x,x<n->v x=0)/\y=λc=>v (n+c):=by
   induction hy with
   | zero=>exact⟨_,.zero,λ_ _=>rfl,rfl⟩
   | add i t hi _ ih =>
    obtain⟨v,g1,g2,rfl⟩:=ih;refine⟨_,Sp.add (j+i) t (by omega) g1,λx hx=>?_,rfl⟩;have:=hH.low (j+i) (by omega) x (by have:=h2 (j+i) (by omega) (by omega); omega);simp only[g2 x hx,this,Int.mul_zero,Int.add_zero]
  obtain⟨v,g1,g2,rfl⟩:=key;obtain⟨a,b,ha,hb,q1,q2⟩:=a4H wA wB ((hs v).2 g1);have e:(λc=>v (n+c))=a:=by funext c; exact q2 c
  rw[e];refine⟨ha,?_⟩;have hb':=Sp.smul (-1) hb;refine cast (oZ _ ?_) hb'
  funext x
  rcases oG x n with g|g
  ·have:=q1 x g;have:=g2 x g;omega
  ·have z1:b x=0:=Sp.lC (λj hj=>wB j hj x g) hb;have z2:a x=0:=Sp.lC (λj hj=>wA j hj x g) ha;rw[z1,z2]; rfl
 ·have hv:=aZJ (n:=n) wB ya (Sp.smul (-1) yb);have:=Hn.drop hH hj h1 ((hs _).1 hv) (λx hx=>by simp only[hx,if_true]; omega);have key:∀ {v:V},Sp (w-j) (λi=>W (j+i)) v->Sp (w-j) (λi y=>W (j+i) (n+y)) (λc=>v (n+c)):=by
   intro v hv
   induction hv with
   | zero=>exact .zero
   | add i t hi _ ih=>exact Sp.add i t hi ih
  refine cast (oZ _ ?_) (key this)
  funext c
  have e1:¬ n+c<n:=by omega
  have e3:n+c-n=c:=by omega
  simp only[e1,if_false,e3]
 ·have:=hH.low i (by omega) x hx;show (if x<n then W i x else 0)=0;split
  ·exact this
  ·rfl
 ·have:=hH.pos i (by omega);have:=h1 i hi;show 0<(if p i<n then W i (p i) else 0);rw[if_pos this]; assumption
 ·have g:=h1 b hb;have:=hH.red a b hab (by omega);show 0<=(if p b<n then W a (p b) else 0)/\(if p b<n then W a (p b) else 0)<(if p b<n then W b (p b) else 0);rw[if_pos g,if_pos g]; exact this
 ·obtain⟨a,b,ha,hb,rfl⟩:=aB4 hv;have h3:=(hs _).1 (aZJ (n:=n) wB ha hb);have key:∀ {v:V},Sp w W v->Sp w (λi x=>if x<n then W i x else 0) (λx=>if x<n then v x else 0):=by
   intro v hv
   induction hv with
   | zero =>
    refine cast (oZ _ ?_) (Sp.zero (k:=w) (M:=λi x=>if x<n then W i x else 0))
    funext x; split <;> rfl
   | add i t hi _ ih =>
    refine cast (oZ _ ?_) (Sp.add i t hi ih)
    funext x
    by_cases g:x<n
    ·simp only[g,if_true]
    ·simp only[g,if_false]; simp
  have h4:=(aQL (k:=w) (d:=j) (λi x=>if x<n then W i x else 0) hj (λi g1 g2=>by
   funext x
   show (if x<n then W i x else 0)=0;split
   ·exact hH.low i g2 x (by have:=h2 i g1 g2; omega)
   ·rfl) _).1 (key h3)
  refine cast (oZ _ ?_) h4
  funext x
  by_cases g:x<n
  ·simp only[g,if_true]
  ·have z1:b x=0:=Sp.lC (λj hj=>wB j hj x (by omega)) hb;have z2:a x=0:=Sp.lC (λj hj=>wA j hj x (by omega)) ha;simp only[g,if_false,z1,z2]; rfl
 ·refine Sp.trans (λi hi=>?_) hv;obtain⟨a,b,ha,hb,q1,q2⟩:=a4H wA wB ((hs _).2 (Sp.mem (M:=W) (show i<w by omega)));refine cast (oZ _ ?_) (Sp.sum (JW (k':=d') (M':=B) ha) (GI (k:=d) (M:=A) hb))
  funext x
  show a x+b x=if x<n then W i x else 0
  by_cases g:x<n
  ·rw[if_pos g,q1 x g]
  ·have z1:b x=0:=Sp.lC (λj hj=>wB j hj x (by omega)) hb;have z2:a x=0:=Sp.lC (λj hj=>wA j hj x (by omega)) ha;rw[if_neg g,z1,z2]; rfl
end
theorem aH7(a b:List ByteArray) (ha:a.length<=1000) (hb:b.length<=1000):b9 ([a,b],())=some (a++b):=by
 have key:=aU (step:=bY) (N:=2^64) (λt=>([a,b],(if t=0 then 0 else if t=1 then (a.length:Int) else ((a.length+b.length:Nat):Int)),[a,b],2,(t:Int),())) 2 ([a,b],((a.length+b.length:Nat):Int),()) (by omega) (λt ht=>?_) ?_
 ·have key:eH ([a,b],0,[a,b],([a,b].length:Int),0,())=_:=key;have key2:=aU (step:=b8) (N:=2^64) (λt=>((if t=0 then [] else if t=1 then a else a++b),[a,b],2,(t:Int),())) 2 (a++b,()) (by omega) (λt ht=>?_) ?_
  ·have key2:eL ([],[a,b],([a,b].length:Int),0,())=_:=key2;have e1:ltI ((a.length+b.length:Nat):Int) 0=false:=by rw[aE]; exact oF (by omega)
   have e2:aB .i64 (((a.length+b.length:Nat):Int)-0)=((a.length+b.length:Nat):Int):=by rw[wrap64 (by omega) (by omega)]; omega
   have hg:cE ((),((a.length+b.length:Nat):Int),())=some []:=by
    by_cases h0:a.length+b.length=0
    ·have e3:ltI 0 ((a.length+b.length:Nat):Int)=false:=by rw[aE]; exact oF (by omega)
     simp only[cE,e1,e2,e3,oD]
    ·have e3:ltI 0 ((a.length+b.length:Nat):Int)=true:=by rw[aE]; exact oT (by omega)
     have e4:ltI 1048576 ((a.length+b.length:Nat):Int)=false:=by rw[aE]; exact oF (by omega)
     have e5:(List.replicate (((a.length+b.length:Nat):Int)).toNat (ByteArray.empty:Ty.den .str)).length=a.length+b.length:=by rw[List.length_replicate,oN]
     have e6:Nat.ble 0 0=true:=rfl;have e7:Nat.ble 0 (a.length+b.length)=true:=by rw[dN]; exact oT (by omega)
     have e8:Nat.blt 0 (a.length+b.length)=true:=by rw[cD]; exact oT (by omega)
     simp only[cE,e1,e2,e3,e4,e5,e6,e7,e8,oD,oC,Bool.not_false,Nat.sub_self,List.take_zero]
   simp only[b9,key,aD,hg,key2]
  ·have e1:ltI (t:Int) 2=true:=by rw[aE]; exact oT (by omega)
   have e3:=bX t (by omega);rcases(show t=0\/t=1 by omega)with rfl|rfl
   ·have e2:aF ((0:Nat):Int) 2=true:=by decide
    have e5:Nat.ble a.length 1048576=true:=by rw[dN]; exact oT (by omega)
    simp only[b8,e1,oC,e3];show (bif aF ((0:Nat):Int) 2 then bif Nat.ble a.length 1048576 then bif Nat.ble 0 1048576 then _ else none else none else none)=_;simp only[e2,e5,oC];rfl
   ·have e2:aF ((1:Nat):Int) 2=true:=by decide
    have e5:Nat.ble a.length 1048576=true:=by rw[dN]; exact oT (by omega)
    have e6:Nat.ble b.length 1048576=true:=by rw[dN]; exact oT (by omega)
    simp only[b8,e1,oC,e3];show (bif aF ((1:Nat):Int) 2 then bif Nat.ble b.length 1048576 then bif Nat.ble a.length 1048576 then _ else none else none else none)=_;simp only[e2,e5,e6,oC];rfl
  ·have e1:ltI ((2:Nat):Int) 2=false:=by decide
   simp only[b8,e1,oD];rfl
 ·have e1:ltI (t:Int) 2=true:=by rw[aE]; exact oT (by omega)
  have e3:=bX t (by omega);rcases(show t=0\/t=1 by omega)with rfl|rfl
  ·have e2:aF ((0:Nat):Int) 2=true:=by decide
   have e4:aB .i64 (0+(a.length:Int))=(a.length:Int):=by rw[wrap64 (by omega) (by omega)]; omega
   have e5:ltI (a.length:Int) 0=false:=by rw[aE]; exact oF (by omega)
   simp only[bY,e1,oC,e3];show (bif aF ((0:Nat):Int) 2 then bif ltI (aB .i64 (0+(a.length:Int))) 0 then none else some (Sum.inl ([a,b],aB .i64 (0+(a.length:Int)),[a,b],2,((0+1:Nat):Int),())) else none)=_;simp only[e2,e4,e5,oC,oD];rfl
  ·have e2:aF ((1:Nat):Int) 2=true:=by decide
   have e4:aB .i64 ((a.length:Int)+(b.length:Int))=((a.length+b.length:Nat):Int):=by rw[wrap64 (by omega) (by omega)]; omega
   have e5:ltI ((a.length+b.length:Nat):Int) 0=false:=by rw[aE]; exact oF (by omega)
   simp only[bY,e1,oC,e3];show (bif aF ((1:Nat):Int) 2 then bif ltI (aB .i64 ((a.length:Int)+(b.length:Int))) 0 then none else some (Sum.inl ([a,b],aB .i64 ((a.length:Int)+(b.length:Int)),[a,b],2,((1+1:Nat):Int),())) else none)=_;simp only[e2,e4,e5,oC,oD];rfl
 ·have e1:ltI ((2:Nat):Int) 2=false:=by decide
  simp only[bY,e1,oD];rfl
def gE(e:Nat):Nat->Nat
 | 0=>e
 | d+1=>19*gE e d^6
def gT(k e d:Nat):Nat:=if d+1<k then 9*gE e d^5 else gE e d
theorem aZR {e:Nat}(h:1<=e):∀ d,1<=gE e d
 | 0=>h
 | d+1=>Nat.mul_pos (by decide) (Nat.pow_pos (aZR h d))
theorem aZG(e:Nat):∀ d,19*gE e d^5=(19*e^5)^6^d
 | 0=>by simp[gE]
 | d+1=>by
  have h:=aZG e d;rw[Nat.pow_succ 6 d,Nat.pow_mul,<- h,gE];generalize gE e d=x;rw[Nat.mul_pow,Nat.mul_pow,<- Nat.pow_mul,<- Nat.pow_mul];have:(19:Nat)^6=19*19^5:=by decide
  rw[this,Nat.mul_assoc]
theorem a7I {x N:Nat}(h:x^5<=10^(5*N)):x<=10^N:=by
 refine Classical.byContradiction λhn=>?_
 have h1:(10^N)^5<x^5:=Nat.pow_lt_pow_left (by omega) (by decide);rw[<- Nat.pow_mul,Nat.mul_comm]at h1;omega
theorem a1S {T N:Nat}(h:T<=10^N):Lib.nDigits (T+1)<=N+1:=by
 refine uD (k:=N) ?_;rw[Nat.pow_succ];have:1<=10^N:=Nat.pow_pos (by decide);omega
theorem a7J {e X k n:Nat}(h1:1<=e)(hX:19*e^5<=10^X)(hd:∀ d,d+1<k->2*(X*6^d+1)<=400000)(hl:∀ d,d+1=k->∃ N,X*6^d<=5*N/\2*(N+1)<=400000):Bds k n (gE e) (gT k e):=by
 have hp:=aZR h1;have hlaw:∀ d,19*gE e d^5<=10^(X*6^d):=λd=>by
  rw[aZG,Nat.pow_mul];exact Nat.pow_le_pow_left hX _
 have h56:∀ d,gE e d<=gE e d^5:=λd=>by
  have:=Nat.pow_le_pow_right (hp d) (show 1<=5 by omega);rwa[Nat.pow_one]at this
 have e9:vK=400000:=rfl;refine⟨λd hk _=>⟨hp d,?_,λh=>?_,?_⟩,λd hk _=>?_⟩
 ·unfold gT; split
  ·have:=h56 d; omega
  ·exact oM _
 ·simp only[gT,h,if_true]; exact oM _
 ·by_cases h:d+1<k
  ·have h2:gT k e d<=10^(X*6^d):=by
    simp only[gT,h,if_true];have:=hlaw d; omega
   have h3:=a1S h2;have h4:=hd d h;omega
  ·have h2:gT k e d=gE e d:=by simp only[gT,h,if_false]
   obtain⟨N,n1,n2⟩:=hl d (by omega);have h3:gE e d<=10^N:=a7I (oR (by have:=hlaw d; omega) (Nat.pow_le_pow_right (by decide) n1));have h4:=a1S h3;rw[h2]; omega
 ·have h2:gT k e d<=9*gE e d^5:=by
   unfold gT; split
   ·exact oM _
   ·have:=h56 d; omega
  rw[gE];have hp:=hp d;generalize gE e d=x at *;have h3:(x+1)*gT k e d<=(x+x)*(9*x^5):=Nat.mul_le_mul (by omega) h2;have e1:(x+x)*(9*x^5)=18*x^6:=by grind
  have e2:x^1<=x^6:=Nat.pow_le_pow_right hp (by decide);rw[Nat.pow_one]at e2;omega
theorem a7X {k n:Nat}(hk:k<=7):Bds k n (gE 8748) (gT k 8748):=by
 refine a7J (X:=21) (by decide) (by decide) (λd hd=>?_) λd hd=>?_
 ·have:6^d<=6^5:=Nat.pow_le_pow_right (by decide) (by omega);have e:(6^5:Nat)=7776:=by decide
  omega
 ·refine⟨195956,?_,by decide⟩;have:6^d<=6^6:=Nat.pow_le_pow_right (by decide) (by omega);have e:(6^6:Nat)=46656:=by decide
  omega
theorem a7V {k n:Nat}(hk:k<=8):Bds k n (gE 1) (gT k 1):=by
 refine a7J (X:=2) (by decide) (by decide) (λd hd=>?_) λd hd=>?_
 ·have:6^d<=6^6:=Nat.pow_le_pow_right (by decide) (by omega);have e:(6^6:Nat)=46656:=by decide
  omega
 ·refine⟨111975,?_,by decide⟩;have:6^d<=6^7:=Nat.pow_le_pow_right (by decide) (by omega);have e:(6^7:Nat)=279936:=by decide
  omega
section
variable {d n d':Nat} {A B:Nat->V} {p q:Nat->Nat}
theorem aQS(v1:Int)(R:List (List Int))(hd:d<=12)(hn:n<=12)(bA:Big d n A 1000000000) :
  sF ((v1,R),(0,([],())),(n:Int),[],Mr d n A,(d:Int),0,[],())=some ((v1,R),(0,([],())),(n:Int),(List.range d).map (λi=>(i,0,n+n)),(List.range d).map (λi=>Zr (n+n) (wI d n A B i)),()):=by
 have key:=aU (step:=nP) (N:=2^64)
  (λt=>((v1,R),(0,([],())),(n:Int),(List.range t).map (λi=>(i,0,n+n)),Mr d n A,(d:Int),(t:Int),(List.range t).map (λi=>Zr (n+n) (wI d n A B i)),())) d ((v1,R),(0,([],())),(n:Int),(List.range d).map (λi=>(i,0,n+n)),(List.range d).map (λi=>Zr (n+n) (wI d n A B i)),()) (by omega) (λt ht=>?_) ?_
 ·exact key
 ·have e1:ltI (t:Int) (d:Int)=true:=by rw[aE]; exact oT (by omega)
  have e2:aF (t:Int) d=true:=by rw[aM]; exact oT (by omega)
  have e3:((t:Nat):Int).toNat=t:=oN _;have e5:=aI5 (Vr n (A t)) (by rw[vW]; omega) λa ha=>by have:=aBJ (λx hx=>bA t ht x hx) a ha; omega
  rw[aE0]at e5;have e6:=aH7 (Zr n (A t)) (Zr n (A t)) (by rw[mC]; omega) (by rw[mC]; omega);have e7:Zr n (A t)++Zr n (A t)=Zr (n+n) (wI d n A B t):=by
   rw[aOY,aIW ht]
   congr 1
   ·unfold Zr;refine List.map_congr_left λi hi=>?_
    have:i<n:=List.mem_range.1 hi;simp only[this,if_true]
   ·unfold Zr;refine List.map_congr_left λi _=>?_
    have h1:¬ n+i<n:=by omega
    have h2:n+i-n=i:=by omega
    simp only[h1,if_false,h2]
  have e8:((List.range t).map (λi=>Zr (n+n) (wI d n A B i))).length=t:=by simp
  have e9:(Zr (n+n) (wI d n A B t)).length=n+n:=mC _ _;have e10:Nat.ble [(t,0,n+n)].length 1048576=true:=rfl;have e11:Nat.ble ((List.range t).map (λi=>(i,0,n+n))).length 1048576=true:=by rw[dN,List.length_map,List.length_range]; exact oT (by omega)
  have e12:=bX t (by omega);have e13:(List.range t).map (λi=>(i,0,n+n))++[(t,0,n+n)]=(List.range (t+1)).map (λi=>(i,0,n+n)):=by rw[List.range_succ,List.map_append]; rfl
  have e14:(List.range t).map (λi=>Zr (n+n) (wI d n A B i))++[Zr (n+n) (wI d n A B t)]=(List.range (t+1)).map (λi=>Zr (n+n) (wI d n A B i)):=by rw[List.range_succ,List.map_append]; rfl
  simp only[nP,e1,cJ,e2,e3,Y5 A ht,e5,aD,e6,e7,e8,e9,e10,e11,e12,e13,e14,oC]
 ·have e1:ltI (d:Int) (d:Int)=false:=by rw[aE]; exact oF (by omega)
  simp only[nP,e1,oD]
theorem aRZ(hd:d<=12)(hd':d'<=12)(hn:n<=12)(wB:Wd d' n B)(bB:Big d' n B 1000000000) :
  sE ((0,([],())),(n:Int),(List.range d).map (λi=>(i,0,n+n)),Mr d' n B,(d':Int),0,(List.range d).map (λi=>Zr (n+n) (wI d n A B i)),())=some ((0,([],())),(n:Int),(List.range (d+d')).map (λi=>(i,0,n+n)),(List.range (d+d')).map (λi=>Zr (n+n) (wI d n A B i)),()):=by
 have key:=aU (step:=nH) (N:=2^64)
  (λt=>((0,([],())),(n:Int),(List.range (d+t)).map (λi=>(i,0,n+n)),Mr d' n B,(d':Int),(t:Int),(List.range (d+t)).map (λi=>Zr (n+n) (wI d n A B i)),())) d' ((0,([],())),(n:Int),(List.range (d+d')).map (λi=>(i,0,n+n)),(List.range (d+d')).map (λi=>Zr (n+n) (wI d n A B i)),()) (by omega) (λt ht=>?_) ?_
 ·exact key
 ·have e1:ltI (t:Int) (d':Int)=true:=by rw[aE]; exact oT (by omega)
  have e2:aF (t:Int) d'=true:=by rw[aM]; exact oT (by omega)
  have e3:((t:Nat):Int).toNat=t:=oN _;have e5:=aI5 (Vr n (B t)) (by rw[vW]; omega) λa ha=>by have:=aBJ (λx hx=>bB t ht x hx) a ha; omega
  rw[aE0]at e5;have e6:=aH7 (Zr n (B t)) (Zr n (λ_=>0)) (by rw[mC]; omega) (by rw[mC]; omega);have e7:Zr n (B t)++Zr n (λ_=>0)=Zr (n+n) (wI d n A B (d+t)):=by
   rw[aOY,aGQ]
   congr 1
   unfold Zr;refine List.map_congr_left λi _=>?_
   show Zn 0=Zn (B t (n+i));rw[wB t ht (n+i) (by omega)]
  have e8:((List.range (d+t)).map (λi=>Zr (n+n) (wI d n A B i))).length=d+t:=by simp
  have e9:(Zr (n+n) (wI d n A B (d+t))).length=n+n:=mC _ _;have e10:Nat.ble [(d+t,0,n+n)].length 1048576=true:=rfl;have e11:Nat.ble ((List.range (d+t)).map (λi=>(i,0,n+n))).length 1048576=true:=by rw[dN,List.length_map,List.length_range]; exact oT (by omega)
  have e12:=bX t (by omega);have e13:(List.range (d+t)).map (λi=>(i,0,n+n))++[(d+t,0,n+n)]=(List.range (d+(t+1))).map (λi=>(i,0,n+n)):=by rw[show d+(t+1)=(d+t)+1 by omega,List.range_succ,List.map_append]; rfl
  have e14:(List.range (d+t)).map (λi=>Zr (n+n) (wI d n A B i))++[Zr (n+n) (wI d n A B (d+t))]=(List.range (d+(t+1))).map (λi=>Zr (n+n) (wI d n A B i)):=by rw[show d+(t+1)=(d+t)+1 by omega,List.range_succ,List.map_append]; rfl
  simp only[nH,e1,cJ,e2,e3,Y5 B ht,e5,aD,aQ8 (show n<1048576 by omega),e6,e7,e8,e9,e10,e11,e12,e13,e14,oC]
 ·have e1:ltI (d':Int) (d':Int)=false:=by rw[aE]; exact oF (by omega)
  simp only[nH,e1,oD]
theorem aCU(hA:Hn d A p) (hB:Hn d' B q) (hn:n<=4) (wA:Wd d n A) (wB:Wd d' n B) (bA:Big d n A 1000000000) (bB:Big d' n B 1000000000) {E T:Nat->Nat} (hEA:Big d n A (E 0)) (hEB:Big d' n B (E 0)) (hb:Bds (d+d') (n+n) E T)
  {t:Nat} {I:Nat->V} {c:Nat->Nat} (hI:Hn t I c) (hs:∀ v,Sp t I v↔Sp d A v/\Sp d' B v) (bI:Big t n I 1000000000) :
  nE (((n:Int),Mr d n A),((n:Int),Mr d' n B),())=some (((n:Int),Mr t n I),0,())/\∃ s J c',Hn s J c'/\Same (d+d') (lW d A B) s J/\s+t=d+d':=by
 have hd:=(Hn.gL hA wA).1;have hd':=(Hn.gL hB wB).1;have cb:=aDS hA hB (by omega) wA wB bA bB;have e0:eqI 0 0=true:=by decide
 have l0:=aQS (d:=d) (n:=n) (A:=A) (B:=B) (n:Int) (Mr d' n B) (by omega) (by omega) bA;have l1:=aRZ (d:=d) (d':=d') (n:=n) (A:=A) (B:=B) (by omega) (by omega) (by omega) wB bB;have hL:lH 0 (d+d') (n+n) ((List.range (d+d')).map (λi=>(i,0,n+n))) ((List.range (d+d')).map (λi=>Zr (n+n) (wI d n A B i))) (λi=>i) (wI d n A B) :=
  ⟨rfl,λi hi=>⟨[],rfl,by rw[List.getElem?_map,List.getElem?_range hi]; rfl⟩,λi j _ _ e=>e⟩
 obtain⟨m1,A1,J1,W,w,u,g1,g2,g3,g4,g5,g6,g7⟩:=UP (show d+d'<1048576 by omega) (show n+n<1048576 by omega) hL (a6S wA wB) (a5G wB hEA hEB) hb;have hwd:Wd w (n+n) W:=λi hi x hx=>g6 i (by omega) x hx
 have hw1:w=d+d':=by
  have h1:=(a5Z (n:=n) hA.ind hB.ind wB wA).aC1 (M:=W) λi hi=>⟨1,by decide,by
   have:=(g5 _).1 (Sp.mem hi);simpa using this⟩
  omega
 obtain⟨j,b1,b2,b3⟩:=Hn.split g4 n;obtain⟨c1,c2,c3,c4⟩:=aTB wA wB g4 g5 b1 b2 b3;have hsame:Same (w-j) (λi y=>W (j+i) (n+y)) t I:=λv=>(c2 v).trans (hs v).symm
 obtain⟨f1,_,f3⟩:=Hn.unique hI c1 hsame.symm;have hL2:=g3.take g2;have hbl:=aGD (k:=n) (n:=n) (by omega) (show w<1048576 by omega) hL2 g4 hwd b1 b2 b3;have hL3:=hL2.behind (k:=n) (n:=n) b1;have hwK:Wd (w-j) n (λi y=>W (j+i) (n+y)):=λi hi x hx=>hwd (j+i) (by omega) (n+x) (by omega)
 have bK:Big (w-j) n (λi y=>W (j+i) (n+y)) (10^dg 9 0):=λi hi x hx=>by
  rw[show (10^dg 9 0:Nat)=1000000000 by decide];have:=f3 i (by omega);have:=congrFun this x;show (W (j+i) (n+x)).natAbs<=_;rw[<- this];exact bI i (by omega) x hx
 obtain⟨m2,A2,J2,K,r,p2,k1,k2,k3,k4,k5,k6,k7⟩:=UP (show w-j<1048576 by omega) (show n<1048576 by omega) hL3 hwK (E:=λd=>10^dg 9 d) (T:=λd=>10^(5*dg 9 d+1)) bK (aN8 (.inr hn) (by decide));obtain⟨q1,_,q3⟩:=Hn.unique hI k4 (hsame.symm.trans k5);subst q1;have hsh:=XY k3 k2 (by omega) (by omega) (λi hi x hx=>by rw[<- q3 i hi]; exact bI i hi x hx) (n:Int);have e2:(List.range t).map (λi=>Vr n (K i))=Mr t n I:=by
  refine List.map_congr_left λi hi=>?_
  rw[q3 i (List.mem_range.1 hi)]
 rw[e2]at hsh;refine⟨?_,j,_,u,c3,c4,by omega⟩;have e3:aB .i64 (2*(n:Int))=((n+n:Nat):Int):=by rw[wrap64 (by omega) (by omega)]; omega
 have hlen:((Mr d n A).length:Int)=(d:Int):=by rw[cJ]
 have hlen':((Mr d' n B).length:Int)=(d':Int):=by rw[cJ]
 have hbb:dP () (m1.take w,(n:Int),(n:Int),()) A1=some (m2.take t,A2):=by simp only[dP,hbl,aD,k1]
 simp only[nE,cb,aD,e0,Bool.not_true,oD,hlen,l0,hlen',l1,e3,g1,hbb,hsh]
end
theorem aQE {d n:Nat}{M:Nat->V}:∀ r∈Mr d n M,r.length=n:=λr hr=>by
 obtain⟨i,_,rfl⟩:=aCM hr;exact vW _ _
theorem aVN {d n E:Nat}{M:Nat->V}(h:Big d n M E):∀ r∈Mr d n M,∀ a∈r,a.natAbs<=E:=λr hr a ha=>by
 obtain⟨i,hi,rfl⟩:=aCM hr;exact aBJ (λx hx=>h i hi x hx) a ha
theorem aWD {d n:Nat}{M:Nat->V}(hw:Wd d n M):Same (Mr d n M).length (KC (Mr d n M)) d M:=by
 rw[cJ];exact Same.congr λi hi=>aHP hw hi
theorem a5F {d d' n:Nat}{A B:Nat->V}(wA:Wd d n A)(wB:Wd d' n B):Same (Mr d n A++Mr d' n B).length (KC (Mr d n A++Mr d' n B)) (d+d') (lW d A B):=by
 rw[oH,cJ,cJ];refine Same.congr λi hi=>?_
 by_cases g:i<d
 ·rw[FX A B g,<- aHP wA g];unfold KC
  congr 1
  simp only[List.getD];rw[List.getElem?_append_left (by rw[cJ]; exact g)]
 ·have e:lW d A B i=B (i-d):=by simp[lW,g]
  rw[e,<- aHP wB (show i-d<d' by omega)];unfold KC
  congr 1
  simp only[List.getD];rw[List.getElem?_append_right (by rw[cJ]; omega),cJ]
theorem aR5 {n r:Nat} {C K:Nat->V} {q:Nat->Nat} (hC:Hn n C q) (hw:Wd n n C) (hr:r=0) (hI:jX n r K n C):Big n n C 1:=by
 have hlt:=(Hn.gL hC hw).2;have hun:∀ x,x<n->Sp n C (un x):=λx hx=>(hI _).2 ⟨λc hc=>GU (by omega),λy hy=>by omega⟩
 obtain⟨_,_,_,hall,_⟩:=aV0 n n q hC.inc hlt;have hp:∀ j,j<n->C j (q j)=1:=λj hj=>by
  have h1:=hC.aTI (hun (q j) (hlt j hj)) j hj λl hl=>GU (by have:=hC.inc l j hl hj; omega)
  rw[KG]at h1;have h2:=hC.pos j hj;have h3:=Int.le_of_dvd (by decide) h1;omega
 intro i hi x hx;rcases hall x hx with ⟨j,hj,rfl⟩|⟨l,hl,_⟩
 ·rcases Nat.lt_trichotomy i j with g|g|g
  ·have:=hC.red i j g hj;have:=hp j hj;omega
  ·subst g; rw[hp i hi]; decide
  ·rw[hC.low i hi _ (hC.inc j i g hi)]; decide
 ·omega
section
variable {ps:List Int} {n d r d' r':Nat} {C K C' K':Nat->V}
theorem RS.ne (h:RS ps n d r C K):r+d=n:=by
 obtain⟨q,hq⟩:=h.hc;obtain⟨p,hp⟩:=h.hk;exact aQH hq h.wc h.n4 h.bc hp h.ker
theorem a32(h:RS ps n d r C K) (h':RS ps n d' r' C' K'):∃ t z S Z,RT ps n t z S Z/\EB ((ps,(Mr d n C,Mr r n K)),(ps,(Mr d' n C',Mr r' n K')),())=some ((ps,(Mr t n S,Mr z n Z)),0,()) /\
  cM (ps,Mr d n C++Mr d' n C',())=some ((ps,(Mr t n S,Mr z n Z)),0,())/\(∀ v,Sp d C v->Sp t S v)/\(∀ v,Sp d' C' v->Sp t S v)/\(∃ D:Int,D≠0/\∀ v,Sp t S v->Sp (d+d') (lW d C C') (λx=>D*v x))/\∃ J c,Hn t J c/\Same (d+d') (lW d C C') t J:=by
 have hn:=h.n4;have wXY:=h.wc.lW h'.wc;have bXY:=h.bc.lW h'.bc;obtain⟨q,hq⟩:=h.hc;obtain⟨q',hq'⟩:=h'.hc;have hd:=(Hn.gL hq h.wc).1;have hd':=(Hn.gL hq' h'.wc).1;have e9:(1000000000:Nat)=10^9:=by decide
 obtain⟨s,J,c,_,hJ,hs,wJ⟩:=OP (k:=d+d') (n:=n) (M:=lW d C C') (D:=9) (.inr hn) (by omega) (by omega) wXY (by rw[<- e9]; exact bXY) (by decide);have bJ:=a4E h h' hJ hs;have s4:=(Hn.gL hJ wJ).1;obtain⟨z,Z,p,hzn,hZ,hI,wZ⟩:=UX (d:=s) (by omega) hn wJ bJ (by decide) (D:=9) (by decide) (by decide);have bZ0:Big z n Z (10^38):=λi hi x _=>oR (T5 (E:=10^9) (D:=9) hn (by omega) wJ (by rw[<- e9]; exact bJ) (by decide) (oM _) (by decide) hZ hI i hi x) p38
 obtain⟨t,S,g,_,hS,hI2,wS⟩:=UX (d:=z) (by omega) hn wZ bZ0 (Nat.pow_pos (by decide)) (D:=38) (oM _) (by decide);have hIX:jX n (d+d') (lW d C C') z Z:=hI.of_same hs.symm;obtain⟨k,F,B,hk,fm,_⟩:=h.fc;obtain⟨k',F',B',hk',fm',_⟩:=h'.fc;obtain⟨bZ,bS,hzt,hsp⟩:=aRK hn hk hk' fm fm' h.wc h'.wc hZ hIX hS hI2;have hzs:=aQH hJ wJ hn bJ hZ hI;have hts:t=s:=by omega
 subst hts;have back:=jX.back wJ hI hI2;have e0:eqI 0 0=true:=by decide
 have e1:((ps.length:Nat):Int)=(n:Int):=by rw[h.len]
 have hsum:=a5B hq hq' hn h.wc h'.wc h.bc h'.bc hJ hs bJ;have f1:=R5 h.pr h.len hn (Mr t n J) (by rw[cJ]; omega) aQE (aVN bJ) hJ (aWD wJ) bJ hZ hI bZ hS hI2 bS;have f2:=R5 h.pr h.len hn (Mr d n C++Mr d' n C') (by rw[oH,cJ,cJ]; omega) (λr hr=>by
  rcases List.mem_append.1 hr with g|g
  ·exact aQE r g
  ·exact aQE r g) (λr hr=>by
  rcases List.mem_append.1 hr with g|g
  ·exact aVN h.bc r g
  ·exact aVN h'.bc r g) hJ ((a5F h.wc h'.wc).trans hs) bJ hZ hI bZ hS hI2 bS
 have mem:∀ v,Sp (d+d') (lW d C C') v->Sp t S v:=λv hv=>(hI2 _).2 ⟨λx hx=>Sp.lC (λj hj=>wXY j hj x hx) hv,λx hx=>by
  rw[nI];exact((hIX _).1 (Sp.mem hx)).span hv⟩
 refine⟨t,z,S,Z,⟨h.pr,h.len,hn,⟨g,hS⟩,⟨p,hZ⟩,wS,wZ,bS,bZ,back,hI2⟩,?_,f2,λv hv=>mem v (JW hv),λv hv=>mem v (GI hv),hsp,J,c,hJ,hs⟩;simp only[EB,iX,aD,e1,hsum,e0,Bool.not_true,oD,f1]
theorem a3Z(h:RS ps n d r C K) (h':RS ps n d' r' C' K'):∃ t z I N,RT ps n t z I N/\(aC (nE (((n:Int),Mr d n C),((n:Int),Mr d' n C'),())) λy4=>bif !(eqI y4.2.1 0) then some (([],([],[])),y4.2.1,()) else aC (cM (ps,y4.1.2,())) λy5=>some ((y5.1.1,(y5.1.2.1,y5.1.2.2)),y5.2.1,()))=some ((ps,(Mr t n I,Mr z n N)),0,()) /\
  (∀ v,Sp t I v↔Sp d C v/\Sp d' C' v)/\∃ s J c,Hn s J c/\Same (d+d') (lW d C C') s J/\s+t=d+d':=by
 have hn:=h.n4;obtain⟨q,hq⟩:=h.hc;obtain⟨q',hq'⟩:=h'.hc;obtain⟨p,hp⟩:=h.hk;obtain⟨p',hp'⟩:=h'.hk;have hd:=(Hn.gL hq h.wc).1;have hd':=(Hn.gL hq' h'.wc).1;have hr:=(Hn.gL hp h.wk).1;have hr':=(Hn.gL hp' h'.wk).1;have wXY:=h.wk.lW h'.wk;have bXY:=h.bk.lW h'.bk;obtain⟨t,I,c,htn,hI0,hI,wI0⟩:=UX (d:=r+r') (by omega) hn wXY bXY (by decide) (D:=9) (by decide) (by decide);have e9:(1000000000:Nat)=10^9:=by decide
 have bI0:Big t n I (10^38):=λi hi x _=>oR (T5 (E:=10^9) (D:=9) hn (by omega) wXY (by rw[<- e9]; exact bXY) (by decide) (oM _) (by decide) hI0 hI i hi x) p38
 obtain⟨z,N,g,_,hN,hI2,wN⟩:=UX (d:=t) (by omega) hn wI0 bI0 (Nat.pow_pos (by decide)) (D:=38) (oM _) (by decide);obtain⟨k,F,B,hk,fm⟩:=h.fk;obtain⟨k',F',B',hk',fm'⟩:=h'.fk;obtain⟨bI,bN,_,_⟩:=aRK hn hk hk' fm fm' h.wk h'.wk hI0 hI hN hI2;have hsp:∀ v,Sp t I v↔Sp d C v/\Sp d' C' v:=λv=>by
  rw[hI v,h.ker2 v,h'.ker2 v];constructor
  ·intro g;exact⟨⟨g.1,λx hx=>g.span (JW (Sp.mem hx))⟩,⟨g.1,λx hx=>g.span (GI (Sp.mem hx))⟩⟩
  ·rintro⟨g1,g2⟩;refine⟨g1.1,λx hx=>?_⟩
   by_cases e:x<r
   ·rw[FX K K' e]; exact g1.2 x e
   ·have e':lW r K K' x=K' (x-r):=by simp[lW,e]
    rw[e']; exact g2.2 _ (by omega)
 have back:=jX.back wXY hI hI2;have main:nE (((n:Int),Mr d n C),((n:Int),Mr d' n C'),())=some (((n:Int),Mr t n I),0,())/\∃ s J c',Hn s J c'/\Same (d+d') (lW d C C') s J/\s+t=d+d':=by
  by_cases h7:d+d'<=7
  ·exact aCU hq hq' hn h.wc h'.wc h.bc h'.bc (E:=gE 8748) h.c8 h'.c8 (a7X h7) hI0 hsp bI
  ·have a1:d=n:=by omega
   have a2:d'=n:=by omega
   subst a1;subst a2;have r0:r=0:=by have:=h.ne; omega
   have r0':r'=0:=by have:=h'.ne; omega
   exact aCU hq hq' hn h.wc h'.wc h.bc h'.bc (E:=gE 1) (aR5 hq h.wc r0 h.ker2) (aR5 hq' h'.wc r0' h'.ker2) (a7V (by omega)) hI0 hsp bI
 obtain⟨m1,m2⟩:=main;have e0:eqI 0 0=true:=by decide
 have f1:=R5 h.pr h.len hn (Mr t n I) (by rw[cJ]; omega) aQE (aVN bI) hI0 (aWD wI0) bI hN hI2 bN hI0 back bI;refine⟨t,z,I,N,⟨h.pr,h.len,hn,⟨c,hI0⟩,⟨g,hN⟩,wI0,wN,bI,bN,hI2,back⟩,?_,hsp,m2⟩;simp only[m1,aD,e0,Bool.not_true,oD,f1]
end
theorem aXM(a b:Int×List (Int×Int×Int×Int)×Bool)(al:Bool):uP ((a,b,al),())=some (decide (a.2.1.length<=3)&&decide (b.2.1.length<=3),()):=by
 obtain⟨a1,a2,a3⟩:=a;obtain⟨b1,b2,b3⟩:=b;have fa:=aZT (a1,a2,a3);have fb:=aZT (b1,b2,b3);simp only[uP,fa,fb,aD];cases decide (a2.length<=3) <;> cases decide (b2.length<=3) <;> rfl
end Go.PM
namespace Go.PM
open Go Go.RowKit Go.Proofs Tryz
set_option maxHeartbeats 4000000
def iW(x:aK [.list TyD]):Option (List (List Int)):=match x with
 | (v0,()) =>
  bif Nat.blt 0 v0.length then bif Nat.ble v0.length 1048576 then some v0 else none else none
def nC:Code:=dM f53
abbrev uA:Env:=JB []
theorem EI:fR tP uA:=aR trivial
def tS(id:Nat):Option cA:=none
theorem DM:a8 nC=[]:=by kernel_rfl
theorem D8:∀ x,aMI tP uA f53 (aO f53) tS nC [.list TyD] 2 53 TyD x=iW x:=by
 rintro⟨v0,⟨⟩⟩
 kernel_rfl
theorem FO:aKH tP 53 [.list TyD] 53 TyD iW:=aH5 bD EI func53 (c:=nC) (by kernel_rfl) (bG:=aO f53) (lt:=tS) (t:=2) (by kernel_rfl) (aQ DM trivial) D8
theorem aXS:∃ i:TypeInfo,tP.info? 53=some i:=⟨(tP.info? 53).get (by kernel_rfl),(Option.some_get _).symm⟩
theorem Tryz.aI4 (w:World)(a:Option Addr)(n c n' c':Nat):(binOp .eql 33 (.slice a n c) (.slice none n' c')).run tP w=.ok (.bool a.isNone) w:=Lib.run_eql_slice_nil w _ _ a n c n' c' underlying33
theorem aTR(c:Nat)(w:World):Calls tP 53 #[.slice none 0 c] w λe w'=>e=.returned (.slice none 0 0)/\w'=w:=by
 have qT:=Tryz.aI4
 go_enter func53,ntmps53
 go_wp2
 go_ret
 exact⟨rfl,rfl⟩
set_option maxHeartbeats 2000000 in
theorem aPI(p:Addr) (c:Nat) (w:World):Calls tP 53 #[.slice (some p) 0 c] w λe w'=>e=.returned (.slice (some ⟨w.heap.size,0,none⟩) 0 0)/\w'=w.alloc (.cells #[] 53):=by
 have qT:=Tryz.aI4;obtain⟨i,hi⟩:=aXS;have hrz:∀ ty,(Builtin.append_ #[33,33] ty #[.slice (some ⟨w.heap.size,0,none⟩) 0 0,.slice (some p) 0 c]).run tP (w.alloc (.cells #[] 53))=.ok (.slice (some ⟨w.heap.size,0,none⟩) 0 0) (w.alloc (.cells #[] 53)):=λty =>
  run_append_nothing _ 33 33 ty 53 i underlying33 hi _ 0 0 (oM _) _ (Src.ofSlice _ (e':=53) underlying33 p 0 c [] (Nat.zero_mul _).symm (λj u hu=>by simp at hu) (λu hu=>by cases hu))
 go_enter func53,ntmps53
 go_wp2_with (at_builtin; refine Lib.wpList_append_run _ rfl _ _ _ _ rfl _ _ rfl rfl _ _ (hrz _) ?_)
 all_goals (go_ret; exact⟨rfl,rfl⟩)
def aDP(x:aK [.list TyD]):Option (List (List Int)):=match x with
 | (l,())=>bif Nat.ble l.length 1048576 then some l else none
theorem a0G:aKH tP 53 [.list TyD] 53 TyD aDP:=by
 rintro⟨l,⟨⟩⟩ y h;unfold aDP at h;obtain⟨hl,h4⟩:=aH h;clear h;have h4:=oB h4;subst h4;cases l with
 | cons a l =>
  have hy:iW (a::l,())=some (a::l):=by
   unfold iW;dsimp only;rw[hl,show Nat.blt 0 (a::l).length=true from rfl]; rfl
  intro n0 G μ w us hW hv;exact FO (a::l,()) (a::l) hy hW hv
 | nil =>
  intro n0 G μ w us hW hv;have k1:VRs w G μ [L4 TyD [] none] us:=hv;rw[VRs]at k1;obtain⟨v,us',rfl,g1,g2⟩:=k1;rw[VRs]at g2;subst g2;unfold L4 at g1;rw[VR]at g1;obtain⟨g1,-⟩:=g1;rw[VR]at g1;obtain⟨ao,c,rfl,-,-,-⟩:=g1;refine⟨enters func53 (by kernel_rfl) (by kernel_rfl) _ _,?_⟩;have fin:∀ {w':World} (ao':Option Addr),Ext n0 w G μ w' G μ->aN n0 G μ [] w'->∃ v' G' μ',Ending.returned (Value.slice ao' 0 0)=.returned v'/\Ext n0 w G μ w' G' μ'/\aN n0 G' μ' [some ⟨aG TyD [],53,true,false,some ⟨.list TyE,[]⟩⟩] w'/\VR w' G' μ' (.own 0 (Ty.list TyE).size) v':=by
   intro w' ao' he hw;obtain⟨e1,w1⟩:=pZ hw ⟨aG TyD [],53,true,false,some ⟨.list TyE,[]⟩⟩ (on:=some 0) (λg hg=>by
    have:=oB hg;subst this;exact⟨rfl,rfl⟩)
   refine⟨_,_,_,rfl,he.trans e1,w1,?_⟩;rw[VR];exact⟨0,by simp[upd],.inl ⟨rfl,ao',rfl⟩⟩
  cases ao with
  | none =>
   refine(aTR c w).mono ?_;rintro e w' ⟨rfl,rfl⟩;exact fin none (Ext.refl _ _ _ _) hW
  | some p =>
   refine(aPI p c w).mono ?_;rintro e w' ⟨rfl,rfl⟩;obtain⟨a1,a2⟩:=YG hW (.cells #[] 53);exact fin _ a1 a2
abbrev aVM:Shr:=(53,aXO [.list TyD] 53 TyD aDP)
theorem aTO:uT tP aVM:=aH0 a0G
end Go.PM
namespace Go.PM
open Go Go.RowKit
section
variable {P:Program} {cl:Callee} {n0:Nat->Prop} {nt:Nat} {wi w:World} {Gi G:Gd} {μi μ:Mp} {ops ops':Array Oper} {F:Frm} {H:Heap} {F':Frm} {H':Heap}
def aT9(n0:Nat->Prop) (p:Nat):Nat->Prop:=λb=>n0 b/\b≠p
theorem aN.aT9 (h:aN n0 G μ H w){p:Nat}(hp:∀ r k b,H[r]?=some (some k)->k.frozen=false->μ.loc r=some b->b≠p)(hrow:∀ j b,G.row j=some b->b≠p)(hs:p<w.heap.size):aN (aT9 n0 p) G μ H w where
 blk r k b hr hb:=by
  obtain⟨c,h1,h2,h3,h4,h5⟩:=h.blk r k b hr hb;exact⟨c,h1,h2,h3,h4,λhf=>⟨⟨(h5 hf).1,hp r k b hr hf hb⟩,(h5 hf).2⟩⟩
 tags:=h.tags
 inj:=h.inj
 lt:=h.lt
 top:=h.top
 base b hb:=⟨h.base b hb,by omega⟩
 rows:=h.rows.aDJ λj b hj hn=>⟨hn,hrow j b hj⟩
theorem aN.aQ5 {p:Nat}(h:aN (PM.aT9 n0 p) G μ H w):aN n0 G μ H w where
 blk r k b hr hb:=by
  obtain⟨c,h1,h2,h3,h4,h5⟩:=h.blk r k b hr hb;exact⟨c,h1,h2,h3,h4,λhf=>⟨(h5 hf).1.1,(h5 hf).2⟩⟩
 tags:=h.tags
 inj:=h.inj
 lt:=h.lt
 top:=h.top
 base b hb:=(h.base b hb).1
 rows:=h.rows.aDJ λj b hj hn=>hn.1
theorem Ext.aQ5 {p:Nat}{w':World}{G':Gd}{μ':Mp}(e:Ext (aT9 n0 p) w G μ w' G' μ'):Ext n0 w G μ w' G' μ' :=
 {toMono:=e.toMono,os:=e.os,tape:=e.tape,output:=e.output,size:=e.size,old:=λb hb hn=>e.old b hb λh=>hn h.1,new:=λb hb=>(e.new b hb).imp id (·.1) }
theorem aXB {p:Nat} (hW:aN (aT9 n0 p) G μ H w) {c:Array Value} {t:TypeId} (hp:w.heap[p]?=some (.cells c t (0,0))) (hn:n0 p) (hG:¬ G p) :
  Ext n0 w G μ w G (upd μ H.length (some p) none)/\aN n0 G (upd μ H.length (some p) none) (H++[some ⟨lits c,t,false,false,none⟩]) w:=by
 have e:=FY hW.aQ5 (some p) none;refine⟨e,HF hW.aQ5 e ⟨lits c,t,false,false,none⟩ (λ_ _ _ _ _=>rfl) ?_ (λg hg=>by cases hg) ?_ (KB hW.aQ5 e (λt l h1 h2=>by cases h2) (λ_ _ _=>rfl) (λj b hj _ hh=>by
  cases hh;exact(hW.rows.sep j _ hj).2.1.2 rfl))⟩
 ·rintro b hb;cases hb;refine⟨c,hp,?_,λ_=>(by simp[lits]),(by intro h; cases h),λ_=>⟨hn,hG⟩⟩;refine aL.mk λi q hq=>?_
  have hq:(lits c)[i]?=some q:=hq;simp only[lits,List.getElem?_map,Option.map_eq_some_iff]at hq;obtain⟨v,h1,rfl⟩:=hq;refine⟨v,?_,by rw[VR]⟩;simp only[World.cell?,hp,Nat.zero_add];simpa using h1
 ·intro r k' b hr hf hb hh;cases hh;obtain⟨_,_,_,_,_,h5⟩:=hW.blk r k' _ hr hb;exact(h5 hf).1.2 rfl
theorem aY1 {l l':List Oper}{o:Oper}(hg:o.guard=none)(hm:∀ t x y,o.op≠.makeSlice t x y):p5 P cl l o F H=p5 P cl l' o F H:=by
 have hz:∀ l,opz P cl l F H o=opx P cl F H o:=λl=>by
  unfold opz;split
  ·rename_i t n c h; exact absurd h (hm _ _ _)
  ·rfl
 have hd:∀ l,mkData P F l o=none:=λl=>by
  unfold mkData;split
  ·rename_i t n c h; exact absurd h (hm _ _ _)
  ·rfl
 simp only[p5,guardOf,hg,hd,hz]
theorem aC4 {l:List Oper}{o:Oper}{t:TypeId}{z:Value}{v:PV}{H':Heap}{c:Nat}(hg:o.guard=none)(hop:o.op=.alloc t)(hz:xW P t=some z)(h:p5 P cl l o F H=some (v,H',c)) :
  v=.hptr H.length 0/\H'=H++[some ⟨lits z.cells,t,false,false,none⟩]:=by
 simp only[p5,guardOf,hg,mkData,hop,opz,opx,typed,oD,opu,hz,p2,aXE,oJ,oP]at h;exact⟨h.1.symm,h.2.1.symm⟩
def DC(i0 m:Nat) (S:Nat->Bool):Bool:=(List.range i0).all λk=>!m.testBit k||S k
theorem tY {i0 m:Nat}{S:Nat->Bool}:DC i0 m S=true↔∀ k,k<i0->m.testBit k=true->S k=true:=by
 rw[DC,List.all_eq_true];constructor
 ·intro h k hk hm;have:=h k (List.mem_range.2 hk);rwa[hm]at this
 ·intro h k hk;cases hm:m.testBit k with
  | false=>rfl
  | true=>rw[h k (List.mem_range.1 hk) hm]; rfl
def late(i0 m:Nat)(S:Nat->Bool)(i:Nat):Bool:=if i=i0 then S i0&&DC i0 m S else S i
theorem tL {i0 m:Nat}{S:Nat->Bool}{i:Nat}(h:i≠i0):late i0 m S i=S i:=if_neg h
theorem AL {i0 m:Nat}{S:Nat->Bool}:late i0 m S i0=(S i0&&DC i0 m S):=if_pos rfl
structure aWH (T:Trace P cl nt ops' F H F' H') (n0:Nat->Prop) (wi:World) (Gi:Gd) (μi:Mp) (d:Nat) (t:TypeId) (z:Value) (S:Nat->Bool) (a:Act) (w:World):Prop where
 ex:∃ p w1 G1 μ1,Ext n0 wi Gi μi w1 G1 μ1/\p<w1.heap.size/\n0 p/\¬ G1 p/\w1.heap[p]?=some (.cells z.cells t (0,0))/\a.tmps.getD d undef=.pointer (some ⟨p,0,none⟩) /\
  ∀ F1:Frm,(∀ s,cV F1 s=if s=d then .junk else pO T S s ops'.size)->I (aT9 n0 p) w1 G1 μ1 nt F1 (eE T S ops'.size) a w
structure At (T:Trace P cl nt ops' F H F' H') (n0:Nat->Prop) (wi:World) (Gi:Gd) (μi:Mp) (S:Nat->Bool) (a:Act) (w:World):Prop where
 ex:∀ F1:Frm,(∀ s,cV F1 s=pO T S s ops'.size)->I n0 wi Gi μi nt F1 (eE T S ops'.size) a w
theorem aXF {a:Act}{o:Option Tmp}{d:Nat}{v:Value}(h:o≠some d):(a.put o v).tmps.getD d undef=a.tmps.getD d undef:=by
 cases o with
 | none=>rfl
 | some x =>
  have hne:x≠d:=λe=>h (by rw[e])
  simp only[Act.put,Array.getD_eq_getD_getElem?,Array.getElem?_setIfInBounds_ne hne]
theorem aY4 {a:Act}{d:Nat}{v:Value}(h:d<a.tmps.size):(a.put (some d) v).tmps.getD d undef=v:=by simp[Act.put,Array.getD_eq_getD_getElem?,h]
theorem aZI(T:Trace P cl nt ops' F H F' H') (hcl:dF P cl) (hmd:T.md=none) (hst':uH ops'=true) {i0 d:Nat} {t:TypeId} {z:Value} {o0':Oper} (h0':ops'[i0]?=some o0') (hg:o0'.guard=none) (hop:o0'.op=.alloc t) (hd:o0'.dst=some d)
  (hz:xW P t=some z) {S S':Nat->Bool} (hcs:MF (dA ops') S) (hun:S i0=false) (hahead:∀ b,((dA ops').getD i0 0).testBit b=true->S b=true) (hSi:S' i0=true) (hS':∀ j,j≠i0->S' j=S j) {a:Act} (h:aWH T n0 wi Gi μi d t z S a w):At T n0 wi Gi μi S' a w:=by
 obtain⟨p,w1,G1,μ1,e1,hp,hn,hG1,hc,ha,hI⟩:=h.ex;obtain⟨F1,hF1⟩:=YE T S ops'.size;obtain⟨c1,F2,k1,k2,k3⟩:=aV3 T hcl hst' hcs h0' hun hahead hSi hS' hF1;rw[hmd]at k1;obtain⟨k4,k5⟩:=aC4 hg hop hz k1;obtain⟨G,μ,e2,hW,hF⟩:=hI ((d,.junk)::F1) λs=>by rw[dJ,hF1]
 have hG:¬ G p:=λh=>(e2.new p h).elim hG1 λh=>h.2 rfl
 have hc':w.heap[p]?=some (.cells z.cells t (0,0)):=(e2.old p hp λh=>h.2 rfl).trans hc;obtain⟨e3,hW'⟩:=aXB hW hc' hn hG;refine⟨λF3 hF3=>⟨G,_,(e1.trans e2.aQ5).trans e3,by rw[k5]; exact hW',hF.size,λs=>?_,hF.defers⟩⟩;rw[hF3,<- k3,Y4 k2 s,hd]
 by_cases hs:s=d
 ·subst hs;rw[if_pos rfl,k4,ha,VR];exact⟨p,gK _ _ _ _,rfl⟩
 ·rw[if_neg (λe=>hs (oB e).symm)];have:=VR.mono e3.toMono _ _ (hF.slot s);rwa[dJ,if_neg hs]at this
theorem aVF(T:Trace P cl nt ops' F H F' H') (hcl:dF P cl) (hmd:T.md=none) (hst:uH ops=true) (hst':uH ops'=true) (hsz:ops'.size=ops.size) {i0 m d:Nat} {t:TypeId} {z:Value} {o0 o0':Oper}
  (hsame:∀ j,j≠i0->ops'[j]?=ops[j]?) (h0:ops[i0]?=some o0) (h0':ops'[i0]?=some o0') (hg:o0.guard=none) (hop:o0.op=.alloc t) (hd:o0.dst=some d) (hg':o0'.guard=none) (hop':o0'.op=.alloc t) (hd':o0'.dst=some d) (hz:xW P t=some z)
  (hms:∀ j,j≠i0->(dA ops').getD j 0=(dA ops).getD j 0) (hprev:∀ k,((dA ops').getD i0 0).testBit k=true↔k<i0/\m.testBit k=true) (hfree:(dA ops).getD i0 0=0) (hlate:∀ j,i0<j->j<ops.size->∀ k,k<i0->m.testBit k=true->((dA ops).getD j 0).testBit k=true)
  (hplain:∀ (j:Nat) (o:Oper),ops[j]?=some o->o.guard=none/\∀ t x y,o.op≠.makeSlice t x y) {Q:Exit->Act->World->Prop} (hQ:∀ a' w',I n0 wi Gi μi nt F' H' a' w'->Q .normal a' w') {a:Act} {w:World} (hI:I n0 wi Gi μi nt F H a w) :
  wpAny P .any ops Q ops.size (Array.replicate ops.size false) a w:=by
 have hst2:=hst;simp only[uH,oA]at hst2;obtain⟨hmask,hpairs⟩:=hst2;have hi0:i0<ops.size:=(Array.getElem?_eq_some_iff.1 h0).1;have hap:∀ i j oi oj,ops[i]?=some oi->ops[j]?=some oj->i<j->((dA ops).getD j 0).testBit i=true\/oi.apart ops oj=true:=λi j oi oj hi hj hij=>by
  have:=XU hpairs (j:=j) (oj:=oj) (by simpa using hj);rw[Nat.zero_add]at this;have:=aBU this (i:=i) (oi:=oi) (by simpa using hi) (by omega);rwa[Nat.zero_add]at this
 refine aWF hmask (J:=λlisted a w=>((listed.getD i0 false=true->DC i0 m (λi=>listed.getD i false)=true)->At T n0 wi Gi μi (late i0 m λi=>listed.getD i false) a w) /\
   (listed.getD i0 false=true->DC i0 m (λi=>listed.getD i false)=false->aWH T n0 wi Gi μi d t z (late i0 m λi=>listed.getD i false) a w)) ?_ ?_ ?_
 ·rintro listed a w hall ⟨hI,-⟩;have hp:DC i0 m (λi=>listed.getD i false)=true:=tY.2 λi hi _=>hall i (by omega)
  have hl:∀ j,j<ops.size->late i0 m (λi=>listed.getD i false) j=true:=λj hj=>by
   by_cases hji:j=i0
   ·subst hji; rw[AL,hp,hall j hj]; rfl
   ·rw[tL hji]; exact hall j hj
  have h1:∀ t,cV F' t=pO T (late i0 m λi=>listed.getD i false) t ops'.size:=λt=>by rw[HU T (S':=λ_=>true) λj hj _=>hl j (by omega),V8 T t _ (oM _),T.fn]
  have h2:=(hI λ_=>hp).ex F' h1;rw[BB T (S':=λ_=>true) λj hj _=>hl j (by omega),PG T hcl _ (oM _),T.hn]at h2;exact hQ a w h2
 ·rintro listed listed' a w i o ho hszl hun hcs hahead hSi hS' ⟨hI,hE⟩ K hnext0;have hlt:i<ops.size:=(Array.getElem?_eq_some_iff.1 ho).1;obtain⟨hgi,hmi⟩:=hplain i o ho;have hnext:∀ (a':Act) (w':World),((listed'.getD i0 false=true->DC i0 m (λi=>listed'.getD i false)=true)->At T n0 wi Gi μi (late i0 m λi=>listed'.getD i false) a' w') ->
    (listed'.getD i0 false=true->DC i0 m (λi=>listed'.getD i false)=false->aWH T n0 wi Gi μi d t z (late i0 m λi=>listed'.getD i false) a' w')->K a' w':=λa' w' h1 h2=>hnext0 a' w' ⟨h1,h2⟩
  -- what is done but for the variable
  have hclv:MF (dA ops') (late i0 m λi=>listed.getD i false):=λj hj b hb=>by
   by_cases hji:j=i0
   ·subst hji;rw[AL,oA]at hj;have hb':=(hprev b).1 hb;rw[tL (by omega)];exact tY.1 hj.2 b hb'.1 hb'.2
   ·rw[tL hji]at hj;rw[hms j hji]at hb
    by_cases hbi:b=i0
    ·subst hbi;rw[AL,oA];refine⟨hcs j hj b hb,tY.2 λk hk hkm=>?_⟩;have hjs:j<ops.size:=by
      rcases oG j ops.size with h|h
      ·exact h
      ·have:listed.getD j false=false:=by
        have:¬ j<listed.size:=by omega
        simp[Array.getD,this]
       rw[this]at hj; cases hj
     have hbj:b<j:=by
      obtain⟨oj,hoj⟩:∃ oj,ops[j]?=some oj:=⟨ops[j],Array.getElem?_eq_getElem hjs⟩;rcases oG b j with h|h
      ·exact h
      ·have:=aN3 hmask j b hjs hb;omega
     exact hcs j hj k (hlate j hbj hjs k hk hkm)
    ·rw[tL hbi]; exact hcs j hj b hb
  have hwant:Region.wanted o (yielded ops a.tmps)=true:=by
   unfold Region.wanted;rw[hgi]
  unfold wpOp;rw[ho];simp only;rw[if_pos hwant];refine .inl ?_
  by_cases hii:i=i0
  ·-- the variable
   subst hii;obtain rfl:o=o0:=oB (ho.symm.trans h0);have hAt:=hI λh=>by rw[hun]at h; cases h
   have hp2:DC i m (λj=>listed'.getD j false)=DC i m (λj=>listed.getD j false):=by
    rw[Bool.eq_iff_iff,tY,tY];constructor
    ·intro h j hj hjm; have:=h j hj hjm; rwa[hS' j (by omega)]at this
    ·intro h j hj hjm; rw[hS' j (by omega)]; exact h j hj hjm
   have hzv:∀ w:World,(zeroValue t).run P w=.ok z w:=λw=>by
    unfold xW at hz;split at hz
    ·rename_i i hi;simp[zeroValue,yT hi,hz]
    ·cases hz
   have hrun:(Instr.alloc t true (.tuple #[])).run P w=.ok (.pointer (some ⟨w.heap.size,0,none⟩)) (w.alloc (.cells z.cells t)):=by
    simp only[Instr.alloc,Sem.run_bind,hzv,Result.andThen_ok,newVar];simp[newRow]
   have hwp:∀ K:Act->World->Prop,K (a.put (some d) (.pointer (some ⟨w.heap.size,0,none⟩))) (w.alloc (.cells z.cells t))->o.wp P a w K Q:=by
    intro K hK;unfold Oper.wp;have:execOp a.eval o=(do pure (.value (<- Instr.alloc t true (.tuple #[])))):=by simp only[execOp,hop]
    rw[this];simp only[Sem.run_bind,hrun,Result.andThen_ok,Sem.run_pure];rw[Oper.upon_value,hd];exact hK
   refine hwp _ ?_;obtain⟨F1,hF1⟩:=YE T (late i m λj=>listed.getD j false) ops'.size;obtain⟨G,μ,e,hW,hF⟩:=hAt.ex F1 hF1;cases hall:DC i m (λj=>listed.getD j false)with
   | true =>
    refine hnext _ _ (λ_=>?_) (λ_ h=>by rw[hp2,hall]at h; cases h);obtain⟨c1,F2,k1,k2,k3⟩:=aV3 T hcl hst' hclv (S':=late i m λj=>listed'.getD j false) h0' (by rw[AL,hun]; rfl) (λb hb=>by
     have:=(hprev b).1 hb;rw[tL (by omega)];exact tY.1 hall b this.1 this.2) (by rw[AL,hSi,hp2,hall]; rfl) (λj hj=>by rw[tL hj,tL hj,hS' j hj]) hF1
    rw[hmd]at k1;obtain⟨k4,k5⟩:=aC4 hg' hop' hz k1;have e1:=BQ hW (.cells z.cells t) (some w.heap.size) none;have hW1:=DX hW z.cells ⟨lits z.cells,t,false,false,none⟩ (on:=none) (λj p hp=>by
     have hp:(lits z.cells)[j]?=some p:=hp;simp only[lits,List.getElem?_map,Option.map_eq_some_iff]at hp;obtain⟨v,h1,rfl⟩:=hp;exact⟨v,by simpa using h1,by rw[VR]⟩) (λ_=>by simp[lits]) rfl (λg hg=>by cases hg)
    refine⟨λF3 hF3=>⟨G,_,e.trans e1,by rw[k5]; exact hW1,?_⟩⟩;rw[hd']at k2;refine fQ.congr ((hF.mono e1.toMono).aCQ k2 (v:=.pointer (some ⟨w.heap.size,0,none⟩)) ?_) λs=>by rw[hF3,k3]
    rw[k4,VR];exact⟨w.heap.size,gK _ _ _ _,rfl⟩
   | false =>
    refine hnext _ _ (λh=>by rw[hp2,hall]at h; exact absurd (h hSi) (by decide)) (λ_ _=>?_);have hsm:late i m (λj=>listed'.getD j false)=late i m (λj=>listed.getD j false):=by
     funext j
     by_cases hj:j=i
     ·subst hj; rw[AL,AL,hp2,hall,Bool.and_false,Bool.and_false]
     ·rw[tL hj,tL hj,hS' j hj]
    rw[hsm];obtain⟨e1,hW1⟩:=YG hW (.cells z.cells t);have hdn:d<a.tmps.size:=by
     obtain⟨-,k2,-⟩:=T.step i o0' h0';rw[hd']at k2;simp only[LF]at k2;cases hb:Nat.blt d nt with
     | true=>rw[hF.size]; have:=fB hb; omega
     | false=>rw[hb]at k2; cases k2
    have hlast:(w.alloc (.cells z.cells t)).heap[w.heap.size]?=some (.cells z.cells t (0,0)):=by
     show (w.heap.push _)[w.heap.size]?=_;simp
    refine⟨⟨w.heap.size,_,G,μ,e.trans e1,by simp,hW.base _ (oM _),λh=>Nat.lt_irrefl _ (hW.lt _ h),hlast,aY4 hdn,λF3 hF3=>⟨G,μ,Ext.refl _ _ _ _,hW1.aT9 ?_ ?_ (by simp),?_⟩⟩⟩
    ·intro r k b hr _ hb hh;have:=hW.nB hr hb;omega
    ·intro j b hj hh;have:=(hW.rows.sep j b hj).1;omega
    ·have hx:LF nt F1 (some d) .junk=some ((d,.junk)::F1):=by
      simp only[LF];rw[show Nat.blt d nt=true from Nat.ble_eq_true_of_le (by rw[<- hF.size]; omega)];rfl
     refine fQ.congr ((hF.mono e1.toMono).aCQ hx (v:=.pointer (some ⟨w.heap.size,0,none⟩)) (by rw[VR]; trivial)) λs=>by rw[hF3,dJ,hF1]
  ·-- another one
   have ho':ops'[i]?=some o:=by rw[hsame i hii]; exact ho
   have hunv:late i0 m (λj=>listed.getD j false) i=false:=by rw[tL hii]; exact hun
   have haheadv:∀ b,((dA ops').getD i 0).testBit b=true->late i0 m (λj=>listed.getD j false) b=true:=λb hb=>by
    rw[hms i hii]at hb
    by_cases hbi:b=i0
    ·subst hbi;have hbl:b<i:=by
      have:=aN3 hmask i b hlt hb;omega
     rw[AL,oA];exact⟨hahead b hb,tY.2 λk hk hkm=>hahead k (hlate i hbl hlt k hk hkm)⟩
    ·rw[tL hbi]; exact hahead b hb
   let S1:Nat->Bool:=λj=>if j=i then true else late i0 m (λj=>listed.getD j false) j
   have hS1i:S1 i=true:=if_pos rfl;have hS1:∀ j,j≠i->S1 j=late i0 m (λj=>listed.getD j false) j:=λj hj=>if_neg hj
   obtain⟨F1,hF1⟩:=YE T (late i0 m λj=>listed.getD j false) ops'.size;obtain⟨c1,F2,k1,k2,k3⟩:=aV3 T hcl hst' hclv ho' hunv haheadv hS1i hS1 hF1;rw[hmd]at k1;have k1:p5 P cl ops'.toList o F1 _=_:=k1;rw[aY1 (l':=ops.toList) hgi hmi]at k1;have hi0':listed'.getD i0 false=listed.getD i0 false:=hS' i0 λe=>hii e.symm
   by_cases hearly:listed.getD i0 false=true/\DC i0 m (λj=>listed.getD j false)=false
   ·obtain⟨hl0,hnp⟩:=hearly;obtain⟨p,w1,G1,μ1,e1,hp,hn,hG1,hc1,ha,hI1⟩:=(hE hl0 hnp).ex;have hilt:i<i0:=by
     rcases Nat.lt_trichotomy i i0 with h|h|h
     ·exact h
     ·exact absurd h hii
     ·exfalso;have:DC i0 m (λj=>listed.getD j false)=true:=tY.2 λk hk hkm=>hahead k (hlate i h hlt k hk hkm)
      rw[this]at hnp; cases hnp
    obtain⟨b1,b2,b3⟩:(∀ t',o.dst=some t'->t' ∉ o0.looksAt ops)/\(∀ t'∈o0.looksAt ops,o.dst≠some t')/\True:=⟨λ_ _=>by
      unfold Oper.looksAt;rw[hg,hop];simp[Op.operands],λt' h=>by
      unfold Oper.looksAt at h;rw[hg,hop]at h;simp[Op.operands]at h,trivial⟩
    have hapt:o.apart ops o0=true:=by
     rcases hap i i0 o o0 ho h0 hilt with h|h
     ·rw[hfree]at h; simp at h
     ·exact h
    obtain⟨a1,a2,a3⟩:=Oper.apart_spec hapt;have hdl:d ∉ o.looksAt ops:=a3 d hd;have hdd:o.dst≠some d:=λh=>a2 d h hd
    have hFj:∀ s,cV ((d,PV.junk)::F1) s=if s=d then .junk else pO T (late i0 m λj=>listed.getD j false) s ops'.size:=λs=>by rw[dJ,hF1]
    have k1j:p5 P cl ops.toList o ((d,PV.junk)::F1) (eE T (late i0 m λj=>listed.getD j false) ops'.size)=some (T.vs i,eE T S1 ops'.size,c1):=by
     rw[<- k1];refine U7 λs hs=>?_
     rw[dJ,if_neg (show ¬ s=d from λe=>hdl (e ▸ hs))]
    obtain⟨G,μ,e2,hW,hF⟩:=hI1 _ hFj;obtain⟨F2j,hF2j⟩:∃ F2j,LF nt ((d,PV.junk)::F1) o.dst (T.vs i)=some F2j:=by
     cases hdo:o.dst with
     | none=>exact⟨_,rfl⟩
     | some x =>
      rw[hdo]at k2;simp only[LF]at k2 ⊢;cases hb:Nat.blt x nt with
      | true=>exact⟨_,rfl⟩
      | false=>rw[hb]at k2; cases k2
    have hslots:∀ s,cV F2j s=if s=d then .junk else pO T S1 s ops'.size:=λs=>by
     rw[Y4 hF2j s]
     by_cases hsd:s=d
     ·subst hsd;rw[if_neg hdd,if_pos rfl,dJ,if_pos rfl]
     ·rw[if_neg hsd,<- k3,Y4 k2 s,dJ,if_neg hsd]
    rcases HS hcl k1j hW hF with ⟨m1,m2⟩|⟨m1,m2,m3⟩
    case inr=>rw[hwant]at m1; cases m1
    refine m2 _ _ λv' w' G' μ' e' hW' hv'=>?_
    have hEarly:aWH T n0 wi Gi μi d t z S1 (a.put o.dst v') w':=⟨⟨p,w1,G1,μ1,e1,hp,hn,hG1,hc1,by rw[aXF hdd]; exact ha,λF3 hF3 =>
     ⟨G',μ',e2.trans e',hW',((hF.mono e'.toMono).aCQ hF2j hv').congr λs=>by rw[hF3,hslots]⟩⟩⟩
    refine hnext _ _ (λh=>?_) (λ_ hnp'=>?_)
    ·have hall':=h (by rw[hi0']; exact hl0);refine aZI T hcl hmd hst' h0' hg' hop' hd' hz (S:=S1) ?_ ?_ ?_ ?_ ?_ hEarly
     ·intro j hj b hb
      by_cases hji:j=i
      ·subst hji;have:=haheadv b hb
       by_cases hbj:b=j
       ·rw[hbj]; exact hS1i
       ·rw[hS1 b hbj]; exact this
      ·rw[hS1 j hji]at hj;have:=hclv j hj b hb
       by_cases hbi:b=i
       ·rw[hbi]; exact hS1i
       ·rw[hS1 b hbi]; exact this
     ·rw[hS1 i0 (λe=>hii e.symm),AL,hnp,Bool.and_false]
     ·intro b hb;have hb':=(hprev b).1 hb
      by_cases hbi:b=i
      ·rw[hbi]; exact hS1i
      ·rw[hS1 b hbi,tL (by omega),<- hS' b hbi];exact tY.1 hall' b hb'.1 hb'.2
     ·rw[AL,hall',hi0',hl0]; rfl
     ·intro j hj;rw[tL hj]
      by_cases hji:j=i
      ·rw[hji,hSi,hS1i]
      ·rw[hS' j hji,hS1 j hji,tL hj]
    ·have hsm:late i0 m (λj=>listed'.getD j false)=S1:=by
      funext j
      by_cases hj:j=i0
      ·subst hj;rw[AL,hnp',Bool.and_false,hS1 j (λe=>hii e.symm),AL,hnp,Bool.and_false]
      ·rw[tL hj]
       by_cases hji:j=i
       ·rw[hji,hSi,hS1i]
       ·rw[hS' j hji,hS1 j hji,tL hj]
     rw[hsm]; exact hEarly
   ·have hno:listed.getD i0 false=true->DC i0 m (λj=>listed.getD j false)=true:=λh=>by
     cases hp:DC i0 m (λj=>listed.getD j false)with
     | true=>rfl
     | false=>exact absurd ⟨h,hp⟩ hearly
    have hno':listed'.getD i0 false=true->DC i0 m (λj=>listed'.getD j false)=true:=λh=>by
     rw[hi0']at h;have:=hno h;refine tY.2 λj hj hjm=>?_
     by_cases hji:j=i
     ·rw[hji]; exact hSi
     ·rw[hS' j hji]; exact tY.1 this j hj hjm
    have hsm:late i0 m (λj=>listed'.getD j false)=S1:=by
     funext j
     by_cases hj:j=i0
     ·subst hj;rw[hS1 j (λe=>hii e.symm),AL,AL,hi0'];cases hl0:listed.getD j false with
      | false=>rfl
      | true=>rw[hno hl0,hno' (by rw[hi0']; exact hl0)]
     ·rw[tL hj]
      by_cases hji:j=i
      ·rw[hji,hSi,hS1i]
      ·rw[hS' j hji,hS1 j hji,tL hj]
    obtain⟨G,μ,e,hW,hF⟩:=(hI hno).ex F1 hF1;rcases HS hcl k1 hW hF with ⟨m1,m2⟩|⟨m1,m2,m3⟩
    case inr=>rw[hwant]at m1; cases m1
    refine m2 _ _ λv' w' G' μ' e' hW' hv'=>?_
    refine hnext _ _ (λ_=>?_) (λh h'=>by rw[hno' h]at h'; cases h');rw[hsm];exact⟨λF3 hF3=>⟨G',μ',e.trans e',hW',((hF.mono e'.toMono).aCQ k2 hv').congr λs=>by rw[hF3,k3]⟩⟩
 ·have hfalse:∀ j,(Array.replicate ops.size false).getD j false=false:=λj=>by
   simp only[Array.getD];split <;> simp
  have hlf:∀ j,late i0 m (λi=>(Array.replicate ops.size false).getD i false) j=false:=λj=>by
   by_cases hj:j=i0
   ·subst hj; rw[AL,hfalse]; rfl
   ·rw[tL hj,hfalse]
  refine⟨λ_=>⟨λF1 hF1=>?_⟩,λh=>by rw[hfalse]at h; cases h⟩;rw[L0 T (k:=0) (Nat.zero_le _) λj _ _ _=>hlf j];exact hI.congr λt=>by rw[hF1,LN T (k:=0) (Nat.zero_le _) λj _ _ _=>hlf j]; rfl
end
section
variable {P:Program}
def tied(ops:Array Oper) (i0 m:Nat):Array Oper:=ops.mapIdx λj o=>if j=i0 then { o with after:=(((List.range i0).filter λk=>m.testBit k).map λk=>⟨k,.data⟩).toArray } else o
def aUB(ops ops':Array Oper)(i0 m:Nat):Bool:=(List.range ops.size).all (λj=>Nat.beq j i0||(Nat.beq ((dA ops').getD j 0) ((dA ops).getD j 0)&&(!Nat.blt i0 j||(List.range i0).all λk=>!m.testBit k||((dA ops).getD j 0).testBit k))) &&
 Nat.beq ((dA ops').getD i0 0) m&&Nat.blt m (2^i0)&&Nat.beq ((dA ops).getD i0 0) 0&&Nat.beq (dA ops).length ops.size&&Nat.beq (dA ops').length ops.size &&
 ops.toList.all λo=>o.guard.isNone&&(match o.op with|.makeSlice ..=>false|_=>true)
def aPX(o:Oper):Option (TypeId×Nat):=match o.guard,o.op,o.dst with
 | none,.alloc t,some d=>some (t,d)
 | _,_,_=>none
def a4Q(o:Oper):Option (TypeId×Operand×Nat):=match o.guard,o.op,o.dst with
 | none,.box t v,some d=>some (t,v,d)
 | _,_,_=>none
def aZY(P:Program) (E:Env) (fn:Func) (bG:Nat) (lt:Nat->Option cA) (opsA:Array Oper) (restA:List Oper) (vb:Operand) (db:Nat) (c2:Code) (ops':Array Oper) (args rets:List Kd) (x:aK args):Option (aK rets) :=
 bif Nat.ble (lO args x).length fn.ntmps then match uC (ev (start bG 0 (lO args x)) vb)with
  | some cs=>bif eB.noRefs cs&&Nat.blt db fn.ntmps then KM P E fn.ntmps opsA.toList restA ((db,.iptr cs)::start bG 0 (lO args x)) [] λF H =>
   stK P E fn.ntmps none (dA ops') ops'.toList ops'.toList 0 F H [] λF H hl=>bif VN (dA ops') hl then EU P E fn.ntmps bG lt c2 F H (aLN P fn.results.toList rets) else none
   else none
  | none=>none
 else none
theorem aXG {E:Env} (hE:dF P (eT P E)) {nt:Nat} {ops:Array Oper} {i0 m:Nat} {t:TypeId} {d:Nat} {z:Value} {o0:Oper} (h0:ops[i0]?=some o0) (ha:aPX o0=some (t,d)) (hz:xW P t=some z)
  (hst:uH ops=true) (hst':uH (tied ops i0 m)=true) (hti:aUB ops (tied ops i0 m) i0 m=true) {F F':Frm} {H H':Heap} {hl:aG6}
  (h:X1 P (eT P E) nt none (dA (tied ops i0 m)) (tied ops i0 m).toList F H (tied ops i0 m).toList.length=some (F',H',hl)) (hh:VN (dA (tied ops i0 m)) hl=true)
  {n0:Nat->Prop} {wi:World} {Gi:Gd} {μi:Mp} {a:Act} {w:World} {Q:Exit->Act->World->Prop} (hI:I n0 wi Gi μi nt F H a w) (hQ:∀ a' w',I n0 wi Gi μi nt F' H' a' w'->Q .normal a' w') :
  wpAny P .any ops Q ops.size (Array.replicate ops.size false) a { w with drawn:=w.drawn+1 }:=by
 obtain⟨T,hmd⟩:=aSV hE h hh;have hg:o0.guard=none/\o0.op=.alloc t/\o0.dst=some d:=by
  unfold aPX at ha;split at ha
  ·rename_i h1 h2 h3;simp only[oJ,oP]at ha;obtain⟨rfl,rfl⟩:=ha;exact⟨h1,h2,h3⟩
  ·cases ha
 obtain⟨g1,g2,g3⟩:=hg;have hlt:i0<ops.size:=(Array.getElem?_eq_some_iff.1 h0).1;have hsz:(tied ops i0 m).size=ops.size:=by simp[tied]
 have hsame:∀ j,j≠i0->(tied ops i0 m)[j]?=ops[j]?:=λj hj=>by
  simp only[tied,Array.getElem?_mapIdx,if_neg hj];cases ops[j]? <;> rfl
 have h0':(tied ops i0 m)[i0]?=some { o0 with after:=(((List.range i0).filter λk=>m.testBit k).map λk=>⟨k,.data⟩).toArray }:=by simp only[tied,Array.getElem?_mapIdx,h0,Option.map_some,if_pos]
 simp only[aUB,oA,List.all_eq_true]at hti;obtain⟨⟨⟨⟨⟨⟨t1,t2⟩,t7⟩,t3⟩,t4⟩,t5⟩,t6⟩:=hti;have t1':∀ j,j<ops.size->j≠i0->(dA (tied ops i0 m)).getD j 0=(dA ops).getD j 0/\(i0<j->∀ k,k<i0->m.testBit k=true->((dA ops).getD j 0).testBit k=true):=λj hj hne=>by
  have:=t1 j (List.mem_range.2 hj);rw[RC hne,Bool.false_or,oA]at this;refine⟨oE this.1,λhl k hk hm=>?_⟩;have h2:=this.2;rw[show Nat.blt i0 j=true from Nat.ble_eq_true_of_le hl,Bool.not_true,Bool.false_or,List.all_eq_true]at h2;have h3:=h2 k (List.mem_range.2 hk);rwa[hm,Bool.not_true,Bool.false_or]at h3
 have hms:∀ j,j≠i0->(dA (tied ops i0 m)).getD j 0=(dA ops).getD j 0:=λj hne=>by
  rcases oG j ops.size with hj|hj
  ·exact(t1' j hj hne).1
  ·have e1:=oE t4;have e2:=oE t5;simp[List.getD,List.getElem?_eq_none (by omega:(dA ops).length<=j),List.getElem?_eq_none (by omega:(dA (tied ops i0 m)).length<=j)]
 have hprev:∀ k,((dA (tied ops i0 m)).getD i0 0).testBit k=true↔k<i0/\m.testBit k=true:=λk=>by
  rw[oE t2];refine⟨λh=>⟨?_,h⟩,(·.2)⟩;rcases oG k i0 with hl|hl
  ·exact hl
  ·have:m<2^k:=Nat.lt_of_lt_of_le (fB t7) (Nat.pow_le_pow_right (by decide) hl);rw[Nat.testBit_lt_two_pow this]at h;cases h
 have hlate:∀ j,i0<j->j<ops.size->∀ k,k<i0->m.testBit k=true->((dA ops).getD j 0).testBit k=true:=λj hj hjs=>(t1' j hjs (by omega)).2 hj
 have hplain:∀ (j:Nat) (o:Oper),ops[j]?=some o->o.guard=none/\∀ t x y,o.op≠.makeSlice t x y:=λj o ho=>by
  have hm:o∈ops.toList:=by
   rw[Array.mem_toList_iff];exact Array.mem_of_getElem? ho
  have:=t6 o hm;refine⟨by cases hgg:o.guard with|none=>rfl|some x=>rw[hgg]at this; simp at this,λt x y hop=>?_⟩;rw[hop]at this;simp at this
 obtain⟨G,μ,e,hW,hF⟩:=hI;exact aVF T hE hmd hst hst' hsz hsame h0 h0' g1 g2 g3 g1 g2 g3 hz hms hprev (oE t3) hlate hplain hQ ⟨G,μ,e.trans (aCS (Nat.le_add_right _ _)),ZM hW _,hF.mono (TU _)⟩
theorem aW6 {E:Env} (hP:ME P) (hE:fR P E) {g:Nat} {fn:Func} (hg:P.funcs[g]?=some fn) {c2:Code} {ida id:Nat} {opsA ops:Array Oper} (hc:fn.body=some (.seq (.region ida opsA false) (.seq (.region id ops true) c2))) {bG:Nat} {lt:Nat->Option cA} {args rets:List Kd} {f:aK args->Option (aK rets)}
  {i0 m:Nat} {t:TypeId} {d:Nat} {z:Value} {o0:Oper} (h0:ops[i0]?=some o0) (ha:aPX o0=some (t,d)) (hz:xW P t=some z) (hst:uH ops=true) (hst':uH (tied ops i0 m)=true) (hti:aUB ops (tied ops i0 m) i0 m=true)
  {opA:Oper} {restA:List Oper} {tb:TypeId} {vb:Operand} {db:Nat} (hA:opsA.toList=opA::restA) (hbx:a4Q opA=some (tb,vb,db)) (hl2:a8 c2=[]) (hb:∀ x,aZY P E fn bG lt opsA restA vb db c2 (tied ops i0 m) args rets x=f x):UZ P g args rets f:=by
 intro x y hy;rw[<- hb]at hy;unfold aZY at hy;obtain⟨hlen,hy⟩:=aH hy;obtain⟨b1,b2,b3⟩:opA.guard=none/\opA.op=.box tb vb/\opA.dst=some db:=by
  unfold a4Q at hbx;split at hbx
  ·rename_i h1 h2 h3;simp only[oJ,oP]at hbx;obtain⟨rfl,rfl,rfl⟩:=hbx;exact⟨h1,h2,h3⟩
  ·cases hbx
 split at hy
 case h_2=>cases hy
 rename_i cs hcs;obtain⟨hnr,hy⟩:=aH hy;rw[oA]at hnr;obtain⟨F1,H1,q2,q1⟩:=wD hy;obtain⟨F2,H2,hl,q3,q4⟩:=YM q1 (F0:=F1) (H0:=H1) (by simp) (Nat.zero_le _) rfl;obtain⟨hh,q4⟩:=aH q4;obtain⟨⟨ex,F',H'⟩,h1,h2⟩:=nG hE.callee hP.mixed c2 _ _ _ _ (by rw[hl2]; intro a ha; cases ha) q4;obtain⟨vs,q,hex,hvs,hq,hd⟩:∃ vs q,(ex=.normal\/ex=.ret)/\uO P F' H' fn.results.toList=some vs/\aS0 H' (fG vs)=some q/\aOI rets q=some y:=by
  unfold aLN at h1;split at h1
  ·cases h1
  ·rename_i hne;split at h1
   ·rename_i vs hvs;split at h1
    ·rename_i q hq;refine⟨vs,q,?_,hvs,hq,h1⟩;cases ex with
     | normal=>exact .inl rfl
     | ret=>exact .inr rfl
     | exit i=>exact absurd rfl (hne i)
    ·cases h1
   ·cases h1
 have hcall:∀ {n0 G μ w us},aN n0 G μ [] w->VRs w G μ (lO args x) us->xH P n0 w G μ g us.toArray (fG vs) H':=by
  intro n0 G μ w us hW hv;refine⟨enters hg (hP.names g fn hg) (by rw[hc]; rfl) _ _,calls_of_wp hg hc ?_⟩;have hI:I n0 w G μ fn.ntmps (start bG 0 (lO args x)) [] ⟨us.toArray++Array.replicate (fn.ntmps-us.toArray.size) undef,[]⟩ w:=⟨G,μ,Ext.refl _ _ _ _,hW,AP (by simpa using hv) (oL hlen)⟩;have htop:∀ r,μ.loc r=none/\μ.len r=none:=λr=>hW.top r (Nat.zero_le _)
  refine wp_seq (wp_mono (Q:=λe a' w'=>e=.normal/\I n0 w G μ fn.ntmps F1 H1 a' w') (wp_region_list ?_) ?_)
  ·rw[hA];unfold wpList;rw[if_pos (by unfold Region.wanted; rw[b1])];refine .inl ?_;obtain⟨G1,μ1,e1,hW1,hF1⟩:=hI;generalize hact:(⟨us.toArray++Array.replicate (fn.ntmps-us.toArray.size) undef,[]⟩:Act)=act at hF1 ⊢;have hok:F8 P n0 w G1 μ1 opA act (.iptr cs) []:=.value (s:=Instr.box tb (act.eval vb)) (by simp only[execOp,b2]) (aF3 hW1 (GQ hcs (cQ hF1 vb)) hnr.1);refine hok _ _ λv' w' G' μ' e' hW' hv=>?_
   refine A9 hE.callee restA _ [] _ _ q2 ⟨G',μ',e1.trans e',hW',?_⟩ λa' w' h=>⟨rfl,h⟩
   rw[b3];exact(hF1.mono e'.toMono).cons (fB hnr.2) hv
  rintro e a1 w1 ⟨rfl,hI1⟩;refine wp_seq (wp_mono (Q:=λe a' w'=>e=.normal/\I n0 w G μ fn.ntmps F2 H2 a' w') (wp_region_any hP.mixed (aXG hE.callee h0 ha hz hst hst' hti q3 hh hI1 λa' w' h=>⟨rfl,h⟩)) ?_);rintro e a2 w2 ⟨rfl,hI2⟩;refine wp_mono (h2 n0 w G μ a2 w2 htop hI2) ?_;rintro e a' w' ⟨rfl,G',μ',e',hW',hF'⟩;obtain⟨ws,h3,h4⟩:=rD (P:=P) hW' hF' hvs;have hres:(results fn a'.tmps).run P w'=.ok (if hh:ws.toArray.size=1 then ws.toArray[0] else .tuple ws.toArray) w':=by
   rw[DR,Array.mapM_eq_mapM_toList];simp only[Sem.run_bind,Sem.run_map,h3,Result.andThen_ok,Sem.run_pure]
  have hpost:a'.defers=[]/\∃ v,(results fn a'.tmps).run P w'=.ok v w'/\(∃ v' G'' μ'',Ending.returned v=.returned v'/\Ext n0 w G μ w' G'' μ''/\aN n0 G'' μ'' H' w'/\VR w' G'' μ'' (fG vs) v') :=
   ⟨hF'.defers,_,hres,_,G',μ',rfl,e',hW',tM h4⟩
  rcases hex with rfl|rfl
  ·exact hpost
  ·exact hpost
 have hp:=QI hcall (HH hq).1 (HH hq).2;intro w G us hlt hv;obtain⟨h3,h4⟩:=hp w G us hlt hv;refine⟨h3,h4.mono ?_⟩;rintro e w' ⟨v',G',rfl,e1,e2,e3⟩;exact⟨v',G',rfl,e1,e2,VI hd e3⟩
end
open Go Go.RowKit Go.Proofs Tryz
set_option maxHeartbeats 4000000
abbrev uJ:List (Nat×Kd):=[(0,.list TyE),(1,.list TyE),(5,.int .i64)]
abbrev DG:List (Ex×List (Nat×Kd)):=[(.ret,[(4,.bool)]),(.exit 0,[])]
def mZ(x:Shape.den uJ):oS uJ DG:=match x with
 | (v0,v1,v5,()) =>
  bif ltI v5 (v0.length:Int) then
   bif aF v5 v0.length then bif aF v5 v1.length then bif !(eqI (v0.getD v5.toNat 0) (v1.getD v5.toNat 0)) then
    some (.inr (.inl (false,())))
   else some (.inl (v0,v1,(aB .i64 (v5+1)),())) else none else none
  else some (.inr (.inr ((()))))
def sN(x:Shape.den uJ):oX DG:=bF mZ (2^64) x
def nU(x:aK [.list TyE,.list TyE]):oK [.bool]:=match x with
 | (v0,v1,()) =>
  bif !(eqI (v0.length:Int) (v1.length:Int)) then
   some (false,())
  else aC (sN (v0,v1,0,())) λz1 =>
  vB z1 (λa2=>some (a2.1,())) λb3 =>
  some (true,())
abbrev T8:Ent:=⟨175,_,_,nU⟩
theorem DS:Ent.OK tP T8:=oU (aR oW) func175 4 (lp:=sN) rfl (by kernel_rfl) (by rintro⟨v0,v1,v5,⟨⟩⟩; kernel_rfl) (by rintro⟨v0,v1,⟨⟩⟩; kernel_rfl)
abbrev A7:List (Nat×Kd):=[(0,.list TyD),(1,.list TyD),(5,.int .i64)]
abbrev IX:List (Ex×List (Nat×Kd)):=[(.ret,[(4,.bool)]),(.exit 0,[])]
def rE(x:Shape.den A7):oS A7 IX:=match x with
 | (v0,v1,v5,()) =>
  bif ltI v5 (v0.length:Int) then
   bif aF v5 v0.length then bif aF v5 v1.length then aC (nU ((v0.getD v5.toNat []),(v1.getD v5.toNat []),())) λy2 =>
   bif y2.1 then
    some (.inl (v0,v1,(aB .i64 (v5+1)),()))
   else some (.inr (.inl (false,()))) else none else none
  else some (.inr (.inr ((()))))
def xR(x:Shape.den A7):oX IX:=bF rE (2^64) x
def sT(x:aK [.list TyD,.list TyD]):oK [.bool]:=match x with
 | (v0,v1,()) =>
  bif !(eqI (v0.length:Int) (v1.length:Int)) then
   some (false,())
  else aC (xR (v0,v1,0,())) λz3 =>
  vB z3 (λa4=>some (a4.1,())) λb5 =>
  some (true,())
abbrev Z2:Ent:=⟨176,_,_,sT⟩
theorem UM:Ent.OK tP Z2:=oU (aR (oV DS oW)) func176 4 (lp:=xR) rfl (by kernel_rfl) (by rintro⟨v0,v1,v5,⟨⟩⟩; kernel_rfl) (by rintro⟨v0,v1,⟨⟩⟩; kernel_rfl)
def GG(x:aK [.agg TyG,.agg TyG]):oK [.bool]:=match x with
 | (v0,v1,()) =>
  aC (nU (v0.1,v1.1,())) λy1 =>
  bif y1.1 then
   aC (sT (v0.2.1,v1.2.1,())) λy2 =>
   bif y2.1 then
    aC (sT (v0.2.2,v1.2.2,())) λy3 =>
    some (y3.1,())
   else some (false,())
  else some (false,())
abbrev aB9:Ent:=⟨127,_,_,GG⟩
theorem XD:Ent.OK tP aB9:=oI (aR (oV UM (oV DS oW))) func127 (by kernel_rfl) (by rintro⟨v0,v1,⟨⟩⟩; kernel_rfl)
def GN(x:aK [.agg TyG,.agg TyG]):oK [.bool]:=match x with
 | (v0,v1,()) =>
  aC (GG (v0,v1,())) λy1 =>
  some (y1.1,())
abbrev aBL:Ent:=⟨72,_,_,GN⟩
theorem XF:Ent.OK tP aBL:=oI (aR (oV XD oW)) func72 (by kernel_rfl) (by rintro⟨v0,v1,⟨⟩⟩; kernel_rfl)
def uR(x:aK [.agg TyG,.agg TyG]):oK [.bool]:=match x with
 | (v0,v1,()) =>
  aC (GN (v0,v1,())) λy1 =>
  some (y1.1,())
abbrev aCN:Ent:=⟨23,_,_,uR⟩
theorem WS:Ent.OK tP aCN:=oI (aR (oV XF oW)) func23 (by kernel_rfl) (by rintro⟨v0,v1,⟨⟩⟩; kernel_rfl)
def uF(x:aK [.agg TyG,.list TyD]):oK [.agg TyG,.bool]:=match x with
 | (v0,v1,()) =>
  aC (aDP (v0.2.1,())) λy1 =>
  bif Nat.ble v1.length 1048576 then bif Nat.ble y1.length 1048576 then aC (cM (v0.1,(y1++v1),())) λy2 =>
  some (y2.1,eqI y2.2.1 0,()) else none else none
def AY:Code:=dM f22
abbrev QA:Env:=KE [yM] [aVM]
theorem XE:fR tP QA:=l8 ⟨pT,trivial⟩ ⟨aTO,trivial⟩
def a7M:Code->Code
 | .seq a _=>a
 | c=>c
def a0Y:Code->Code
 | .seq _ b=>b
 | c=>c
def a4L:Code->Array Oper
 | .region _ ops _=>ops
 | _=>#[]
def yD:Array Oper:=a4L (a7M AY)
def GL:Array Oper:=a4L (a7M (a0Y AY))
theorem WT:∀ x,aZY tP QA f22 (aO f22) (λ_=>none) yD yD.toList.tail (.tmp 0) 2 (a0Y (a0Y AY)) (tied GL 11 1023) [.agg TyG,.list TyD] [.agg TyG,.bool] x=uF x:=by
 rintro⟨v0,v1,⟨⟩⟩
 kernel_rfl
abbrev aA2:Ent:=⟨22,_,_,uF⟩
theorem XK:Ent.OK tP aA2:=aW6 bD XE func22 (opsA:=yD) (c2:=a0Y (a0Y AY)) (ida:=0) (id:=1) (ops:=GL) (by kernel_rfl) (bG:=aO f22) (lt:=λ_=>none) (i0:=11) (m:=1023) (t:=35) (d:=6) (z:=(xW tP 35).get (by kernel_rfl)) (o0:=(GL[11]?).get (by kernel_rfl)) (Option.some_get _).symm (by kernel_rfl) (Option.some_get _).symm (by kernel_rfl) (by kernel_rfl) (by kernel_rfl) (opA:=(yD[0]?).get (by kernel_rfl)) (tb:=35) (by kernel_rfl) (by kernel_rfl) (by kernel_rfl) WT
def dS(x:aK [.agg TyQ]):oK [.bool]:=match x with
 | (v0,()) =>
  aC (gM (())) λy1 =>
  bif y1.1 then
   aC (uP (v0,())) λy2 =>
   bif y2.1 then
    aC (tZ (v0,())) λy3 =>
    aC (n7 (y3.1,y3.2.1,())) λy4 =>
    aC (nO (y3.1,y3.2.1,())) λy5 =>
    aC (cZ (y3.1.1,y3.2.1.1,())) λy6 =>
    bif y6.1 then
     aC (uF (y3.1,y3.2.1.2.1,())) λy7 =>
     bif y7.2.1 then
      bif !(eqI y4.2.1 0) then
       some (false,())
      else bif !(eqI y5.2.1 0) then
       some (false,())
      else aC (uR (y4.1,y7.1,())) λy8 =>
      bif y8.1 then
       aC (dY (y5.1,())) λy9 =>
       bif !(eqI y9.1 0) then
        some (false,())
       else aC (mB (y5.1,y3.1,())) λy10 =>
       bif y10.1 then
        aC (mB (y5.1,y3.2.1,())) λy11 =>
        bif y11.1 then
         some (eqI (aB .i64 ((y5.1.2.1.length:Int)+(y4.1.2.1.length:Int))) (aB .i64 ((y3.1.2.1.length:Int)+(y3.2.1.2.1.length:Int))),())
        else some (false,())
       else some (false,())
      else some (false,())
     else some (false,())
    else bif eqI y4.2.1 14 then
     bif eqI y5.2.1 y4.2.1 then
      aC (yI (y4.1,())) λy12 =>
      bif y12.1 then
       aC (yI (y5.1,())) λy13 =>
       some (y13.1,())
      else some (false,())
     else some (false,())
    else some (false,())
   else aC (gM (())) λy14 =>
   some (y14.1,())
  else aC (gM (())) λy15 =>
  some (y15.1,())
theorem KD:UZ tP 4 _ _ dS:=oI (aR (oV NC (oV NL (oV XB (oV VG (oV XI (oV WC (oV SX (oV WS (oV XK (oV xX (oV BX oW)))))))))))) func4 (by kernel_rfl) (by rintro⟨v0,⟨⟩⟩; kernel_rfl)
end Go.PM
namespace Go.PM
open Go Go.RowKit Go.Proofs Go.Lz
theorem X0(a:List Int) (ha:a.length<1048576):nU (a,a,())=some (true,()):=by
 have e0:eqI (a.length:Int) (a.length:Int)=true:=by rw[fP]; exact oT rfl
 have key:=aU (step:=mZ) (N:=2^64) (λt=>(a,a,(t:Int),())) a.length (.inr ()) (by omega) (λt ht=>?_) ?_
 ·have key:sN (a,a,0,())=_:=key;simp only[nU,e0,Bool.not_true,oD,key,aD,jN]
 ·have e1:ltI (t:Int) (a.length:Int)=true:=by rw[aE]; exact oT (by omega)
  have e2:aF (t:Int) a.length=true:=by rw[aM]; exact oT (by omega)
  have e5:=bX t (by omega);have e6:eqI (a.getD ((t:Nat):Int).toNat 0) (a.getD ((t:Nat):Int).toNat 0)=true:=by rw[fP]; exact oT rfl
  simp only[mZ,e1,e2,e5,e6,oC,Bool.not_true,oD]
 ·have e1:ltI (a.length:Int) (a.length:Int)=false:=by rw[aE]; exact oF (by omega)
  simp only[mZ,e1,oD]
theorem aD5(a:List (List Int))(ha:a.length<1048576)(hr:∀ r∈a,r.length<1048576):sT (a,a,())=some (true,()):=by
 have e0:eqI (a.length:Int) (a.length:Int)=true:=by rw[fP]; exact oT rfl
 have key:=aU (step:=rE) (N:=2^64) (λt=>(a,a,(t:Int),())) a.length (.inr ()) (by omega) (λt ht=>?_) ?_
 ·have key:xR (a,a,0,())=_:=key;simp only[sT,e0,Bool.not_true,oD,key,aD,jN]
 ·have e1:ltI (t:Int) (a.length:Int)=true:=by rw[aE]; exact oT (by omega)
  have e2:aF (t:Int) a.length=true:=by rw[aM]; exact oT (by omega)
  have e3:((t:Nat):Int).toNat=t:=oN _;have e5:=bX t (by omega);have e4:a.getD t []=a[t]:=by simp[List.getD,ht]
  have e6:=X0 a[t] (hr _ (List.getElem_mem ht));simp only[rE,e1,e2,e3,e4,e5,e6,oC,aD]
 ·have e1:ltI (a.length:Int) (a.length:Int)=false:=by rw[aE]; exact oF (by omega)
  simp only[rE,e1,oD]
theorem aSF(ps:List Int)(A B:List (List Int))(h1:ps.length<1048576)(h2:A.length<1048576)(h3:∀ r∈A,r.length<1048576)(h4:B.length<1048576)(h5:∀ r∈B,r.length<1048576):uR ((ps,(A,B)),(ps,(A,B)),())=some (true,()):=by simp only[uR,GN,GG,X0 ps h1,aD5 A h2 h3,aD5 B h4 h5,aD,oC]
section
variable {ps ps':List Int} {n n' d r d' r':Nat} {C K C' K':Nat->V}
theorem RT.same (h:RT ps n d r C K):uR ((ps,(Mr d n C,Mr r n K)),(ps,(Mr d n C,Mr r n K)),())=some (true,()):=by
 obtain⟨q,hq⟩:=h.hc;obtain⟨p,hp⟩:=h.hk;have n4:=h.n4;have d4:=(Hn.gL hq h.wc).1;have r4:=(Hn.gL hp h.wk).1;exact aSF _ _ _ h.a2D (by rw[cJ]; omega) (aOZ n4) (by rw[cJ]; omega) (aOZ n4)
theorem a3W {ps:List Int} {n d r d' r':Nat} {C K C' K':Nat->V} (h:RT ps n d r C K) (h':RT ps n d' r' C' K') {y:List Int×List (List Int)×List (List Int)} (hF:cM (ps,Mr d n C++Mr d' n C',())=some (y,0,())) :
  uF ((ps,(Mr d n C,Mr r n K)),Mr d' n C',())=some (y,true,()):=by
 obtain⟨q,hq⟩:=h.hc;obtain⟨q',hq'⟩:=h'.hc;have n4:=h.n4;have d4:=(Hn.gL hq h.wc).1;have d4':=(Hn.gL hq' h'.wc).1;have e1:Nat.ble (Mr d n C).length 1048576=true:=Nat.ble_eq_true_of_le (by rw[cJ]; omega);have e2:Nat.ble (Mr d' n C').length 1048576=true:=Nat.ble_eq_true_of_le (by rw[cJ]; omega);have e0:eqI 0 0=true:=by decide
 simp only[uF,aDP,e1,e2,oC,aD,hF,e0]
theorem aKP(h:RS ps n d r C K) (h':RS ps' n' d' r' C' K') (x:(Int×List (Int×Int×Int×Int)×Bool)×(Int×List (Int×Int×Int×Int)×Bool)×Bool)
  (hf:uP (x,())=some (true,())) (hm:tZ (x,())=some ((ps,(Mr d n C,Mr r n K)),(ps',(Mr d' n' C',Mr r' n' K')),())):dS (x,())=some (true,()):=by
 obtain⟨⟨a1,a2,a3⟩,⟨b1,b2,b3⟩,b4⟩:=x;have c2:=aUQ h.toRT h'.toRT;have e0:eqI 0 0=true:=by decide
 have e14:eqI 14 0=false:=by decide
 have e1414:eqI 14 14=true:=by decide
 have eq:=aDR ps ps' h.a2D;have kn:gM (())=some (true,()):=rfl
 by_cases e:ps'=ps
 ·subst e;have hn:n'=n:=by rw[<- h.len,<- h'.len]
  subst hn;rw[if_pos rfl]at c2;simp only[decide_true]at eq;obtain⟨t,z,S,Z,j1,j2,j3,_,_,⟨D,hD,j4⟩,J,c,j5,j6⟩:=a32 h h';obtain⟨u,y,I,N,m1,m2,m3,s,J',c',m4,m5,m6⟩:=a3Z h h';have j3w:=a3W h.toRT h'.toRT j3;obtain⟨st,_⟩:=Hn.unique j5 m4 (j6.symm.trans m5);obtain⟨b,r1,r2⟩:=aDB m1 h.toRT;obtain⟨b',r1',r2'⟩:=aDB m1 h'.toRT;have hb:b=true:=r2.2 λi hi=>((m3 _).1 (Sp.mem hi)).1
  have hb':b'=true:=r2'.2 λi hi=>((m3 _).1 (Sp.mem hi)).2
  subst hb;subst hb';have hl:eqI (aB .i64 (((Mr u n' I).length:Int)+((Mr t n' S).length:Int))) (aB .i64 (((Mr d n' C).length:Int)+((Mr d' n' C').length:Int)))=true:=by
   rw[fP,cJ,cJ,cJ,cJ];have:(u:Int)+(t:Int)=(d:Int)+(d':Int):=by omega
   rw[this];exact oT rfl
  have e1:((ps'.length:Nat):Int)=(n':Int):=by rw[h.len]
  have hJ:n7 ((ps',(Mr d n' C,Mr r n' K)),(ps',(Mr d' n' C',Mr r' n' K')),())=some ((ps',(Mr t n' S,Mr z n' Z)),0,()):=by simp only[n7,c2,aD,e0,Bool.not_true,oD,j2]
  have hM:nO ((ps',(Mr d n' C,Mr r n' K)),(ps',(Mr d' n' C',Mr r' n' K')),())=some ((ps',(Mr u n' I,Mr y n' N)),0,()):=by
   simp only[nO,c2,aD,e0,Bool.not_true,oD,iX,e1];exact m2
  simp only[dS,kn,aD,oC,hf,hm,hJ,hM,eq,j3w,e0,Bool.not_true,oD,j1.same,m1.check,r1,r1',hl]
 ·rw[if_neg e]at c2;rw[oF (λe'=>e e'.symm)]at eq;have hJ:n7 ((ps,(Mr d n C,Mr r n K)),(ps',(Mr d' n' C',Mr r' n' K')),())=some (([],([],[])),14,()):=by simp only[n7,c2,aD,e14,Bool.not_false,oC]
  have hM:nO ((ps,(Mr d n C,Mr r n K)),(ps',(Mr d' n' C',Mr r' n' K')),())=some (([],([],[])),14,()):=by simp only[nO,c2,aD,e14,Bool.not_false,oC]
  have he:yI ((([]:List Int),(([]:List (List Int)),([]:List (List Int)))),())=some (true,()):=rfl;simp only[dS,kn,aD,oC,hf,hm,hJ,hM,eq,oD,e1414,he]
end
theorem aTG(x:(Int×List (Int×Int×Int×Int)×Bool)×(Int×List (Int×Int×Int×Int)×Bool)×Bool)(hA:aVK x.1)(hB:aVK x.2.1):dS (x,())=some (true,()):=by
 obtain⟨⟨a1,a2,a3⟩,⟨b1,b2,b3⟩,al⟩:=x;have kn:gM (())=some (true,()):=rfl;have hf:=aXM (a1,a2,a3) (b1,b2,b3) al
 by_cases ha:a2.length<=3
 ·by_cases hb:b2.length<=3
  ·rw[oT ha,oT hb]at hf;obtain⟨d,r,C,K,m1,h1⟩:=aPM a1 hA.1.1 hA.1.2 a2 ha hA.2 a3;cases al with
   | true =>
    obtain⟨d',r',C',K',m2,h2⟩:=aPM a1 hA.1.1 hA.1.2 b2 hb hB.2 b3;exact aKP h1 h2 ((a1,a2,a3),(b1,b2,b3),true) hf (by simp only[tZ,oC,m1,m2,aD])
   | false =>
    obtain⟨d',r',C',K',m2,h2⟩:=aPM b1 hB.1.1 hB.1.2 b2 hb hB.2 b3;exact aKP h1 h2 ((a1,a2,a3),(b1,b2,b3),false) hf (by simp only[tZ,oD,m1,m2,aD])
  ·rw[oT ha,oF hb]at hf;simp only[Bool.true_and,Bool.and_false]at hf;simp only[dS,kn,aD,oC,hf,oD]
 ·rw[oF ha]at hf;simp only[Bool.false_and]at hf;simp only[dS,kn,aD,oC,hf,oD]
end Go.PM
