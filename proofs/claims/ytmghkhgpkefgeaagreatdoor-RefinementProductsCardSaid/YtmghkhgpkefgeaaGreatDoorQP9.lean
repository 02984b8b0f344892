/- Texts of one proof, joined (9). -/
import Derived.Test.YtmghkhgpkefgeaaGreatDoorQP8
set_option linter.unusedSimpArgs false
set_option linter.unusedVariables false
set_option maxRecDepth 100000
noncomputable section
namespace Go.Lz
def d2(a b:V)(x y:Nat):Int:=a x*b y-a y*b x
def d3(a b c:V)(x y z:Nat):Int:=d2 a b x y*c z-d2 a b x z*c y+d2 a b y z*c x
def d4(a b c d:V)(x y z u:Nat):Int:=d3 a b c x y z*d u-d3 a b c x y u*d z+d3 a b c x z u*d y-d3 a b c y z u*d x
structure Lin (f:V->Int):Prop where
 zero:f (λ_=>0)=0
 add:∀ u t m,f (λi=>u i+t*m i)=f u+t*f m
theorem Lin.sp {f}(h:Lin f){k M}(hz:∀ j,j<k->f (M j)=0){v}(hv:Sp k M v):f v=0:=by
 induction hv with
 | zero=>exact h.zero
 | add j t hj _ ih=>rw[h.add,ih,hz j hj]; simp
theorem Lin.pick {f:V->Int} (h:Lin f) {k:Nat} {M:Nat->V} {u:V} {t:Int} (ht:t≠0) (hs:Sp k M (λi=>t*u i)) (hu:f u≠0):∃ j,j<k/\f (M j)≠0:=by
 refine Classical.byContradiction λhn=>?_
 have hz:∀ j,j<k->f (M j)=0:=λj hj=>Classical.byContradiction λh0=>hn ⟨j,hj,h0⟩
 have h1:=h.sp hz hs;have h2:=h.add (λ_=>0) t u;have e:(λi=>(0:Int)+t*u i)=λi=>t*u i:=by funext i; simp
 rw[e,h1,h.zero,Int.zero_add]at h2;rcases Int.mul_eq_zero.1 h2.symm with h3|h3
 ·exact ht h3
 ·exact hu h3
theorem WI {x y:Int}{A B}(hx:x.natAbs<=A)(hy:y.natAbs<=B):(x*y).natAbs<=A*B:=by rw[Int.natAbs_mul]; exact Nat.mul_le_mul hx hy
theorem d2B {a b E}(ha:∀ x,(a x).natAbs<=E)(hb:∀ x,(b x).natAbs<=E) x y:(d2 a b x y).natAbs<=2*(E*E):=by
 have h1:=WI (ha x) (hb y);have h2:=WI (ha y) (hb x);unfold d2;omega
theorem d3B {a b c E}(ha:∀ x,(a x).natAbs<=E)(hb:∀ x,(b x).natAbs<=E)(hc:∀ x,(c x).natAbs<=E) x y z:(d3 a b c x y z).natAbs<=6*(E*E*E):=by
 have h1:=WI (d2B ha hb x y) (hc z);have h2:=WI (d2B ha hb x z) (hc y);have h3:=WI (d2B ha hb y z) (hc x);have e:2*(E*E)*E=2*(E*E*E):=zf
 unfold d3;omega
theorem d4B {a b c d E}(ha:∀ x,(a x).natAbs<=E)(hb:∀ x,(b x).natAbs<=E)(hc:∀ x,(c x).natAbs<=E)(hd:∀ x,(d x).natAbs<=E) x y z u:(d4 a b c d x y z u).natAbs<=24*(E*E*E*E):=by
 have h1:=WI (d3B ha hb hc x y z) (hd u);have h2:=WI (d3B ha hb hc x y u) (hd z);have h3:=WI (d3B ha hb hc x z u) (hd y);have h4:=WI (d3B ha hb hc y z u) (hd x);have e:6*(E*E*E)*E=6*(E*E*E*E):=zf
 unfold d4;omega
def Dg(k:Nat) (M:Nat->V) (r:Nat) (p:Nat->Nat) (W:Nat):Prop :=
 ∃ (D:Int) (w:Nat->V),D≠0/\∀ j,j<r->Sp k M (w j)/\w j (p j)=D/\(∀ i,i<r->i≠j->w j (p i)=0)/\∀ x,(w j x).natAbs<=W
theorem Dg.mono {k k' M M' r p W}(h:Dg k M r p W)(hs:∀ v,Sp k M v->Sp k' M' v):Dg k' M' r p W:=by
 obtain⟨D,w,h0,h1⟩:=h;exact⟨D,w,h0,λj hj=>⟨hs _ (h1 j hj).1,(h1 j hj).2⟩⟩
section
variable {k:Nat} {M:Nat->V}
theorem Sp.bEK {a b}(ha:a<k)(hb:b<k) s t:Sp k M (λi=>s*M a i+t*M b i):=Sp.comb t (Sp.smul s (Sp.mem ha)) (Sp.mem hb)
theorem Sp.bBY {a b c}(ha:a<k)(hb:b<k)(hc:c<k) s t u:Sp k M (λi=>s*M a i+t*M b i+u*M c i):=Sp.comb u (Sp.bEK ha hb s t) (Sp.mem hc)
theorem Sp.bCS {a b c d}(ha:a<k)(hb:b<k)(hc:c<k)(hd:d<k) s t u v:Sp k M (λi=>s*M a i+t*M b i+u*M c i+v*M d i):=Sp.comb v (Sp.bBY ha hb hc s t u) (Sp.mem hd)
theorem aNF {u:V} {p0:Nat} {t:Int} (ht:t≠0) (hs:Sp k M (λi=>t*u i)) (h0:u p0≠0):∃ a,a<k/\M a p0≠0 :=
 Lin.pick (f:=λv=>v p0) ⟨rfl,λ_ _ _=>rfl⟩ ht hs h0
theorem aTI {u:V}{a p0 p1 t}(ht:t≠0)(hs:Sp k M (λi=>t*u i))(h0:u p0=0)(h1:u p1≠0)(ha:M a p0≠0):∃ b,b<k/\d2 (M a) (M b) p0 p1≠0:=by
 refine Lin.pick (f:=λv=>d2 (M a) v p0 p1) ⟨by simp[d2],λu t m=>by simp only[d2]; grind⟩ ht hs ?_;simp only[d2]
 simp_all
theorem a4I {u:V}{a b p0 p1 p2 t}(ht:t≠0)(hs:Sp k M (λi=>t*u i))(h0:u p0=0)(h1:u p1=0)(h2:u p2≠0)(ha:d2 (M a) (M b) p0 p1≠0):∃ c,c<k/\d3 (M a) (M b) (M c) p0 p1 p2≠0:=by
 refine Lin.pick (f:=λv=>d3 (M a) (M b) v p0 p1 p2) ⟨by simp[d3],λu t m=>by simp only[d3]; grind⟩ ht hs ?_;simp only[d3]
 simp_all
theorem bD3 {u:V}{a b c p0 p1 p2 p3 t}(ht:t≠0)(hs:Sp k M (λi=>t*u i))(h0:u p0=0)(h1:u p1=0)(h2:u p2=0)(h3:u p3≠0)(ha:d3 (M a) (M b) (M c) p0 p1 p2≠0):∃ d,d<k/\d4 (M a) (M b) (M c) (M d) p0 p1 p2 p3≠0:=by
 refine Lin.pick (f:=λv=>d4 (M a) (M b) (M c) v p0 p1 p2 p3) ⟨by simp[d4],λu t m=>by simp only[d4]; grind⟩ ht hs ?_;simp only[d4]
 simp_all
theorem bGE {p W a}(hB:∀ x,(M a x).natAbs<=W)(ha:a<k)(h:M a (p 0)≠0):Dg k M 1 p W :=
 ⟨_,λ_=>M a,h,λj hj=>by
  obtain rfl:j=0:=Z
  exact⟨Sp.mem ha,rfl,λi hi hne=>by omega,hB⟩⟩
theorem bFJ {p W a b}(hB:∀ x y,(d2 (M a) (M b) x y).natAbs<=W)(ha:a<k)(hb:b<k)(h:d2 (M a) (M b) (p 0) (p 1)≠0):Dg k M 2 p W:=by
 refine⟨_,λj=>if j=0 then (λx=>d2 (M a) (M b) x (p 1)) else λx=>d2 (M a) (M b) (p 0) x,h,λj hj=>?_⟩;rcases(show j=0\/j=1 by omega)with rfl|rfl
 ·refine⟨?_,rfl,λi hi hne=>?_,λx=>hB _ _⟩
  ·refine cast (congrArg (Sp k M) ?_) (Sp.bEK ha hb (M b (p 1)) (-(M a (p 1))))
   funext x
   simp only[if_true,d2]; grind
  ·simp only[if_true,d2]; grind
 ·refine⟨?_,rfl,λi hi hne=>?_,λx=>hB _ _⟩
  ·refine cast (congrArg (Sp k M) ?_) (Sp.bEK ha hb (-(M b (p 0))) (M a (p 0)))
   funext x
   simp only[d2,Nat.one_ne_zero,if_false]; grind
  ·simp only[d2,Nat.one_ne_zero,if_false]; grind
theorem bFL {p W a b c}(hB:∀ x y z,(d3 (M a) (M b) (M c) x y z).natAbs<=W)(ha:a<k)(hb:b<k)(hc:c<k)(h:d3 (M a) (M b) (M c) (p 0) (p 1) (p 2)≠0):Dg k M 3 p W:=by
 refine⟨_,λj=>if j=0 then (λx=>d3 (M a) (M b) (M c) x (p 1) (p 2)) else if j=1 then (λx=>d3 (M a) (M b) (M c) (p 0) x (p 2)) else λx=>d3 (M a) (M b) (M c) (p 0) (p 1) x,h,λj hj=>?_⟩;rcases(show j=0\/j=1\/j=2 by omega)with rfl|rfl|rfl
 ·refine⟨?_,rfl,λi hi hne=>?_,λx=>hB _ _ _⟩
  ·refine cast (congrArg (Sp k M) ?_) (Sp.bBY ha hb hc (d2 (M b) (M c) (p 1) (p 2)) (-(d2 (M a) (M c) (p 1) (p 2))) (d2 (M a) (M b) (p 1) (p 2)))
   funext x
   show _=d3 (M a) (M b) (M c) x (p 1) (p 2);simp only[d3,d2]; grind
  ·show (λx=>d3 (M a) (M b) (M c) x (p 1) (p 2)) (p i)=0;rcases(show i=1\/i=2 by omega)with rfl|rfl
   ·simp only[d3,d2]; grind
   ·simp only[d3,d2]; grind
 ·refine⟨?_,rfl,λi hi hne=>?_,λx=>hB _ _ _⟩
  ·refine cast (congrArg (Sp k M) ?_) (Sp.bBY ha hb hc (-(d2 (M b) (M c) (p 0) (p 2))) (d2 (M a) (M c) (p 0) (p 2)) (-(d2 (M a) (M b) (p 0) (p 2))))
   funext x
   show _=d3 (M a) (M b) (M c) (p 0) x (p 2);simp only[d3,d2]; grind
  ·show (λx=>d3 (M a) (M b) (M c) (p 0) x (p 2)) (p i)=0;rcases(show i=0\/i=2 by omega)with rfl|rfl
   ·simp only[d3,d2]; grind
   ·simp only[d3,d2]; grind
 ·refine⟨?_,rfl,λi hi hne=>?_,λx=>hB _ _ _⟩
  ·refine cast (congrArg (Sp k M) ?_) (Sp.bBY ha hb hc (d2 (M b) (M c) (p 0) (p 1)) (-(d2 (M a) (M c) (p 0) (p 1))) (d2 (M a) (M b) (p 0) (p 1)))
   funext x
   show _=d3 (M a) (M b) (M c) (p 0) (p 1) x;simp only[d3,d2]; grind
  ·show (λx=>d3 (M a) (M b) (M c) (p 0) (p 1) x) (p i)=0;rcases(show i=0\/i=1 by omega)with rfl|rfl
   ·simp only[d3,d2]; grind
   ·simp only[d3,d2]; grind
theorem bGG {p W a b c d}(hB:∀ x y z u,(d4 (M a) (M b) (M c) (M d) x y z u).natAbs<=W)(ha:a<k)(hb:b<k)(hc:c<k)(hd:d<k)(h:d4 (M a) (M b) (M c) (M d) (p 0) (p 1) (p 2) (p 3)≠0):Dg k M 4 p W:=by
 refine⟨_,λj=>if j=0 then (λx=>d4 (M a) (M b) (M c) (M d) x (p 1) (p 2) (p 3)) else if j=1 then (λx=>d4 (M a) (M b) (M c) (M d) (p 0) x (p 2) (p 3)) else if j=2 then (λx=>d4 (M a) (M b) (M c) (M d) (p 0) (p 1) x (p 3)) else λx=>d4 (M a) (M b) (M c) (M d) (p 0) (p 1) (p 2) x,h,λj hj=>?_⟩;rcases(show j=0\/j=1\/j=2\/j=3 by omega)with rfl|rfl|rfl|rfl
 ·refine⟨?_,rfl,λi hi hne=>?_,λx=>hB _ _ _ _⟩
  ·refine cast (congrArg (Sp k M) ?_) (Sp.bCS ha hb hc hd (d3 (M b) (M c) (M d) (p 1) (p 2) (p 3)) (-(d3 (M a) (M c) (M d) (p 1) (p 2) (p 3))) (d3 (M a) (M b) (M d) (p 1) (p 2) (p 3)) (-(d3 (M a) (M b) (M c) (p 1) (p 2) (p 3))))
   funext x
   show _=d4 (M a) (M b) (M c) (M d) x (p 1) (p 2) (p 3);simp only[d4,d3,d2]; grind
  ·show (λx=>d4 (M a) (M b) (M c) (M d) x (p 1) (p 2) (p 3)) (p i)=0;rcases(show i=1\/i=2\/i=3 by omega)with rfl|rfl|rfl
   ·simp only[d4,d3,d2]; grind
   ·simp only[d4,d3,d2]; grind
   ·simp only[d4,d3,d2]; grind
 ·refine⟨?_,rfl,λi hi hne=>?_,λx=>hB _ _ _ _⟩
  ·refine cast (congrArg (Sp k M) ?_) (Sp.bCS ha hb hc hd (-(d3 (M b) (M c) (M d) (p 0) (p 2) (p 3))) (d3 (M a) (M c) (M d) (p 0) (p 2) (p 3)) (-(d3 (M a) (M b) (M d) (p 0) (p 2) (p 3))) (d3 (M a) (M b) (M c) (p 0) (p 2) (p 3)))
   funext x
   show _=d4 (M a) (M b) (M c) (M d) (p 0) x (p 2) (p 3);simp only[d4,d3,d2]; grind
  ·show (λx=>d4 (M a) (M b) (M c) (M d) (p 0) x (p 2) (p 3)) (p i)=0;rcases(show i=0\/i=2\/i=3 by omega)with rfl|rfl|rfl
   ·simp only[d4,d3,d2]; grind
   ·simp only[d4,d3,d2]; grind
   ·simp only[d4,d3,d2]; grind
 ·refine⟨?_,rfl,λi hi hne=>?_,λx=>hB _ _ _ _⟩
  ·refine cast (congrArg (Sp k M) ?_) (Sp.bCS ha hb hc hd (d3 (M b) (M c) (M d) (p 0) (p 1) (p 3)) (-(d3 (M a) (M c) (M d) (p 0) (p 1) (p 3))) (d3 (M a) (M b) (M d) (p 0) (p 1) (p 3)) (-(d3 (M a) (M b) (M c) (p 0) (p 1) (p 3))))
   funext x
   show _=d4 (M a) (M b) (M c) (M d) (p 0) (p 1) x (p 3);simp only[d4,d3,d2]; grind
  ·show (λx=>d4 (M a) (M b) (M c) (M d) (p 0) (p 1) x (p 3)) (p i)=0;rcases(show i=0\/i=1\/i=3 by omega)with rfl|rfl|rfl
   ·simp only[d4,d3,d2]; grind
   ·simp only[d4,d3,d2]; grind
   ·simp only[d4,d3,d2]; grind
 ·refine⟨?_,rfl,λi hi hne=>?_,λx=>hB _ _ _ _⟩
  ·refine cast (congrArg (Sp k M) ?_) (Sp.bCS ha hb hc hd (-(d3 (M b) (M c) (M d) (p 0) (p 1) (p 2))) (d3 (M a) (M c) (M d) (p 0) (p 1) (p 2)) (-(d3 (M a) (M b) (M d) (p 0) (p 1) (p 2))) (d3 (M a) (M b) (M c) (p 0) (p 1) (p 2)))
   funext x
   show _=d4 (M a) (M b) (M c) (M d) (p 0) (p 1) (p 2) x;simp only[d4,d3,d2]; grind
  ·show (λx=>d4 (M a) (M b) (M c) (M d) (p 0) (p 1) (p 2) x) (p i)=0;rcases(show i=0\/i=1\/i=2 by omega)with rfl|rfl|rfl
   ·simp only[d4,d3,d2]; grind
   ·simp only[d4,d3,d2]; grind
   ·simp only[d4,d3,d2]; grind
def fac(E:Nat):Nat->Nat
 | 0=>1
 | 1=>E
 | 2=>2*(E*E)
 | 3=>6*(E*E*E)
 | _=>24*(E*E*E*E)
theorem aXD {r E H p}(hr:r<=4)(hH:Hn r H p)(hs:∀ j,j<r->∃ t ,t≠0/\Sp k M (λi=>t*H j i))(hE:∀ j,j<k->∀ x,(M j x).natAbs<=E):Dg k M r p (fac E r):=by
 have pv:∀ j,j<r->H j (p j)≠0:=λj hj=>by have:=hH.pos j hj; omega
 have lo:∀ i j,i<j->j<r->H j (p i)=0:=λi j hij hj=>hH.low j hj _ (hH.inc i j hij hj)
 rcases(show r=0\/r=1\/r=2\/r=3\/r=4 by omega)with rfl|rfl|rfl|rfl|rfl
 ·exact⟨1,λ_ _=>0,by decide,λj hj=>by omega⟩
 ·obtain⟨t,ht,h0⟩:=hs 0 Z;obtain⟨a,ha,q0⟩:=aNF ht h0 (pv 0 Z);exact bGE (hE a ha) ha q0
 ·obtain⟨t,ht,h0⟩:=hs 0 Z;obtain⟨a,ha,q0⟩:=aNF ht h0 (pv 0 Z);obtain⟨t,ht,h0⟩:=hs 1 Z;obtain⟨b,hb,q1⟩:=aTI ht h0 (lo 0 1 Z Z) (pv 1 Z) q0;exact bFJ (d2B (hE a ha) (hE b hb)) ha hb q1
 ·obtain⟨t,ht,h0⟩:=hs 0 Z;obtain⟨a,ha,q0⟩:=aNF ht h0 (pv 0 Z);obtain⟨t,ht,h0⟩:=hs 1 Z;obtain⟨b,hb,q1⟩:=aTI ht h0 (lo 0 1 Z Z) (pv 1 Z) q0;obtain⟨t,ht,h0⟩:=hs 2 Z;obtain⟨c,hc,q2⟩:=a4I ht h0 (lo 0 2 Z Z) (lo 1 2 Z Z) (pv 2 Z) q1;exact bFL (d3B (hE a ha) (hE b hb) (hE c hc)) ha hb hc q2
 ·obtain⟨t,ht,h0⟩:=hs 0 Z;obtain⟨a,ha,q0⟩:=aNF ht h0 (pv 0 Z);obtain⟨t,ht,h0⟩:=hs 1 Z;obtain⟨b,hb,q1⟩:=aTI ht h0 (lo 0 1 Z Z) (pv 1 Z) q0;obtain⟨t,ht,h0⟩:=hs 2 Z;obtain⟨c,hc,q2⟩:=a4I ht h0 (lo 0 2 Z Z) (lo 1 2 Z Z) (pv 2 Z) q1;obtain⟨t,ht,h0⟩:=hs 3 Z;obtain⟨d,hd,q3⟩:=bD3 ht h0 (lo 0 3 Z Z) (lo 1 3 Z Z) (lo 2 3 Z Z) (pv 3 Z) q2
  exact bGG (d4B (hE a ha) (hE b hb) (hE c hc) (hE d hd)) ha hb hc hd q3
end
theorem Hn.zero {k:Nat} {M:Nat->V} {c:Nat->Nat} (h:Hn k M c) {v:V} (hv:Sp k M v) (hz:∀ i,i<k->v (c i)=0):v=λ_=>0 :=
 h.small hv λi hi=>by have:=h.pos i hi; rw[hz i hi]; constructor <;> omega
theorem Hn.a13:∀ {k:Nat} {M:Nat->V} {c:Nat->Nat},Hn k M c->∀ {v:V},Sp k M v->∀ j,j<k->(∀ i,i<j->v (c i)=0)->M j (c j) ∣ v (c j)
 | 0,_,_,_,_,_,j,hj,_=>Z
 | k+1,M,c,h,v,hv,j,hj,hz=>by
  obtain⟨t,u,hu,rfl⟩:=hv.first;have h0:=h.aN2 hu (Nat.le_refl _);cases j with
  | zero=>exact⟨t,by simp only[h0,Int.zero_add]; exact Int.mul_comm _ _⟩
  | succ j =>
   have h1:=hz 0 Z;have hp:=h.pos 0 Z;simp only[h0,Int.zero_add]at h1;have ht:t=0:=by
    rcases Int.mul_eq_zero.1 h1 with h2|h2
    ·exact h2
    ·omega
   subst ht;have:=Hn.a13 h.tail hu j Z λi hi=>by have:=hz (i+1) Z; simpa using this
   simpa using this
def sm(f:Nat->Int):Nat->Int
 | 0=>0
 | n+1=>sm f n+f n
theorem QA {f}:∀ {n},(∀ i,i<n->f i=0)->sm f n=0
 | 0,_=>rfl
 | n+1,h=>by rw[sm,QA λi hi=>h i Z,h n R]; rfl
theorem YK {f j}:∀ {n},j<n->(∀ i,i<n->i≠j->f i=0)->sm f n=f j
 | 0,h,_=>Z
 | n+1,h,hz=>by
  rw[sm]
  by_cases hj:j=n
  ·subst hj;rw[QA λi hi=>hz i Z Z,Int.zero_add]
  ·rw[YK Z λi hi=>hz i Z,hz n R (Ne.symm hj),Int.add_zero]
theorem bBE {f B}:∀ {n},(∀ i,i<n->(f i).natAbs<=B)->(sm f n).natAbs<=n*B
 | 0,_=>by simp[sm]
 | n+1,h=>by
  have h1:=bBE (n:=n) λi hi=>h i Z
  have h2:=h n R;rw[Nat.succ_mul];show (sm f n+f n).natAbs<=_;omega
theorem Sp.sm {k M}{w:Nat->V}{s:Nat->Int}:∀ {n},(∀ j,j<n->Sp k M (w j))->Sp k M (λx=>Lz.sm (λj=>s j*w j x) n)
 | 0,_=>Sp.zero
 | n+1,h=>Sp.comb (s n) (Sp.sm λj hj=>h j Z) (h n R)
theorem Hn.aNO {r W:Nat} {H:Nat->V} {p:Nat->Nat} (h:Hn r H p) (hd:Dg r H r p W):∀ i,i<r->∀ x,(H i x).natAbs<=r*W:=by
 obtain⟨D,w,hD,hw⟩:=hd;intro i hi x;have hz:(λy=>D*H i y-Lz.sm (λj=>H i (p j)*w j y) r)=λ_=>0:=by
  refine h.zero (Sp.sub (Sp.smul D (Sp.mem hi)) (Sp.sm λj hj=>(hw j hj).1)) λl hl=>?_
  rw[YK (f:=λj=>H i (p j)*w j (p l)) hl λj hj hne=>by rw[(hw j hj).2.2.1 l hl (Ne.symm hne),Int.mul_zero]];rw[(hw l hl).2.1];grind
 have h1:=congrFun hz x;have h2:D*H i x=Lz.sm (λj=>H i (p j)*w j x) r:=by
  have:D*H i x-Lz.sm (λj=>H i (p j)*w j x) r=0:=h1;omega
 have h3:(Lz.sm (λj=>H i (p j)*w j x) r).natAbs<=r*(D.natAbs*W):=by
  refine bBE λj hj=>WI ?_ ((hw j hj).2.2.2 x)
  have e1:H j (p j) ∣ D:=by
   have:=h.a13 (hw j hj).1 j hj λl hl=>(hw j hj).2.2.1 l Z Z
   rwa[(hw j hj).2.1]at this
  have e2:=Int.natAbs_dvd_natAbs.2 e1;have e3:=Nat.le_of_dvd Z e2;rcases Nat.lt_trichotomy i j with g|g|g
  ·have:=h.red i j g hj;omega
  ·subst g; exact e3
  ·rw[h.low i hi _ (h.inc j i g hi)]; simp
 rw[<- h2,Int.natAbs_mul]at h3;have e:r*(D.natAbs*W)=D.natAbs*(r*W):=zf
 rw[e]at h3;exact Nat.le_of_mul_le_mul_left h3 Z
end Go.Lz
namespace Go.PM
open Go Go.RowKit Go.Proofs Go.Lz
theorem aVV a n v:Zr (a+n) v=Zr a v++Zr n (λy=>v (a+y)):=by
 unfold Zr;rw[List.range_add,List.map_append,List.map_map];rfl
theorem bEW:Zn 1=ByteArray.mk #[49]:=zb
def aGO(J:Nat->Nat) (i o n:Nat) (A:List (List ByteArray)) (t:Nat):=bN ((J i,o,n),(),(n:Int),(t:Int),A,())
section
variable {o k n:Nat} {m:List (Nat×Nat×Nat)} {A:List (List ByteArray)} {J:Nat->Nat} {M:Nat->V}
theorem gI.ext (h:gI o k n m A J M) R:gI o k n m (A++R) J M :=
 ⟨h.ml,λi hi=>by
  obtain⟨pre,h1,h2⟩:=h.at_ i hi;grind,h.inj⟩
theorem gI.take (h:gI o k n m A J M){d}(hd:d<=k):gI o d n (m.take d) A J M :=
 ⟨by rw[h.ml,<- List.map_take,List.take_range,Nat.min_eq_left hd],λi hi=>h.at_ i Z,λi j hi hj=>h.inj i j Z Z⟩
theorem bBG(h:gI o k n m A J M) (hn:n<1048576) {i:Nat} (hi:i<k) :
  ∃ L:Int,kE () ((J i,o,n),()) A=some ((L,()),A)/\((L = -1/\∀ x,x<n->M i x=0)\/∃ x,x<n/\L=(x:Int)/\M i x≠0/\∀ y,y<x->M i y=0):=by
 have hg:∀ t,t<n->PM.cI A (J i)=o+n/\PM.cS A (J i) ((o+t)*1) ByteArray.empty=Zn (M i t):=λt ht=>⟨h.cI hi,by rw[Nat.mul_one]; exact h.cS hi ht⟩
 have step1:∀ t,t<n->∀ b,decide (M i t=0)=b->aGO J i o n A t=(bif b then some (.inl ((J i,o,n),(),(n:Int),((t+1:Nat):Int),A,())) else some (.inr (.inl ((t:Int),A,())))):=λt ht b hb=>by
  have e1:ltI (t:Int) (n:Int)=true:=by rw[aE]; exact oT Z
  have e2:aF (t:Int) n=true:=by rw[aL]; exact oT Z
  have e3:((t:Nat):Int).toNat=t:=oN _;have e4:Nat.blt ((o+t)*1) (o+n)=true:=by rw[b9]; exact oT Z
  have e5:=bO t Z;unfold aGO;simp only[bN,e1,e2,e3,(hg t ht).1,e4,(hg t ht).2,oC,AX,W6,aD,hb,e5];cases b <;> rfl
 by_cases hz:∀ x,x<n->M i x=0
 ·refine⟨-1,?_,.inl ⟨rfl,hz⟩⟩;have key:=aU (step:=bN) (N:=2^64) (λt=>((J i,o,n),(),(n:Int),(t:Int),A,())) n (.inr (A,())) Z (λt ht=>step1 t ht true (oT (hz t ht))) (by
   have e1:ltI (n:Int) (n:Int)=false:=by rw[aE]; exact oF Z
   simp only[bN,e1,oD])
  have key:cU ((J i,o,n),(),((n:Nat):Int),0,A,())=_:=key;simp only[kE,cA,key,aD,gB]
 ·obtain⟨x,hx1,hx2,hx3⟩:∃ x,x<n/\M i x≠0/\∀ y,y<x->M i y=0:=by
   obtain⟨x0,h1⟩:=Classical.not_forall.1 hz;obtain⟨h1,h2⟩:=Classical.not_imp.1 h1;have:∀ N x0,x0<N->x0<n->M i x0≠0->∃ x,x<n/\M i x≠0/\∀ y,y<x->M i y=0:=by
    intro N
    induction N with
    | zero=>intro x0 h; omega
    | succ N ih =>
     intro x0 h0 h1 h2
     by_cases hy:∀ y,y<x0->M i y=0
     ·exact⟨x0,h1,h2,hy⟩
     ·obtain⟨y,g1⟩:=Classical.not_forall.1 hy;obtain⟨g1,g2⟩:=Classical.not_imp.1 g1;exact ih y Z Z g2
   exact this (x0+1) x0 Z h1 h2
  refine⟨(x:Int),?_,.inr ⟨x,hx1,rfl,hx2,hx3⟩⟩;have key:=aU (step:=bN) (N:=2^64) (λt=>((J i,o,n),(),(n:Int),(t:Int),A,())) x (.inl ((x:Int),A,())) Z (λt ht=>step1 t Z true (oT (hx3 t ht))) (step1 x hx1 false (oF hx2));have key:cU ((J i,o,n),(),((n:Nat):Int),0,A,())=_:=key;simp only[kE,cA,key,aD,CU]
theorem aYG(hn:n<1048576) (A:List (List ByteArray)):pG () ((n:Int),()) A=some (Zr n (λ_=>0),A):=by
 have e1:ltI (n:Int) 0=false:=by rw[aE]; exact oF Z
 have e2:ltI (n:Int) (n:Int)=false:=by rw[aE]; exact oF Z
 have e3:ltI 1048576 (n:Int)=false:=by rw[aE]; exact oF Z
 have e4:((n:Nat):Int).toNat=n:=oN _;have e5:=aMF (List.replicate n 0) (by simp; omega) (λa ha=>by have:=List.eq_of_mem_replicate ha; omega);have e6:(List.replicate n (0:Int)).map Zn=Zr n (λ_=>0):=by
  unfold Zr;rw[List.map_replicate];refine List.ext_getElem R λi h1 h2=>R
 rw[e6]at e5;simp only[pG,e1,e2,e3,e4,e5,aD,Bool.not_false,oC]
theorem a7Y(M:Nat->V) {c:Nat} (hc:c<n):(List.range k).map (λi=>Zn (M i c))++(Zr n (λ_=>0)).set c (ByteArray.mk #[49])=Zr (k+n) (wide n k M c):=by
 rw[aVV]
 congr 1
 ·unfold Zr;refine List.map_congr_left λi hi=>?_
  have:=List.mem_range.1 hi;simp only[wide,this,if_true]
 ·refine List.ext_getElem (by simp[pO]) λi h1 h2=>?_
  rw[pO]at h2;rw[List.getElem_set];have e1:¬ k+i<k:=Z
  by_cases hic:c=i
  ·subst hic;simp only[if_true,Zr,List.getElem_map,List.getElem_range,wide,e1,if_false];exact bEW.symm
  ·have e2:¬ k+i=k+c:=Z
   simp only[hic,if_false,Zr,List.getElem_map,List.getElem_range,wide,e1,e2]
theorem aTU(hk:k<1048576) (hn:n<1048576) (hkn:k+n<1048576) (h:gI o k n m A J M) :
  kL (m,(n:Int),[],(n:Int),0,A,())=some (m,(n:Int),(List.range n).map (λc=>(A.length+c,0,k+n)),A++(List.range n).map (λc=>Zr (k+n) (wide n k M c)),()):=by
 have key:=aU (step:=kM) (N:=2^64)
  (λt=>(m,(n:Int),(List.range t).map (λc=>(A.length+c,0,k+n)),(n:Int),(t:Int),A++(List.range t).map (λc=>Zr (k+n) (wide n k M c)),())) n
  (m,(n:Int),(List.range n).map (λc=>(A.length+c,0,k+n)),A++(List.range n).map (λc=>Zr (k+n) (wide n k M c)),()) Z (λt ht=>?_) ?_
 ·have e0:A++(List.range 0).map (λc=>Zr (k+n) (wide n k M c))=A:=ze
  have key:kL (m,(n:Int),[],(n:Int),0,A++(List.range 0).map (λc=>Zr (k+n) (wide n k M c)),())=_:=key;rwa[e0]at key
 ·generalize hR:(List.range t).map (λc=>Zr (k+n) (wide n k M c))=R;have h':=h.ext R;generalize hB:A++R=B at h' ⊢;have hlen:B.length=A.length+t:=by rw[<- hB,<- hR]; simp
  have col:=aU (step:=kC) (N:=2^64)
   (λs=>(m,(n:Int),(List.range t).map (λc=>(A.length+c,0,k+n)),(t:Int),(List.range s).map (λi=>Zn (M i t)),(n:Int),(t:Int),m,(m.length:Int),(s:Int),B,())) k
   (m,(n:Int),(List.range t).map (λc=>(A.length+c,0,k+n)),(t:Int),(List.range k).map (λi=>Zn (M i t)),(n:Int),(t:Int),B,()) Z (λs hs=>?_) ?_
  ·have col:pC (m,(n:Int),(List.range t).map (λc=>(A.length+c,0,k+n)),(t:Int),[],(n:Int),(t:Int),m,(m.length:Int),0,B,())=_:=col;have e1:ltI (t:Int) (n:Int)=true:=by rw[aE]; exact oT Z
   have e2:aF (t:Int) n=true:=by rw[aL]; exact oT Z
   have e3:((t:Nat):Int).toNat=t:=oN _;have e4:Nat.blt t n=true:=by rw[b9]; exact oT ht
   have e5:(Zr n (λ_=>0)).length=n:=pO _ _;have e6:Nat.ble n 1048576=true:=by rw[dO]; exact oT Z
   have e7:Nat.ble ((List.range k).map (λi=>Zn (M i t))).length 1048576=true:=by rw[dO,List.length_map,List.length_range]; exact oT Z
   have e8:=a7Y (n:=n) (k:=k) M ht;have e9:(Zr (k+n) (wide n k M t)).length=k+n:=pO _ _;have e10:Nat.ble [(A.length+t,0,k+n)].length 1048576=true:=rfl;have e11:Nat.ble ((List.range t).map (λc=>(A.length+c,0,k+n))).length 1048576=true:=by rw[dO,List.length_map,List.length_range]; exact oT Z
   have e12:=bO t Z;have e13:(List.range t).map (λc=>(A.length+c,0,k+n))++[(A.length+t,0,k+n)]=(List.range (t+1)).map (λc=>(A.length+c,0,k+n)):=by rw[List.range_succ,List.map_append]; rfl
   have e14:B++[Zr (k+n) (wide n k M t)]=A++(List.range (t+1)).map (λc=>Zr (k+n) (wide n k M c)):=by rw[<- hB,<- hR,List.range_succ,List.map_append,List.append_assoc]; rfl
   have e15:((Zr n (λ_=>0)).set t (ByteArray.mk #[49])).length=n:=by rw[List.length_set,pO]
   simp only[kM,e1,oC,col,aD,aYG hn,e5,e2,e3,e4,e15,e6,e7,e8,e9,hlen,e10,e11,e12,e13,e14]
  ·have e1:ltI (s:Int) (k:Int)=true:=by rw[aE]; exact oT Z
   have e2:aF (s:Int) k=true:=by rw[aL]; exact oT Z
   have e3:((s:Nat):Int).toNat=s:=oN _;have e4:aF (t:Int) n=true:=by rw[aL]; exact oT Z
   have e5:((t:Nat):Int).toNat=t:=oN _;have e6:Nat.blt ((o+t)*1) (o+n)=true:=by rw[b9]; exact oT Z
   have e7:PM.cS B (J s) ((o+t)*1) ByteArray.empty=Zn (M s t):=by rw[Nat.mul_one]; exact h'.cS hs ht
   have e8:Nat.ble [Zn (M s t)].length 1048576=true:=rfl;have e9:Nat.ble ((List.range s).map (λi=>Zn (M i t))).length 1048576=true:=by rw[dO,List.length_map,List.length_range]; exact oT Z
   have e10:=bO s Z;have e11:(List.range s).map (λi=>Zn (M i t))++[Zn (M s t)]=(List.range (s+1)).map (λi=>Zn (M i t)):=by rw[List.range_succ,List.map_append]; rfl
   simp only[kC,h.len,e1,e2,e3,h'.get hs,e4,e5,h'.cI hs,e6,e7,e8,e9,e10,e11,oC]
  ·have e1:ltI (k:Int) (k:Int)=false:=by rw[aE]; exact oF Z
   simp only[kC,h.len,e1,oD]
 ·have e1:ltI (n:Int) (n:Int)=false:=by rw[aE]; exact oF Z
  simp only[kM,e1,oD]
end
theorem Hn.split {d W p}(h:Hn d W p) k:∃ j,j<=d/\(∀ i,i<j->p i<k)/\∀ i,j<=i->i<d->k<=p i:=by
 have:∀ t,t<=d->∃ j,j<=t/\(∀ i,i<j->p i<k)/\∀ i,j<=i->i<t->k<=p i:=by
  intro t
  induction t with
  | zero=>simp
  | succ t ih =>
   intro ht;obtain⟨j,h1,h2,h3⟩:=ih Z
   by_cases hj:j=t
   ·by_cases hp:p t<k
    ·exact⟨t+1,by omega,λi hi=>by
      grind,λi g1 g2=>by omega⟩
    ·exact⟨j,by omega,h2,λi g1 g2=>by
      grind⟩
   ·exact⟨j,by omega,h2,λi g1 g2=>by
     by_cases e:i=t
     ·subst e;have a1:=h3 j (oM _) Z;have a2:=h.inc j i Z Z;omega
     ·exact h3 i g1 Z⟩
 exact this d (oM _)
section
variable {o k n d:Nat} {m:List (Nat×Nat×Nat)} {A:List (List ByteArray)} {J:Nat->Nat} {M:Nat->V}
theorem gI.behind (h:gI o d (k+n) m A J M){j}(hj:j<=d):gI (o+k) (d-j) n ((List.range (d-j)).map λi=>(J (j+i),o+k,n)) A (λi=>J (j+i)) (λi y=>M (j+i) (k+y)) :=
 ⟨rfl,λi hi=>by
  obtain⟨pre,h1,h2⟩:=h.at_ (j+i) Z;refine⟨pre++Zr k (M (j+i)),by rw[oH,pO,h1],?_⟩;rw[h2,aVV,List.append_assoc],λa b ha hb e=>by
  have:=h.inj (j+a) (j+b) Z Z e;omega⟩
theorem aEJ(hkn:k+n<1048576) (hd:d<1048576) (h:gI o d (k+n) m A J M) {p:Nat->Nat} (hH:Hn d M p) (hw:Wd d (k+n) M) {j:Nat} (hj:j<=d) (h1:∀ i,i<j->p i<k) (h2:∀ i,j<=i->i<d->k<=p i) :
  kA ((k:Int),(n:Int),[],m,(m.length:Int),0,A,())=some ((n:Int),(List.range (d-j)).map (λi=>(J (j+i),o+k,n)),A,()):=by
 have key:=aU (step:=gC) (N:=2^64)
  (λt=>((k:Int),(n:Int),(List.range (t-j)).map (λi=>(J (j+i),o+k,n)),m,(m.length:Int),(t:Int),A,())) d
  ((n:Int),(List.range (d-j)).map (λi=>(J (j+i),o+k,n)),A,()) Z (λt ht=>?_) ?_
 ·have key:kA ((k:Int),(n:Int),(List.range (0-j)).map (λi=>(J (j+i),o+k,n)),m,(m.length:Int),0,A,())=_:=key;rwa[Nat.zero_sub]at key
 ·have e1:ltI (t:Int) (d:Int)=true:=by rw[aE]; exact oT Z
  have e2:aF (t:Int) d=true:=by rw[aL]; exact oT Z
  have e3:((t:Nat):Int).toNat=t:=oN _;obtain⟨L,q1,q2⟩:=bBG h Z ht;have hp:=hH.pos t ht;have hpl:p t<k+n:=by
   refine Classical.byContradiction λhc=>?_
   have:=hw t ht (p t) Z;omega
  have hL:L=(p t:Int):=by
   rcases q2 with ⟨_,q3⟩|⟨x,g1,g2,g3,g4⟩
   ·have:=q3 (p t) hpl; omega
   ·rw[g2]
    congr 1
    rcases Nat.lt_trichotomy x (p t)with g|g|g
    ·exact absurd (hH.low t ht x g) g3
    ·exact g
    ·have:=g4 (p t) g; omega
  subst hL;have e4:=bO t Z
  by_cases htj:t<j
  ·have e5:ltI (p t:Int) (k:Int)=true:=by rw[aE]; exact oT (by have:=h1 t htj; omega)
   have e6:t+1-j=0:=Z
   have e7:t-j=0:=Z
   simp only[gC,h.len,e1,e2,e3,h.get ht,q1,aD,e5,e4,e6,e7,oC,oD,Bool.not_true]
  ·have e5:ltI (p t:Int) (k:Int)=false:=by rw[aE]; exact oF (by have:=h2 t Z ht; omega)
   have e6:ltI (k:Int) 0=false:=by rw[aE]; exact oF Z
   have e7:((k:Nat):Int).toNat=k:=oN _;have e8:Nat.ble k (k+n)=true:=by rw[dO]; exact oT Z
   have e9:Nat.ble (k+n) (k+n)=true:=by rw[dO]; exact oT Z
   have e10:k+n-k=n:=Z
   have e11:Nat.ble [(J t,o+k,n)].length 1048576=true:=rfl;have e12:Nat.ble ((List.range (t-j)).map (λi=>(J (j+i),o+k,n))).length 1048576=true:=by rw[dO,List.length_map,List.length_range]; exact oT Z
   have e13:(List.range (t-j)).map (λi=>(J (j+i),o+k,n))++[(J t,o+k,n)]=(List.range (t+1-j)).map (λi=>(J (j+i),o+k,n)):=by
    rw[show t+1-j=(t-j)+1 by omega,List.range_succ,List.map_append];have:j+(t-j)=t:=Z
    simp only[List.map_cons,List.map_nil,this]
   simp only[gC,h.len,e1,e2,e3,h.get ht,q1,aD,e5,e4,e6,e7,e8,e9,e10,e11,e12,e13,oC,oD,Bool.not_false]
 ·have e1:ltI (d:Int) (d:Int)=false:=by rw[aE]; exact oF Z
  simp only[gC,h.len,e1,oD]
theorem Wd.wide (hw:Wd k n M):Wd n (k+n) (wide n k M):=λi hi x hx=>by
 have e1:¬ x<k:=Z
 have e2:¬ x=k+i:=Z
 simp only[Lz.wide,e1,e2,if_false]
theorem Big.wide {E}(hE:Big k n M E)(h1:1<=E):Big n (k+n) (wide n k M) E:=λi hi x hx=>by
 simp only[Lz.wide];split
 next hk=> exact hE x hk i hi
 grind
theorem Q3 {W:Nat->V} {p:Nat->Nat} (hH:Hn d W p) (hs:Same n (wide n k M) d W) {j:Nat} (hj:j<=d) (h1:∀ i,i<j->p i<k) (h2:∀ i,j<=i->i<d->k<=p i) :
  Hn (d-j) (λi y=>W (j+i) (k+y)) (λi=>p (j+i)-k)/\dG n k M (d-j) (λi y=>W (j+i) (k+y)):=by
 refine⟨⟨λa b hab hb=>?_,λi hi x hx=>?_,λi hi=>?_,λa b hab hb=>?_⟩,a7E hH hs hj h1 h2⟩
 ·have g1:=h2 (j+a) Z Z;have g2:=hH.inc (j+a) (j+b) Z Z;show p (j+a)-k<p (j+b)-k;omega
 ·exact hH.low (j+i) Z (k+x) (by have:x<p (j+i)-k:=hx; omega)
 ·have g1:=h2 (j+i) Z Z;show 0<W (j+i) (k+(p (j+i)-k));rw[show k+(p (j+i)-k)=p (j+i)by omega];exact hH.pos (j+i) Z
 ·have g1:=h2 (j+b) Z Z;show 0<=W (j+a) (k+(p (j+b)-k))/\W (j+a) (k+(p (j+b)-k))<W (j+b) (k+(p (j+b)-k));rw[show k+(p (j+b)-k)=p (j+b)by omega];exact hH.red (j+a) (j+b) Z Z
theorem aUF {E T:Nat->Nat} (hk:k<1048576) (hn:n<1048576) (hkn:k+n<1048576) (h:gI o k n m A J M) (hw:Wd k n M) (hE:Big k n M (E 0)) (h1E:1<=E 0) (hb:Bds n (k+n) E T)
  (hK:∀ r K p,r<=n->Hn r K p->dG n k M r K->∃ E2 T2:Nat->Nat,Big r n K (E2 0)/\Bds r n E2 T2) :
  ∃ m' A' J' K p r,bV () (m,(n:Int),()) A=some (m',A')/\gI k r n m' A' J' K/\r<=n/\Hn r K p/\dG n k M r K/\Wd r n K:=by
 have hl:=aTU hk hn hkn h;have hL:gI 0 n (k+n) ((List.range n).map λc=>(A.length+c,0,k+n)) (A++(List.range n).map λc=>Zr (k+n) (wide n k M c)) (λc=>A.length+c) (wide n k M) :=
  ⟨rfl,λi hi=>⟨[],rfl,by
   rw[List.getElem?_append_right Z,show A.length+i-A.length=i by omega,List.getElem?_map,List.getElem?_range hi];rfl⟩,λi j _ _ e=>by omega⟩
 obtain⟨m1,A1,J1,W,d,p,g1,g2,g3,g4,g5,g6,g7⟩:=aE4 hn hkn hL hw.wide (hE.wide h1E) hb;obtain⟨j,b1,b2,b3⟩:=Hn.split g4 k;have hL2:=g3.take g2;have hwd:Wd d (k+n) W:=λi hi x hx=>g6 i Z x hx
 have hbl:=aEJ hkn Z hL2 g4 hwd b1 b2 b3;obtain⟨c1,c2⟩:=Q3 g4 g5 b1 b2 b3;have hL3:=hL2.behind b1;have hwK:Wd (d-j) n (λi y=>W (j+i) (k+y)):=λi hi x hx=>hwd (j+i) Z (k+x) Z
 obtain⟨E2,T2,k1,k2⟩:=hK _ _ _ Z c1 c2;obtain⟨m2,A2,J2,K,r,p2,f1,f2,f3,f4,f5,f6,f7⟩:=aE4 (show d-j<1048576 by omega) hn hL3 hwK k1 k2;rw[Nat.zero_add]at f3;refine⟨m2.take r,A2,J2,K,p2,r,?_,f3.take f2,by omega,f4,?_,λi hi x hx=>f6 i Z x hx⟩
 ·have e1:aB .i64 ((k:Int)+(n:Int))=((k+n:Nat):Int):=by rw[wrap64 Z Z]; omega
  have hml:=h.len;simp only[bV,hl,aD,hml,e1,g1,dH,hbl,f1]
 ·intro y;rw[<- f5 y];exact c2 y
end
theorem pL n v:(Vr n v).length=n:=by simp[Vr]
theorem aH8 {n i} v (h:i<n):(Vr n v).getD i 0=v i:=by simp[Vr,h]
theorem aLO {n v B}(h:∀ x,x<n->(v x).natAbs<=B):∀ a∈Vr n v,a.natAbs<=B:=by
 intro a ha;obtain⟨x,hx,rfl⟩:=List.mem_map.1 ha;grind
def Mr(d n:Nat) (M:Nat->V):List (List Int):=(List.range d).map λi=>Vr n (M i)
theorem cN d n M:(Mr d n M).length=d:=by simp[Mr]
theorem aBX {d n i} M (h:i<d) z:(Mr d n M).getD i z=Vr n (M i):=by simp[Mr,h]
theorem aDX {d n M r}(h:r∈Mr d n M):∃ i,i<d/\r=Vr n (M i):=by
 obtain⟨i,hi,rfl⟩:=List.mem_map.1 h;grind
theorem a88(r:List Int)(hl:r.length<1048576)(hr:∀ a∈r,a.natAbs<=1000000000):lG (r,(),())=some (false,()):=by
 have key:=aU (step:=fP) (N:=2^64) (λt=>(r,(),(r.length:Int),(t:Int),())) r.length (.inr ()) Z (λt ht=>?_) ?_
 ·have key:bF fP (2^64) (r,(),(r.length:Int),0,())=some (.inr ()):=key;have e2:ltI (-1) 0=true:=O
  simp only[lG,tV,p7,key,aD,gB,e2,Bool.not_true]
 ·have e1:ltI (t:Int) (r.length:Int)=true:=by rw[aE]; exact oT Z
  have e2:aF (t:Int) r.length=true:=by rw[aL]; exact oT Z
  have e3:((t:Nat):Int).toNat=t:=oN _;have e4:r.getD t 0=r[t]:=by simp[List.getD,ht]
  have b:=hr r[t] (List.getElem_mem ht);have e5:ltI r[t] (-1000000000)=false:=by rw[aE]; exact oF Z
  have e6:ltI 1000000000 r[t]=false:=by rw[aE]; exact oF Z
  have e7:=bO t Z;simp only[fP,e1,e2,e3,e4,aBV,e5,e6,aD,oC,oD,e7]
 ·have e1:ltI (r.length:Int) (r.length:Int)=false:=by rw[aE]; exact oF Z
  simp only[fP,e1,oD]
theorem aPG(rows:List (List Int)){n}(hk:rows.length<=12)(hn:n<=12)(hlen:∀ r∈rows,r.length=n)(hr:∀ r∈rows,∀ a∈r,a.natAbs<=1000000000):T8 (rows,())=some (0,()):=by
 have key:=aU (step:=AV) (N:=2^64) (λt=>(rows,rows,(rows.length:Int),(t:Int),())) rows.length (.inr ()) Z (λt ht=>?_) ?_
 ·have key:bF AV (2^64) (rows,rows,(rows.length:Int),0,())=some (.inr ()):=key;have e1:ltI 12 (rows.length:Int)=false:=by rw[aE]; exact oF Z
  simp only[T8,NN,e1,oD,key,aD,gB]
 ·have e1:ltI (t:Int) (rows.length:Int)=true:=by rw[aE]; exact oT Z
  have e2:aF (t:Int) rows.length=true:=by rw[aL]; exact oT Z
  have e3:((t:Nat):Int).toNat=t:=oN _;have e4:rows.getD t []=rows[t]:=by simp[List.getD,ht]
  have e4':rows.getD 0 []=rows[0]:=by simp[List.getD,show 0<rows.length by omega]
  have hm:=List.getElem_mem ht;have hm0:=List.getElem_mem (show 0<rows.length by omega);have e5:ltI 12 (rows[t].length:Int)=false:=by rw[aE,hlen _ hm]; exact oF Z
  have e6:aF 0 rows.length=true:=by rw[aL]; exact oT Z
  have e7:eqI (rows[t].length:Int) (rows[0].length:Int)=true:=by rw[eG,hlen _ hm,hlen _ hm0]; exact oT rfl
  have e8:=a88 rows[t] (by rw[hlen _ hm]; omega) (hr _ hm);have e9:=bO t Z;simp only[AV,e1,e2,e3,e4,e4',e5,e6,e7,e8,e9,aD,Bool.not_true,oC,oD]
 ·have e1:ltI (rows.length:Int) (rows.length:Int)=false:=by rw[aE]; exact oF Z
  simp only[AV,e1,oD]
theorem bAE {n c:Nat} {v:V} (hn:n<1048576) (hc:c<n) (hz:∀ x,x<c->v x=0) (hp:v c≠0):NS (Vr n v,())=some ((c:Int),()):=by
 have hl:=pL n v;have key:=aU (step:=fM) (N:=2^64) (λt=>(Vr n v,(),(n:Int),(t:Int),())) c (.inl ((c:Int),())) Z (λt ht=>?_) ?_
 ·have key:bF fM (2^64) (Vr n v,(),(n:Int),0,())=some (.inl ((c:Int),())):=key;simp only[NS,tT,qA,hl,key,aD,CU]
 ·have e1:ltI (t:Int) (n:Int)=true:=by rw[aE]; exact oT Z
  have e2:aF (t:Int) n=true:=by rw[aL]; exact oT Z
  have e3:((t:Nat):Int).toNat=t:=oN _;have e4:(Vr n v).getD t 0=0:=by rw[aH8 v Z]; exact hz t ht
  have e5:eqI 0 0=true:=O
  have e9:=bO t Z;simp only[fM,hl,e1,e2,e3,e4,JB,e5,e9,aD,Bool.not_true,oC,oD]
 ·have e1:ltI (c:Int) (n:Int)=true:=by rw[aE]; exact oT Z
  have e2:aF (c:Int) n=true:=by rw[aL]; exact oT Z
  have e3:((c:Nat):Int).toNat=c:=oN _;have e4:eqI ((Vr n v).getD c 0) 0=false:=by rw[aH8 v hc,eG]; exact oF hp
  simp only[fM,hl,e1,e2,e3,JB,e4,aD,Bool.not_false,oC]
theorem Hn.aMH {d n:Nat} {M:Nat->V} {p:Nat->Nat} (h:Hn d M p) (hw:∀ i,i<d->∀ x,n<=x->M i x=0) {i:Nat} (hi:i<d):p i<n:=by
 rcases oG (p i) n with g|g
 ·exact g
 ·have:=hw i hi _ g;have:=h.pos i hi;omega
theorem a83 {d n t M p}(h:Hn d M p)(hw:∀ i,i<d->∀ x,n<=x->M i x=0)(hd:d<1048576)(hn:n<1048576)(ht:t<d) :
  fW (Mr t n M,((p t:Int),Vr n (M t),()),())=some (false,()):=by
 have hl:=cN t n M;have hp:=Hn.aMH h hw ht;have key:=aU (step:=dI) (N:=2^64) (λs=>(Mr t n M,((p t:Int),Vr n (M t),()),(t:Int),(s:Int),())) t (.inr ()) Z (λs hs=>?_) ?_
 ·have key:bF dI (2^64) (Mr t n M,((p t:Int),Vr n (M t),()),(t:Int),0,())=some (.inr ()):=key;have e2:ltI (-1) 0=true:=O
  simp only[fW,nN,kU,hl,key,aD,gB,e2,Bool.not_true]
 ·have e1:ltI (s:Int) (t:Int)=true:=by rw[aE]; exact oT Z
  have e2:aF (s:Int) t=true:=by rw[aL]; exact oT Z
  have e3:∀ a:Nat,((a:Nat):Int).toNat=a:=λa=>oN _
  have e4:=aBX (n:=n) M hs [];have e5:aF (p t:Int) n=true:=by rw[aL]; exact oT Z
  obtain⟨r1,r2⟩:=h.red s t hs ht;have e6:ltI (M s (p t)) 0=false:=by rw[aE]; exact oF Z
  have e7:ltI (M s (p t)) (M t (p t))=true:=by rw[aE]; exact oT r2
  have e9:=bO s Z;simp only[dI,hl,e1,e2,e3,e4,LU,pL,e5,aH8 _ hp,e6,e7,e9,aD,Bool.not_true,oC,oD]
 ·have e1:ltI (t:Int) (t:Int)=false:=by rw[aE]; exact oF Z
  simp only[dI,e1,oD]
theorem a5P {d n M p}(h:Hn d M p)(hw:∀ i,i<d->∀ x,n<=x->M i x=0)(hd:d<1048576)(hn:n<1048576):LD (Mr d n M,())=some (true,()):=by
 have hl:=cN d n M;obtain⟨q,hq⟩:∃ q:Nat->Int,q=λt=>if t=0 then -1 else (p (t-1):Int):=⟨_,rfl⟩
 have key:=aU (step:=vM) (N:=2^64) (λt=>(Mr d n M,q t,Mr d n M,(d:Int),(t:Int),())) d (.inr ()) Z (λt ht=>?_) ?_
 ·have q0:q 0 = -1:=by rw[hq]; rfl
  rw[q0]at key;have key:bF vM (2^64) (Mr d n M,-1,Mr d n M,(d:Int),0,())=some (.inr ()):=key;simp only[LD,HS,hl,key,aD,gB]
 ·have hp:=Hn.aMH h hw ht;have e1:ltI (t:Int) (d:Int)=true:=by rw[aE]; exact oT Z
  have e2:aF (t:Int) d=true:=by rw[aL]; exact oT Z
  have e3:∀ a:Nat,((a:Nat):Int).toNat=a:=λa=>oN _
  have e4:=aBX (n:=n) M ht [];have e5:=bAE hn hp (h.low t ht) (by have:=h.pos t ht; omega);have e6:ltI (q t) (p t:Int)=true:=by
   rw[aE,hq];dsimp only;split
   ·exact oT Z
   ·have:=h.inc (t-1) t Z ht;exact oT Z
  have e7:aF (p t:Int) n=true:=by rw[aL]; exact oT Z
  have e8:ltI (M t (p t)) 0=false:=by rw[aE]; exact oF (by have:=h.pos t ht; omega)
  have e9:ltI (t:Int) 0=false:=by rw[aE]; exact oF Z
  have e10:Nat.ble 0 t=true:=rfl;have e11:Nat.ble t d=true:=by rw[dO]; exact oT Z
  have e12:((Mr d n M).drop 0).take (t-0)=Mr t n M:=by
   rw[List.drop_zero,Nat.sub_zero];unfold Mr;rw[<- List.map_take,List.take_range,Nat.min_eq_left Z]
  have e13:=a83 h hw hd hn ht;have e14:=bO t Z;have e15:q (t+1)=(p t:Int):=by rw[hq]; simp
  simp only[vM,hl,e1,e2,e3,e4,e5,aD,e6,pL,e7,aH8 _ hp,e8,e9,e10,e11,e12,e13,e14,e15,Bool.not_true,Bool.not_false,oC,oD]
 ·have e1:ltI (d:Int) (d:Int)=false:=by rw[aE]; exact oF Z
  simp only[vM,e1,oD]
theorem QC {d n:Nat} {M:Nat->V} {p:Nat->Nat} (h:Hn d M p) (hw:∀ i,i<d->∀ x,n<=x->M i x=0) (hd:d<=12) (hn:n<=12) (hM:∀ i,i<d->∀ x,x<n->(M i x).natAbs<=1000000000):pU (((n:Int),Mr d n M),())=some (0,()):=by
 have hlen:∀ r∈Mr d n M,r.length=n:=λr hr=>by
  obtain⟨i,_,rfl⟩:=aDX hr;exact pL _ _
 have hr:∀ r∈Mr d n M,∀ a∈r,a.natAbs<=1000000000:=λr hr=>by
  obtain⟨i,hi,rfl⟩:=aDX hr;exact aLO (hM i hi)
 have e0:eqI 0 0=true:=O
 have c1:=aO3 (Mr d n M) (n:=n) (by rw[cN]; exact hd) hn hlen hr;have c2:=aPG (Mr d n M) (n:=n) (by rw[cN]; exact hd) hn hlen hr;simp only[pU,c1,aD,e0,Bool.not_true,oD,R0,c2,a5P h hw Z Z,oC]
end Go.PM
namespace Go.Lz
theorem a2S {E d}(h:1<=E)(hd:d<=4):fac E d<=24*(E*E*E*E):=by
 have h1 :=Nat.le_mul_of_pos_left E h;have h2:E*E<=E*E*E:=Nat.le_mul_of_pos_right _ h;have h3:E*E*E<=E*E*E*E:=Nat.le_mul_of_pos_right _ h;rcases(show d=0\/d=1\/d=2\/d=3\/d=4 by omega)with rfl|rfl|rfl|rfl|rfl <;> simp only[fac] <;> omega
def un(q:Nat):V:=λc=>if c=q then 1 else 0
theorem aDC b {q}:∀ {n},(q<n->dot n (un q) b=b q)/\(n<=q->dot n (un q) b=0)
 | 0=>⟨λh=>by omega,λ_=>rfl⟩
 | n+1=>by
  have ih:=aDC b (q:=q) (n:=n);refine⟨λh=>?_,λh=>?_⟩
  ·show dot n (un q) b+un q n*b n=b q
   by_cases hq:q=n
   ·subst hq;rw[ih.2 (Nat.le_refl _)];simp[un]
   ·rw[ih.1 Z];have:¬ n=q:=λe=>hq e.symm
    simp[un,this]
  ·show dot n (un q) b+un q n*b n=0;have:¬ n=q:=Z
   rw[ih.2 Z];simp[un,this]
theorem aU2 {n} b (s:Nat->Int)(U:Nat->V):∀ d,dot n (λc=>sm (λj=>s j*U j c) d) b=sm (λj=>s j*dot n (U j) b) d
 | 0=>N0 b n
 | d+1=>by
  show dot n (λc=>sm (λj=>s j*U j c) d+s d*U d c) b=_;rw[N3,aU2 b s U d];rfl
theorem aQU {n k r r2 d W:Nat} {M K S H:Nat->V} {p:Nat->Nat} (hw:∀ i,i<k->∀ x,n<=x->M i x=0) (hH:Hn d H p) (hs:Same k M d H) (hp:∀ j,j<d->p j<n) (hd:Dg k M d p W) (h1:dG n k M r K) (h2:dG n r K r2 S) :
  ∃ D:Int,D≠0/\∀ v,Sp r2 S v->Sp k M (λx=>D*v x):=by
 obtain⟨D,w,h0,hw'⟩:=hd;refine⟨D,h0,λv hv=>?_⟩;have hwid:∀ {b:V},Sp k M b->∀ x,n<=x->b x=0:=λhb x hx=>Sp.iA (λj hj=>hw j hj x hx) hb
 -- what the rows of the lattice are
 have comb:∀ b,Sp k M b->∀ x,D*b x=sm (λj=>b (p j)*w j x) d:=λb hb x=>by
  have hz:(λy=>D*b y-sm (λj=>b (p j)*w j y) d)=λ_=>0:=by
   refine hH.zero ((hs _).1 (Sp.sub (Sp.smul D hb) (Sp.sm λj hj=>(hw' j hj).1))) λl hl=>?_
   rw[YK (f:=λj=>b (p j)*w j (p l)) hl λj hj hne=>by rw[(hw' j hj).2.2.1 l hl (Ne.symm hne),Int.mul_zero]];rw[(hw' l hl).2.1];grind
  have:=congrFun hz x;have:D*b x-sm (λj=>b (p j)*w j x) d=0:=this;omega
 have main:∀ x,D*v x=sm (λj=>v (p j)*w j x) d:=λx=>by
  by_cases hx:x<n
  ·-- a row of the kernel
   have hy:∀ b:V,dot n (λc=>sm (λj=>-(w j x)*un (p j) c) d+D*un x c) b=D*b x-sm (λj=>b (p j)*w j x) d:=λb=>by
    rw[N3,aU2,(aDC b).1 hx];have:sm (λj=>-(w j x)*dot n (un (p j)) b) d = -(sm (λj=>b (p j)*w j x) d):=by
     have:∀ e,e<=d->sm (λj=>-(w j x)*dot n (un (p j)) b) e = -(sm (λj=>b (p j)*w j x) e):=by
      intro e
      induction e with
      | zero=>exact λ_=>rfl
      | succ e ih =>
       intro he;rw[sm,sm,ih Z,(aDC b).1 (hp e Z)];grind
     exact this d (Nat.le_refl _)
    rw[this];omega
   have hk:Ker n k M (λc=>sm (λj=>-(w j x)*un (p j) c) d+D*un x c):=by
    refine⟨λc hc=>?_,λi hi=>?_⟩
    ·have e1:¬ c=x:=Z
     show sm (λj=>-(w j x)*un (p j) c) d+D*un x c=0;rw[QA λj hj=>by
      have:=hp j hj;have e2:¬ c=p j:=Z
      simp[un,e2]]
     simp[un,e1]
    ·rw[hy,comb _ (Sp.mem hi) x]; omega
   have hv2:=(h2 v).1 hv;have:=hv2.span ((h1 _).2 hk);rw[tF,hy]at this;omega
  ·have g1:=((h2 v).1 hv).1 x Z;rw[g1,QA λj hj=>by rw[hwid (hw' j hj).1 x Z,Int.mul_zero],Int.mul_zero]
 have:=Sp.sm (k:=k) (M:=M) (w:=w) (s:=λj=>v (p j)) (n:=d) λj hj=>(hw' j hj).1
 refine cast (congrArg _ ?_) this
 funext x
 exact(main x).symm
theorem d2W {a b A B}(ha:∀ x,(a x).natAbs<=A)(hb:∀ x,(b x).natAbs<=B) x y:(d2 a b x y).natAbs<=2*(A*B):=by
 have h1:=WI (ha x) (hb y);have h2:=WI (ha y) (hb x);unfold d2;omega
theorem sg3 {x y z s t u B}(b1:x.natAbs<=B)(b2:y.natAbs<=B)(b3:z.natAbs<=B)(hs:s=1\/s = -1)(ht:t=1\/t = -1)(hu:u=1\/u = -1):(s*y+t*z).natAbs+(u*z-s*x).natAbs+(t*x+u*y).natAbs<=4*B:=zf
theorem m3s {a b:V} {A B:Nat} (ha:∀ x,(a x).natAbs<=A) (hb:∀ x,(b x).natAbs<=B) (x y z:Nat) {s t u:Int} (hs:s=1\/s = -1) (ht:t=1\/t = -1) (hu:u=1\/u = -1) :
  (s*d2 a b x y+t*d2 a b x z+u*d2 a b y z).natAbs<=4*(A*B):=by
 have e:s*d2 a b x y+t*d2 a b x z+u*d2 a b y z=a x*(s*b y+t*b z)+a y*(u*b z-s*b x)-a z*(t*b x+u*b y):=by simp only[d2]; grind
 have h1:=WI (ha x) (Nat.le_refl (s*b y+t*b z).natAbs);have h2:=WI (ha y) (Nat.le_refl (u*b z-s*b x).natAbs);have h3:=WI (ha z) (Nat.le_refl (t*b x+u*b y).natAbs);have h4:=sg3 (hb x) (hb y) (hb z) hs ht hu;have h5:=Nat.mul_le_mul_left A h4;rw[Nat.mul_add,Nat.mul_add]at h5;have e2:A*(4*B)=4*(A*B):=zf
 rw[e];omega
theorem m3 {a b A B}(ha:∀ x,(a x).natAbs<=A)(hb:∀ x,(b x).natAbs<=B) x y z:(d2 a b x y).natAbs+(d2 a b x z).natAbs+(d2 a b y z).natAbs<=4*(A*B):=by
 have sg:∀ v ,∃ s ,(s=1\/s = -1)/\s*v=v.natAbs:=λv=>zf
 obtain⟨s,hs,e1⟩:=sg (d2 a b x y);obtain⟨t,ht,e2⟩:=sg (d2 a b x z);obtain⟨u,hu,e3⟩:=sg (d2 a b y z);have:=m3s ha hb x y z hs ht hu;grind
theorem d3W {a b c A B C}(ha:∀ x,(a x).natAbs<=A)(hb:∀ x,(b x).natAbs<=B)(hc:∀ x,(c x).natAbs<=C) x y z:(d3 a b c x y z).natAbs<=4*(A*B*C):=by
 have h:=Nat.mul_le_mul_right C (m3 ha hb x y z);have h1:=WI (Nat.le_refl (d2 a b x y).natAbs) (hc z);have h2:=WI (Nat.le_refl (d2 a b x z).natAbs) (hc y);have h3:=WI (Nat.le_refl (d2 a b y z).natAbs) (hc x);rw[Nat.add_mul,Nat.add_mul]at h;have e:4*(A*B)*C=4*(A*B*C):=zf
 unfold d3;omega
theorem d4W {a b c d A B C D}(ha:∀ x,(a x).natAbs<=A)(hb:∀ x,(b x).natAbs<=B)(hc:∀ x,(c x).natAbs<=C)(hd:∀ x,(d x).natAbs<=D) x y z u:(d4 a b c d x y z u).natAbs<=16*(A*B*C*D):=by
 have h1:=WI (d3W ha hb hc x y z) (hd u);have h2:=WI (d3W ha hb hc x y u) (hd z);have h3:=WI (d3W ha hb hc x z u) (hd y);have h4:=WI (d3W ha hb hc y z u) (hd x);have e:4*(A*B*C)*D=4*(A*B*C*D):=zf
 unfold d4;omega
def a0E(k:Nat) (B:Nat->Nat) (W:Nat):Nat->Prop
 | 0=>1<=W
 | 1=>∀ a,a<k->B a<=W
 | 2=>∀ a b,a<k->b<k->a≠b->2*(B a*B b)<=W
 | 3=>∀ a b c,a<k->b<k->c<k->a≠b->a≠c->b≠c->4*(B a*B b*B c)<=W
 | _=>∀ a b c d,a<k->b<k->c<k->d<k->a≠b->a≠c->a≠d->b≠c->b≠d->c≠d->16*(B a*B b*B c*B d)<=W
def a8C(k:Nat) (M:Nat->V) (r:Nat) (p:Nat->Nat):Prop:=∀ i,i<r->∃ u:V,(∃ t:Int,t≠0/\Sp k M (λx=>t*u x))/\(∀ l,l<i->u (p l)=0)/\u (p i)≠0
theorem Hn.chain {r k H M p}(hH:Hn r H p)(hs:∀ j,j<r->∃ t ,t≠0/\Sp k M (λi=>t*H j i)):a8C k M r p:=λi hi =>
 ⟨H i,hs i hi,λl hl=>hH.low i hi _ (hH.inc l i hl hi),by have:=hH.pos i hi; omega⟩
section
variable {k:Nat} {M:Nat->V}
theorem aBW {r W p B}(hr:r<=4)(hC:a8C k M r p)(hE:∀ j,j<k->∀ x,(M j x).natAbs<=B j)(hP:a0E k B W r) :
  ∃ (D:Int) (w:Nat->V),D≠0/\D.natAbs<=W/\∀ j,j<r->Sp k M (w j)/\w j (p j)=D/\(∀ i,i<r->i≠j->w j (p i)=0)/\∀ x,(w j x).natAbs<=W:=by
 have fin:0<r->Dg k M r p W->∃ (D:Int) (w:Nat->V),D≠0/\D.natAbs<=W/\∀ j,j<r->Sp k M (w j)/\w j (p j)=D/\(∀ i,i<r->i≠j->w j (p i)=0)/\∀ x,(w j x).natAbs<=W:=λh0 ⟨D,w,h1,h2⟩ =>
  ⟨D,w,h1,by have:=(h2 0 h0).2.2.2 (p 0); rwa[(h2 0 h0).2.1]at this,h2⟩
 have ne2:∀ {a b:Nat} {x y:Nat},d2 (M a) (M b) x y≠0->a≠b:=λh e=>h (by subst e; simp only[d2]; grind)
 have ne3:∀ {a b c:Nat} {x y z:Nat},d3 (M a) (M b) (M c) x y z≠0->a≠b/\a≠c/\b≠c:=λh=>⟨λe=>h (by subst e; simp only[d3,d2]; grind),λe=>h (by subst e; simp only[d3,d2]; grind),λe=>h (by subst e; simp only[d3,d2]; grind)⟩
 rcases(show r=0\/r=1\/r=2\/r=3\/r=4 by omega)with rfl|rfl|rfl|rfl|rfl
 ·have:1<=W:=hP;exact⟨1,λ_ _=>0,by decide,this,λj hj=>by omega⟩
 ·obtain⟨u,⟨t,ht,h0⟩,z0,n0⟩:=hC 0 Z;obtain⟨a,ha,q0⟩:=aNF ht h0 n0;exact fin Z (bGE (λx=>Nat.le_trans (hE a ha x) (hP a ha)) ha q0)
 ·obtain⟨u,⟨t,ht,h0⟩,z0,n0⟩:=hC 0 Z;obtain⟨a,ha,q0⟩:=aNF ht h0 n0;obtain⟨u,⟨t,ht,h0⟩,z1,n1⟩:=hC 1 Z;obtain⟨b,hb,q1⟩:=aTI ht h0 (z1 0 Z) n1 q0;exact fin Z (bFJ (λx y=>Nat.le_trans (d2W (hE a ha) (hE b hb) x y) (hP a b ha hb (ne2 q1))) ha hb q1)
 ·obtain⟨u,⟨t,ht,h0⟩,z0,n0⟩:=hC 0 Z;obtain⟨a,ha,q0⟩:=aNF ht h0 n0;obtain⟨u,⟨t,ht,h0⟩,z1,n1⟩:=hC 1 Z;obtain⟨b,hb,q1⟩:=aTI ht h0 (z1 0 Z) n1 q0;obtain⟨u,⟨t,ht,h0⟩,z2,n2⟩:=hC 2 Z;obtain⟨c,hc,q2⟩:=a4I ht h0 (z2 0 Z) (z2 1 Z) n2 q1;obtain⟨a1,a2,a3⟩:=ne3 q2;exact fin Z (bFL (λx y z=>Nat.le_trans (d3W (hE a ha) (hE b hb) (hE c hc) x y z) (hP a b c ha hb hc a1 a2 a3)) ha hb hc q2)
 ·obtain⟨u,⟨t,ht,h0⟩,z0,n0⟩:=hC 0 Z;obtain⟨a,ha,q0⟩:=aNF ht h0 n0;obtain⟨u,⟨t,ht,h0⟩,z1,n1⟩:=hC 1 Z;obtain⟨b,hb,q1⟩:=aTI ht h0 (z1 0 Z) n1 q0;obtain⟨u,⟨t,ht,h0⟩,z2,n2⟩:=hC 2 Z;obtain⟨c,hc,q2⟩:=a4I ht h0 (z2 0 Z) (z2 1 Z) n2 q1;obtain⟨u,⟨t,ht,h0⟩,z3,n3⟩:=hC 3 Z;obtain⟨d,hd,q3⟩:=bD3 ht h0 (z3 0 Z) (z3 1 Z) (z3 2 Z) n3 q2
  obtain⟨a1,a2,a3⟩:=ne3 q2;have ne4:a≠d/\b≠d/\c≠d:=⟨λe=>q3 (by subst e; simp only[d4,d3,d2]; grind),λe=>q3 (by subst e; simp only[d4,d3,d2]; grind),λe=>q3 (by subst e; simp only[d4,d3,d2]; grind)⟩;exact fin Z (bGG (λx y z u=>Nat.le_trans (d4W (hE a ha) (hE b hb) (hE c hc) (hE d hd) x y z u) (hP a b c d ha hb hc hd a1 a2 ne4.1 a3 ne4.2.1 ne4.2.2)) ha hb hc hd q3)
end
theorem aYB {k r W M p}(h:∃ (D:Int) (w:Nat->V),D≠0/\D.natAbs<=W/\∀ j,j<r->Sp k M (w j)/\w j (p j)=D/\(∀ i,i<r->i≠j->w j (p i)=0)/\∀ x,(w j x).natAbs<=W):Dg k M r p W:=by
 obtain⟨D,w,h1,_,h2⟩:=h;exact⟨D,w,h1,h2⟩
theorem CN {f g}:∀ {n},(∀ i,i<n->f i=g i)->sm f n=sm g n
 | 0,_=>rfl
 | n+1,h=>by rw[sm,sm,CN λi hi=>h i Z,h n R]
theorem bAP f g:∀ n,sm (λi=>f i+g i) n=sm f n+sm g n
 | 0=>rfl
 | n+1=>by rw[sm,sm,sm,bAP f g n]; omega
theorem aVC t f:∀ n,sm (λi=>t*f i) n=t*sm f n
 | 0=>by simp[sm]
 | n+1=>by rw[sm,sm,aVC t f n,Int.mul_add]
def skip(j i:Nat):Nat:=if i<j then i else i+1
theorem a9N j i:(if skip j i<j then skip j i else skip j i-1)=i:=by
 by_cases h:i<j
 ·simp only[skip,h,if_true]
 ·have:¬ i+1<j:=Z
  simp only[skip,h,if_false,this];rfl
theorem a5D f j:∀ n,j<=n->sm f (n+1)=sm (λi=>f (skip j i)) n+f j
 | 0,h=>by
  obtain rfl:j=0:=Z
  rfl
 | n+1,h=>by
  by_cases hj:j=n+1
  ·subst hj;rw[sm,CN (g:=λi=>f (skip (n+1) i)) λi hi=>by
    have :=hi;simp only[skip,this,if_true]]
  ·have e:skip j n=n+1:=by
    have:¬ n<j:=Z
    simp only[skip,this,if_false]
   rw[sm,a5D f j n Z,sm,e];omega
theorem dep:∀ (k:Nat) (M u:Nat->V),(∀ i,i<=k->Sp k M (u i))->∃ c:Nat->Int,(∃ i,i<=k/\c i≠0)/\∀ x,sm (λi=>c i*u i x) (k+1)=0
 | 0,M,u,h=>⟨λ_=>1,⟨0,by omega,by decide⟩,λx=>by
  have:u 0 x=0:=Sp.iA (λj hj=>by omega) (h 0 Z);simp[sm,this]⟩
 | k+1,M,u,h=>by
  have hc:∀ i,∃ tv:Int×V,i<=k+1->Sp k (λj=>M (j+1)) tv.2/\u i=λx=>tv.2 x+tv.1*M 0 x:=λi=>by
   by_cases hi:i<=k+1
   ·obtain⟨t,v,h1,h2⟩:=(h i hi).first;exact⟨(t,v),λ_=>⟨h1,h2⟩⟩
   ·exact⟨(0,λ_=>0),λg=>absurd g hi⟩
  obtain⟨tv,hc⟩:=Classical.axiomOfChoice hc
  by_cases hj:∃ j,j<=k+1/\(tv j).1≠0
  ·obtain⟨j,hj,ht⟩:=hj;have hsk:∀ i,i<=k->skip j i<=k+1:=λi hi=>by unfold skip; split <;> omega
   obtain⟨c,⟨i0,hi0,hc0⟩,hs⟩:=dep k (λj=>M (j+1)) (λi x=>(tv j).1*u (skip j i) x-(tv (skip j i)).1*u j x) λi hi=>by
    obtain⟨a1,a2⟩:=hc (skip j i) (hsk i hi);obtain⟨b1,b2⟩:=hc j hj;have:=Sp.sub (Sp.smul (tv j).1 a1) (Sp.smul (tv (skip j i)).1 b1);refine cast (congrArg _ ?_) this
    funext x
    rw[a2,b2];grind
   -- back
   have hun:∀ i,skip j i≠j:=λi=>by unfold skip; split <;> omega
   refine⟨λm=>if m=j then -(sm (λi=>c i*(tv (skip j i)).1) (k+1)) else c (if m<j then m else m-1)*(tv j).1,⟨skip j i0,hsk i0 hi0,?_⟩,λx=>?_⟩
   ·have e:=a9N j i0;simp only[hun i0,if_false,e];exact Int.mul_ne_zero hc0 ht
   ·rw[a5D _ j (k+1) hj];have e1:∀ i,(λi=>(if skip j i=j then -(sm (λi=>c i*(tv (skip j i)).1) (k+1)) else c (if skip j i<j then skip j i else skip j i-1)*(tv j).1)*u (skip j i) x) i=c i*((tv j).1*u (skip j i) x-(tv (skip j i)).1*u j x)+u j x*(c i*(tv (skip j i)).1):=λi=>by
     have e:=a9N j i;simp only[hun i,if_false,e];grind
    rw[CN λi _=>e1 i,bAP,hs x,aVC];simp only[if_true];grind
  ·have hz:∀ i,i<=k+1->Sp k (λj=>M (j+1)) (u i):=λi hi=>by
    obtain⟨a1,a2⟩:=hc i hi;have:(tv i).1=0:=Classical.byContradiction λh0=>hj ⟨i,hi,h0⟩
    rw[a2,this];refine cast (congrArg _ ?_) a1
    funext x; simp
   obtain⟨c,⟨i0,hi0,hc0⟩,hs⟩:=dep k _ u λi hi=>hz i Z
   refine⟨λi=>if i<=k then c i else 0,⟨i0,by omega,by simp only[hi0,if_true]; exact hc0⟩,λx=>?_⟩;have e:¬ k+1<=k:=Z
   rw[sm,CN (g:=λi=>c i*u i x) λi hi=>by
    have:i<=k:=Z
    simp only[this,if_true],hs x]
   simp only[e,if_false];omega
def Ind(k:Nat) (u:Nat->V):Prop:=∀ c:Nat->Int,(∀ x,sm (λi=>c i*u i x) k=0)->∀ i,i<k->c i=0
theorem bA8 {f m}:∀ {k},m<=k->(∀ i,m<=i->i<k->f i=0)->sm f k=sm f m
 | 0,h,_=>zf
 | k+1,h,hz=>by
  by_cases e:m=k+1
  ·grind
  ·rw[sm,bA8 Z (λi h1 h2=>hz i h1 Z),hz k Z R,Int.add_zero]
theorem Ind.le {k m u}(h:Ind k u)(hm:m<=k):Ind m u:=λc hc i hi=>by
 have:=h (λi=>if i<m then c i else 0) (λx=>by
  rw[bA8 hm λi h1 h2=>by
   grind]
  rw[CN (g:=λi=>c i*u i x) λi hi=>by grind]
  simp_all) i Z
 grind
theorem Ind.aLQ {k k' u M}(h:Ind k u)(hs:∀ i,i<k->∃ t ,t≠0/\Sp k' M (λx=>t*u i x)):k<=k':=by
 refine Classical.byContradiction λhn=>?_
 have h':=h.le (show k'+1<=k by omega);have hc:∀ i,∃ t:Int,i<k->t≠0/\Sp k' M (λx=>t*u i x):=λi=>by
  by_cases hi:i<k
  ·simp_all
  ·exact⟨0,λg=>absurd g hi⟩
 obtain⟨t,ht⟩:=Classical.axiomOfChoice hc;obtain⟨c,⟨i,hi,h0⟩,h1⟩:=dep k' M (λi x=>t i*u i x) λi hi=>(ht i Z).2
 have:=h' (λi=>c i*t i) (λx=>by
  rw[<- h1 x];grind) i Z
 rcases Int.mul_eq_zero.1 this with g|g
 ·grind
 grind
theorem Hn.ind {k M p}(h:Hn k M p):Ind k M:=λc hc=>by
 have:∀ N i,i<N->i<k->c i=0:=by
  intro N
  induction N with
  | zero=>simp
  | succ N ih =>
   intro i hi hk;have h1:=hc (p i);rw[YK hk λl hl hne=>by
    rcases Nat.lt_or_ge l i with g|g
    ·grind
    ·rw[h.low l hl (p i) (h.inc i l Z hl),Int.mul_zero]]at h1
   rcases Int.mul_eq_zero.1 h1 with g|g
   ·omega
   ·have:=h.pos i hk; omega
 grind
end Go.Lz
namespace Go.PM
open Go Go.RowKit Go.Proofs Go.Lz
def dg(D:Nat):Nat->Nat
 | 0=>D
 | d+1=>6*dg D d+2
theorem aZM D {a b}(h:a<=b):dg D a<=dg D b:=by
 induction h with
 | refl=>simp
 | step _ ih=>rw[dg]; omega
theorem a15 {D k n}(h:∀ d,d<k->d<n->10*dg D d+4<=400000):Bds k n (λd=>10^dg D d) (λd=>10^(5*dg D d+1)):=by
 have e5:∀ a:Nat,(10^a)^5=10^(5*a):=λa=>by rw[<- Nat.pow_mul,Nat.mul_comm]
 refine⟨λd hd hdn=>⟨Nat.pow_pos O,Nat.pow_le_pow_right O Z,λ_=>?_,?_⟩,λd hd _=>?_⟩
 ·show 9*(10^dg D d)^5<=10^(5*dg D d+1);rw[e5,Nat.pow_succ];omega
 ·have h1:(10^(5*dg D d+1)+1:Nat)<10^(5*dg D d+1+1):=by
   rw[Nat.pow_succ 10 (5*dg D d+1)];have:0<10^(5*dg D d+1):=Nat.pow_pos O;omega
  have h2:=HI (u:=10^(5*dg D d+1)+1) (k:=5*dg D d+1) h1;have:=h d hd hdn;have e:qN=400000:=rfl;show 2*Lib.nDigits (10^(5*dg D d+1)+1)<=qN;omega
 ·show 10^dg D d+(10^dg D d+1)*10^(5*dg D d+1)<=10^(6*dg D d+2);generalize ha:dg D d=a;have h1:(10^(5*a+1):Nat)=10*10^(5*a):=by rw[Nat.pow_succ]; omega
  have h2:(10^(6*a+2):Nat)=100*(10^a*10^(5*a)):=by rw[<- Nat.pow_add,show a+5*a=6*a by omega,Nat.pow_add]; omega
  have h3:(10^a:Nat)<=10^a*10^(5*a):=Nat.le_mul_of_pos_right _ (Nat.pow_pos O);have h4:(10^(5*a):Nat)<=10^a*10^(5*a):=Nat.le_mul_of_pos_left _ (Nat.pow_pos O);have h5:(10^a+1)*(10*10^(5*a))=10*(10^a*10^(5*a))+10*10^(5*a):=zf
  rw[h1,h2,h5];omega
theorem a1S {D k n}(hk:k<=4\/n<=4)(hD:D<=154):Bds k n (λd=>10^dg D d) (λd=>10^(5*dg D d+1)):=a15 λd hd hn=>by
 have h1:=aZM D (show d<=3 by omega);have h2:dg D 3=6*(6*(6*D+2)+2)+2:=rfl;omega
theorem UD {k n D:Nat} {M:Nat->V} (hk:k<=4\/n<=4) (hkk:k<1048576) (hn:n<1048576) (hw:Wd k n M) (hE:Big k n M (10^D)) (hD:D<=154):∃ d H p,d<=k/\Hn d H p/\Same k M d H/\Wd d n H:=by
 have hL:gI 0 k n ((List.range k).map λc=>(c,0,n)) ((List.range k).map λc=>Zr n (M c)) (λc=>c) M :=
  ⟨rfl,λi hi=>⟨[],rfl,by rw[List.getElem?_map,List.getElem?_range hi]; rfl⟩,λi j _ _ e=>e⟩
 obtain⟨m',A',J',H,d,p,_,g2,g3,g4,g5,g6,g7⟩:=aE4 Z hn hL hw (E:=λd=>10^dg D d) (T:=λd=>10^(5*dg D d+1)) hE (a1S hk hD);exact⟨d,H,p,g2,g4,g5,λi hi x hx=>g6 i Z x hx⟩
theorem Hn.dR {d n H p}(h:Hn d H p)(hw:Wd d n H):d<=n/\∀ j,j<d->p j<n:=by
 have hp:∀ j,j<d->p j<n:=λj hj=>Hn.aMH h hw hj
 have:∀ j,j<d->j<=p j:=by
  intro j
  induction j with
  | zero=>simp
  | succ j ih=>intro hj; have:=h.inc j (j+1) R hj; omega
 grind
theorem Y8 {k n E D r:Nat} {M K:Nat->V} {p:Nat->Nat} (hn:n<=4) (hk:k<1048000) (hw:Wd k n M) (hE:Big k n M E) (h1:1<=E) (hD:E<=10^D) (hD2:D<=154) (hH:Hn r K p) (hI:dG n k M r K) :
  ∀ i,i<r->∀ x,(K i x).natAbs<=4*(24*(E*E*E*E)):=by
 have hB:=hE.wide (k:=k) (M:=M) h1;obtain⟨d,W,q,g1,g2,g3,g4⟩:=UD (k:=n) (n:=k+n) (M:=wide n k M) (.inl hn) Z Z hw.wide (λi hi x hx=>oR (hB i hi x hx) hD) hD2;obtain⟨j,b1,b2,b3⟩:=Hn.split g2 k;obtain⟨c1,c2⟩:=Q3 g2 g3 b1 b2 b3;obtain⟨e1,_,e3⟩:=Hn.unique hH c1 λv=>(hI v).trans (c2 v).symm
 have hdg:=(aXD (k:=n) (M:=wide n k M) (E:=E) Z g2 (λj hj=>⟨1,by decide,by
  have:=(g3 _).2 (Sp.mem hj);refine cast (oZ _ ?_) this
  funext x; simp⟩) (hB.all hw.wide)).mono λv=>(g3 v).1
 have hle:=Hn.aNO g2 hdg;intro i hi x;rw[e3 i hi];refine oR (hle (j+i) Z (k+x)) (Nat.mul_le_mul Z (a2S h1 Z))
theorem a6Z {k n E D r r2:Nat} {M K S:Nat->V} {p2:Nat->Nat} (hk:k<=4) (hn:n<=4) (hw:Wd k n M) (hE:Big k n M E) (h1:1<=E) (hD:E<=10^D) (hD2:D<=154) (hI:dG n k M r K) (hS:Hn r2 S p2) (hI2:dG n r K r2 S) :
  ∀ i,i<r2->∀ x,(S i x).natAbs<=4*(24*(E*E*E*E)):=by
 obtain⟨d,H,p,g1,g2,g3,g4⟩:=UD (.inl hk) Z Z hw (λi hi x hx=>oR (hE i hi x hx) hD) hD2;have a1:=(Hn.dR g2 g4);have hdg:=aXD (k:=k) (M:=M) (E:=E) Z g2 (λj hj=>⟨1,by decide,by
  have:=(g3 _).2 (Sp.mem hj);refine cast (oZ _ ?_) this
  funext x; simp⟩) (hE.all hw)
 obtain⟨D0,h0,hsp⟩:=aQU hw g2 g3 a1.2 hdg hI hI2;have hwS:Wd r2 n S:=λi hi x hx=>hI2.width hi x hx
 have a2:=Hn.dR hS hwS;have hdS:=(aXD (k:=k) (M:=M) (E:=E) Z hS (λj hj=>⟨D0,h0,hsp _ (Sp.mem hj)⟩) (hE.all hw)).mono (k':=r2) (M':=S) λv hv=>by
  refine(hI2 v).2 ⟨λc hc=>Sp.iA (λj hj=>hw j hj c hc) hv,λx hx=>?_⟩;rw[tF];exact((hI _).1 (Sp.mem hx)).span hv
 have hle:=Hn.aNO hS hdS;intro i hi x;refine oR (hle i hi x) (Nat.mul_le_mul Z (a2S h1 Z))
structure BdG (K:Nat) (E T:Nat->Nat) (Tm:Nat):Prop where
 st:∀ j,j<K->1<=E j/\E j<=T j/\9*E j^5<=T j/\T j<=Tm/\E j+(E j+1)*T j<=E (j+1)
 le:∀ j,j<=K->E j<=Tm
 fit:2*Lib.nDigits (Tm+1)<=qN
theorem a9E {D:Nat}(hD:D<=153):BdG 4 (λd=>10^dg D d) (λd=>10^(5*dg D d+1)) (10^dg D 4):=by
 have hb:Bds 5 5 (λd=>10^dg (D-D) d) (λd=>10^(5*dg (D-D) d+1)):=a15 λd hd hn=>by
  have h1:=aZM (D-D) (show d<=4 by omega);have h2:dg (D-D) 4=6*(6*(6*(6*(D-D)+2)+2)+2)+2:=rfl;omega
 have hb:Bds 4 5 (λd=>10^dg D d) (λd=>10^(5*dg D d+1)):=a15 λd hd hn=>by
  have h1:=aZM D (show d<=3 by omega);have h2:dg D 3=6*(6*(6*D+2)+2)+2:=rfl;omega
 have e5:∀ a:Nat,(10^a)^5=10^(5*a):=λa=>by rw[<- Nat.pow_mul,Nat.mul_comm]
 refine⟨λj hj=>?_,λj hj=>Nat.pow_le_pow_right O (aZM D hj),?_⟩
 ·have s:=hb.st j hj Z;refine⟨s.e1,s.et,?_,?_,hb.up j hj Z⟩
  ·show 9*(10^dg D j)^5<=10^(5*dg D j+1);rw[e5,Nat.pow_succ];omega
  ·refine Nat.pow_le_pow_right O ?_;have h1:=aZM D (show j+1<=4 by omega);have h2:dg D (j+1)=6*dg D j+2:=rfl;omega
 ·have h1:(10^dg D 4+1:Nat)<10^(dg D 4+1):=by
   rw[Nat.pow_succ 10 (dg D 4)];have:0<10^dg D 4:=Nat.pow_pos O;omega
  have h2:=HI (u:=10^dg D 4+1) (k:=dg D 4) h1;have h3:dg D 4=6*(6*(6*(6*D+2)+2)+2)+2:=rfl;have e:qN=400000:=rfl;omega
section
variable {o k n:Nat} {m:List (Nat×Nat×Nat)} {A:List (List ByteArray)} {J:Nat->Nat} {M:Nat->V} {G γ:Nat->Nat}
theorem aQ3 {K Tm:Nat} {E T:Nat->Nat} (hk:k<1048576) (hn:n<1048576) (h:gI o k n m A J M) (hw:Wd k n M) (hG:Gr G γ k M) (hK:∀ g,cnt γ g k<=K) (hE:Big k n M (E 0)) (hb:BdG K E T Tm) :
  ∃ m' A' J' M' d p,cF m ((n:Int),()) A=some (m'.take d,A')/\d<=k/\gI o k n m' A' J' M'/\Hn d M' p/\Same k M d M'/\Wd k n M':=by
 have fin:∀ (N:Nat) {m':List (Nat×Nat×Nat)} {A':List (List ByteArray)} {J':Nat->Nat} {M':Nat->V} {d t:Nat} {p γ':Nat->Nat},t<=n->n-t<N->gI o k n m' A' J' M'->Fo k M M' d t p->Wd k n M'->Gr G γ' k M'->(∀ g,cnt γ' g k<=K)->Bd k n γ' (λg=>E (cnt γ' g d)) M' ->
   ∃ z,bF bT N (m',(n:Int),(d:Int),(t:Int),A',())=some z/\∃ (m':List (Nat×Nat×Nat)) (A':List (List ByteArray)) (J':Nat->Nat) (M':Nat->V) (d:Nat) (p:Nat->Nat),z=(m',(d:Int),A',())/\gI o k n m' A' J' M'/\(d<=k/\Hn d M' p/\Same k M d M')/\Wd k n M':=by
  intro N
  induction N with
  | zero=>intro m' A' J' M' d t p γ' h1 h2; omega
  | succ N ih =>
   intro m' A' J' M' d t p γ' h1 h2 hL hF hW hG' hK' hB;rw[cZ];rcases oG t n with ht|ht
   ·have e1:ltI (t:Int) (n:Int)=true:=by rw[aE]; exact oT Z
    rcases oG d k with hd|hd
    ·have e2:ltI (d:Int) (m'.length:Int)=true:=by rw[aE,hL.len]; exact oT Z
     have hdK:∀ g,cnt γ' g d<=K:=λg=>oR (aIT (ind γ' g) (Nat.le_of_lt hd)) (hK' g)
     obtain⟨z,z1,m2,A2,J2,M2,d2,p2,γ2,rfl,y1,y2,y3,y4,y5,y6,y7⟩:=bAJ hk hn hL hF hW hd ht (T:=Tm) (Tg:=T (cnt γ' (G t) d)) hG' hB hb.fit (λg=>hb.le _ (hdK g)) (λhlt=>by
      have s:=hb.st (cnt γ' (G t) d) (by have:=hK' (G t); omega);exact⟨s.1,s.2.1,s.2.2.1,s.2.2.2.1⟩) (n:Int)
     have e3:=bO t Z;have hs:bT (m',(n:Int),(d:Int),(t:Int),A',())=some (.inl (m2,(n:Int),(d2:Int),((t+1:Nat):Int),A2,())):=by simp only[bT,e1,e2,oC,z1,aD,e3]
     rw[hs];have hcd:∀ g,cnt γ2 g d=cnt γ' g d:=λg=>aK1 y6
     refine ih Z Z y1 y2 y3 y4 (λg=>by rw[y5]; exact hK' g) ?_;rcases y7 with ⟨rfl,y7⟩|⟨rfl,y8,y9,y7⟩
     ·exact y7.mono λg=>by rw[hcd]; exact oM _
     ·refine y7.mono λg=>?_
      have hs:cnt γ2 g (d+1)=cnt γ2 g d+ind γ2 g d:=rfl;show (if g=G t then _ else _)<=E (cnt γ2 g (d+1))
      by_cases e:g=G t
      ·subst e;rw[if_pos rfl,hs,hcd];have:ind γ2 (G t) d=1:=by unfold ind; rw[if_pos y8]
       rw[this];exact(hb.st (cnt γ' (G t) d) (by have:=hK' (G t); omega)).2.2.2.2
      ·rw[if_neg e,hs,hcd];have:ind γ2 g d=0:=by unfold ind; rw[if_neg (by rw[y8]; exact λq=>e q.symm)]
       rw[this];exact oM _
    ·have hdk:d=k:=by have:=hF.le; omega
     have e2:ltI (d:Int) (m'.length:Int)=false:=by rw[aE,hL.len]; exact oF Z
     refine⟨_,by simp only[bT,e1,e2,oC,oD],m',A',J',M',d,p,rfl,hL,⟨hF.le,hF.hn (.inl hdk)⟩,hW⟩
   ·have htn:t=n:=Z
    subst htn;have e1:ltI (t:Int) (t:Int)=false:=by rw[aE]; exact oF Z
    refine⟨_,by simp only[bT,e1,oD],m',A',J',M',d,p,rfl,hL,⟨hF.le,hF.hn (.inr λi hi x hx=>hW i hi x hx)⟩,hW⟩
 obtain⟨z,z1,m',A',J',M',d,p,rfl,y1,⟨y2,y3,y4⟩,y5⟩:=fin (2^64) (Nat.zero_le n) Z h (Fo.start k M) hw hG hK λi hi x hx=>hE i hi x hx
 refine⟨m',A',J',M',d,p,?_,y2,y1,y3,y4,y5⟩;have z2:kZ (m,(n:Int),0,0,A,())=some (m',(d:Int),A',()):=z1;have e4:ltI (d:Int) 0=false:=by rw[aE]; exact oF Z
 have e5:((d:Nat):Int).toNat=d:=oN _;have hl:=y1.len;unfold cF;simp only[z2,aD,hl,e4,e5,Bool.not_false,oC]
 by_cases hk0:k=0
 ·have hd0:d=0:=Z
  subst hk0; subst hd0;have:m'=[]:=List.eq_nil_of_length_eq_zero hl;subst this;rfl
 ·have e6:Nat.beq k 0=false:=by
   cases k with
   | zero=>exact absurd rfl hk0
   | succ k=>rfl
  have e7:Nat.ble 0 d=true:=rfl;have e8:Nat.ble d k=true:=by rw[dO]; simpa using y2
  have e9:Nat.blt 0 k=true:=by rw[b9]; simp; omega
  simp only[e6,e7,e8,e9,oC,oD,Nat.sub_zero]
def prj(G:Nat->Nat) (g:Nat) (y:V):V:=λx=>if G x=g then y x else 0
theorem a9J {r:Nat}{K:Nat->V}{p:Nat->Nat}(h:Hn r K p)(cl:∀ y g,Sp r K y->Sp r K (prj G g y)):Gr G (λi=>G (p i)) r K:=λi hi x hx=>by
 have hz:Sp r K (λx=>K i x-prj G (G (p i)) (K i) x):=Sp.sub (Sp.mem hi) (cl _ _ (Sp.mem hi));have h0:=h.small hz λj hj=>by
  have hp:=h.pos j hj
  by_cases e:G (p j)=G (p i)
  ·have:prj G (G (p i)) (K i) (p j)=K i (p j):=by unfold prj; rw[if_pos e]
   show _<K i (p j)-prj G (G (p i)) (K i) (p j)/\K i (p j)-prj G (G (p i)) (K i) (p j)<_;rw[this];omega
  ·have:prj G (G (p i)) (K i) (p j)=0:=by unfold prj; rw[if_neg e]
   show _<K i (p j)-prj G (G (p i)) (K i) (p j)/\K i (p j)-prj G (G (p i)) (K i) (p j)<_;rw[this];rcases Nat.lt_trichotomy i j with q|q|q
   ·have:=h.red i j q hj; omega
   ·subst q; exact absurd rfl e
   ·have:=h.low i hi (p j) (h.inc j i q hi); omega
 have h1:=congrFun h0 x;refine Classical.byContradiction λhg=>hx ?_
 have:prj G (G (p i)) (K i) x=0:=by unfold prj; rw[if_neg hg]
 have h1:K i x-prj G (G (p i)) (K i) x=0:=h1;omega
theorem aOK {a b a' b':V}:∀ {n},(∀ i,i<n->a i*b i=a' i*b' i)->dot n a b=dot n a' b'
 | 0,_=>rfl
 | n+1,h=>by rw[dot,dot,aOK (λi hi=>h i Z),h n R]
theorem Ker.prj (hG:Gr G γ k M){y:V}(h:Ker n k M y)(g:Nat):Ker n k M (prj G g y):=by
 refine⟨λc hc=>by unfold Go.PM.prj; rw[h.1 c hc]; split <;> rfl,λx hx=>?_⟩
 by_cases e:γ x=g
 ·rw[<- h.2 x hx];refine aOK λi hi=>?_
  unfold Go.PM.prj;split
  ·rfl
  next q=>
   have:M x i=0:=hG.at_ hx λq2=>q (q2.trans e)
   rw[this]; simp
 ·rw[aOK (a':=λ_=>0) (b':=M x) λi hi=>?_,N0];unfold Go.PM.prj;split
  next q=>
   have:M x i=0:=hG.at_ hx λq2=>e (q2.symm.trans q)
   rw[this]; simp
  ·simp
theorem dG.grp (hG:Gr G γ k M){r:Nat}{K:Nat->V}{p:Nat->Nat}(hI:dG n k M r K)(h:Hn r K p):Gr G (λi=>G (p i)) r K :=
 a9J h λy g hy=>(hI _).2 (Ker.prj hG ((hI y).1 hy) g)
theorem aWJ {p:Nat->Nat}(g:Nat):∀ {r n:Nat},(∀ i j,i<j->j<r->p i<p j)->(∀ i,i<r->p i<n)->cnt (λi=>G (p i)) g r<=cnt G g n
 | 0,n,_,_=>Nat.zero_le _
 | r+1,n,h1,h2=>by
  have h3:=aWJ g (r:=r) (n:=p r) (λi j a b=>h1 i j a Z) (λi hi=>h1 i r hi Z);have h4:=aIT (ind G g) (h2 r Z);show cnt (λi=>G (p i)) g r+ind (λi=>G (p i)) g r<=smN (ind G g) n;have h5:smN (ind G g) (p r+1)=cnt G g (p r)+ind G g (p r):=rfl;have h6:ind (λi=>G (p i)) g r=ind G g (p r):=rfl;have h4:smN (ind G g) (p r+1)<=smN (ind G g) n:=h4;omega
theorem bCY {r:Nat}{K:Nat->V}{p:Nat->Nat}(h:Hn r K p)(hw:Wd r n K)(hc:∀ g,cnt G g n<=4)(g:Nat):cnt (λi=>G (p i)) g r<=4 :=
 oR (aWJ g h.inc λi hi=>Hn.aMH h hw hi) (hc g)
def Gw(k:Nat) (G γ:Nat->Nat):Nat->Nat:=λx=>if x<k then γ x else G (x-k)
theorem Gr.wide (hG:Gr G γ k M)(n:Nat):Gr (Gw k G γ) G n (wide n k M):=λc hc x hx=>by
 unfold Lz.wide at hx;unfold Gw;split at hx
 next e=> rw[if_pos e]; exact(hG x e c hx).symm
 next e=>
  rw[if_neg e];split at hx
  next e2=> rw[e2]; congr 1; omega
  ·exact absurd rfl hx
theorem a8D {D:Nat} (hk:k<1048576) (hn:n<1048576) (hkn:k+n<1048576) (h:gI o k n m A J M) (hw:Wd k n M) (hG:Gr G γ k M) (hc:∀ g,cnt G g n<=4) (hE:Big k n M (10^D)) (hD:D<=153)
  (hK:∀ r K p,r<=n->Hn r K p->dG n k M r K->∃ D2,D2<=153/\Big r n K (10^D2)) :
  ∃ m' A' J' K p r,bV () (m,(n:Int),()) A=some (m',A')/\gI k r n m' A' J' K/\r<=n/\Hn r K p/\dG n k M r K/\Wd r n K:=by
 have hl:=aTU hk hn hkn h;have hL:gI 0 n (k+n) ((List.range n).map λc=>(A.length+c,0,k+n)) (A++(List.range n).map λc=>Zr (k+n) (wide n k M c)) (λc=>A.length+c) (wide n k M) :=
  ⟨rfl,λi hi=>⟨[],rfl,by
   rw[List.getElem?_append_right Z,show A.length+i-A.length=i by omega,List.getElem?_map,List.getElem?_range hi];rfl⟩,λi j _ _ e=>by omega⟩
 obtain⟨m1,A1,J1,W,d,p,g1,g2,g3,g4,g5,g6⟩:=aQ3 hn hkn hL hw.wide (hG.wide n) hc (hE.wide (Nat.pow_pos O)) (a9E hD);obtain⟨j,b1,b2,b3⟩:=Hn.split g4 k;have hL2:=g3.take g2;have hwd:Wd d (k+n) W:=λi hi x hx=>g6 i Z x hx
 have hbl:=aEJ hkn Z hL2 g4 hwd b1 b2 b3;obtain⟨c1,c2⟩:=Q3 g4 g5 b1 b2 b3;have hL3:=hL2.behind b1;have hwK:Wd (d-j) n (λi y=>W (j+i) (k+y)):=λi hi x hx=>hwd (j+i) Z (k+x) Z
 obtain⟨D2,k1,k2⟩:=hK _ _ _ Z c1 c2;obtain⟨m2,A2,J2,K,r,p2,f1,f2,f3,f4,f5,f6⟩:=aQ3 (show d-j<1048576 by omega) hn hL3 hwK (dG.grp hG c2 c1) (bCY c1 hwK hc) k2 (a9E k1);rw[Nat.zero_add]at f3;refine⟨m2.take r,A2,J2,K,p2,r,?_,f3.take f2,by omega,f4,?_,λi hi x hx=>f6 i Z x hx⟩
 ·have e1:aB .i64 ((k:Int)+(n:Int))=((k+n:Nat):Int):=by rw[wrap64 Z Z]; omega
  have hml:=h.len;simp only[bV,hl,aD,hml,e1,g1,dH,hbl,f1]
 ·intro y;rw[<- f5 y];exact c2 y
end
structure En (G:Nat->Nat) (g n m:Nat) (e:Nat->Nat):Prop where
 inc:∀ i j,i<j->j<m->e i<e j
 lt:∀ j,j<m->e j<n
 at_:∀ j,j<m->G (e j)=g
 sur:∀ x,x<n->G x=g->∃ j,j<m/\e j=x
theorem aHV(G:Nat->Nat)(g:Nat):∀ n,∃ e,En G g n (cnt G g n) e
 | 0=>⟨λ_=>0,⟨λi j _ h=>absurd h (Nat.not_lt_zero _),λj h=>absurd h (Nat.not_lt_zero _),λj h=>absurd h (Nat.not_lt_zero _),λx h=>absurd h (Nat.not_lt_zero _)⟩⟩
 | n+1=>by
  obtain⟨e,h⟩:=aHV G g n;have hc:cnt G g (n+1)=cnt G g n+ind G g n:=rfl
  by_cases hg:G n=g
  ·have h1:ind G g n=1:=by unfold ind; rw[if_pos hg]
   rw[h1]at hc;refine⟨λj=>if j=cnt G g n then n else e j,?_,?_,?_,?_⟩
   ·intro i j hij hj;have hi:¬ i=cnt G g n:=Z
    simp only[if_neg hi];split
    ·exact h.lt i Z
    ·exact h.inc i j hij Z
   ·intro j hj;split
    ·omega
    ·have:=h.lt j Z; omega
   ·intro j hj;split
    ·exact hg
    ·exact h.at_ j Z
   ·intro x hx hgx
    by_cases hxn:x=n
    ·exact⟨cnt G g n,by omega,by rw[if_pos rfl,hxn]⟩
    ·obtain⟨j,g1,g2⟩:=h.sur x Z hgx;exact⟨j,by omega,by rw[if_neg Z]; exact g2⟩
  ·have h1:ind G g n=0:=by unfold ind; rw[if_neg hg]
   rw[h1,Nat.add_zero]at hc;rw[hc];refine⟨e,h.inc,λj hj=>by have:=h.lt j hj; omega,h.at_,λx hx hgx=>h.sur x ?_ hgx⟩;have:x≠n:=λq=>hg (q ▸ hgx)
   omega
theorem En.inj {G:Nat->Nat}{g n m:Nat}{e:Nat->Nat}(h:En G g n m e){i j:Nat}(hi:i<m)(hj:j<m)(he:e i=e j):i=j:=by
 rcases Nat.lt_trichotomy i j with q|q|q
 ·have:=h.inc i j q hj; omega
 ·exact q
 ·have:=h.inc j i q hi; omega
def cpv(e:Nat->Nat) (m:Nat) (v:V):V:=λj=>if j<m then v (e j) else 0
theorem vG {e:Nat->Nat}{m:Nat}{v:V}{j:Nat}(h:j<m):cpv e m v j=v (e j):=if_pos h
theorem PB {e:Nat->Nat}{m:Nat}{v:V}{j:Nat}(h:m<=j):cpv e m v j=0:=if_neg Z
theorem En.dot {G:Nat->Nat}{g:Nat}{e:Nat->Nat}{a b:V}:∀ {n m:Nat},En G g n m e->(∀ x,x<n->G x≠g->a x*b x=0)->dot n a b=dot m (cpv e m a) (cpv e m b)
 | 0,m,h,hs=>by
  have:m=0:=Classical.byContradiction λhm=>absurd (h.lt 0 Z) (Nat.not_lt_zero _)
  subst this; rfl
 | n+1,m,h,hs=>by
  by_cases hg:G n=g
  ·obtain⟨j,hj,hjn⟩:=h.sur n Z hg;have hjm:j+1=m:=by
    refine Classical.byContradiction λhne=>?_
    have h1:=h.inc j (j+1) Z Z;have h2:=h.lt (j+1) Z;omega
   subst hjm;have h':En G g n j e:=⟨λi l a b=>h.inc i l a Z,λl hl=>by have:=h.inc l j hl hj; omega,λl hl=>h.at_ l Z,λx hx hgx=>by
    obtain⟨l,g1,g2⟩:=h.sur x Z hgx;have hlj:l≠j:=λq=>by subst q; omega
    exact⟨l,by omega,g2⟩⟩
   rw[Lz.dot,Lz.dot,En.dot h' λx hx=>hs x Z]
   congr 1
   ·refine aTK (λi hi=>?_) λi hi=>?_
    ·rw[vG hi,vG Z]
    ·rw[vG hi,vG Z]
   ·rw[vG hj,vG hj,hjn]
  ·have h':En G g n m e:=⟨h.inc,λl hl=>by
    have h1:=h.lt l hl;have h2:=h.at_ l hl;have:e l≠n:=λq=>hg (q ▸ h2)
    omega,h.at_,λx hx=>h.sur x Z⟩
   rw[Lz.dot,En.dot h' λx hx=>hs x Z,hs n Z hg,Int.add_zero]
section
variable {k n r m r' g kg:Nat} {M K:Nat->V} {p e e' eM:Nat->Nat} {G γ:Nat->Nat}
theorem bBR(h:Hn r K p) (hw:Wd r n K) (he:En G g n m e) (he':En (λi=>G (p i)) g r r' e'):∃ q,Hn r' (λj=>cpv e m (K (e' j))) q:=by
 obtain⟨q,hq⟩:=Classical.axiomOfChoice (r:=λj l=>j<r'->l<m/\e l=p (e' j)) λj=>by
  by_cases hj:j<r'
  ·obtain⟨l,h1,h2⟩:=he.sur (p (e' j)) (Hn.aMH h hw (he'.lt j hj)) (he'.at_ j hj);exact⟨l,λ_=>⟨h1,h2⟩⟩
  ·exact⟨0,λh=>absurd h hj⟩
 refine⟨q,λi j hij hj=>?_,λi hi x hx=>?_,λi hi=>?_,λi j hij hj=>?_⟩
 ·obtain⟨a1,a2⟩:=hq i Z;obtain⟨b1,b2⟩:=hq j hj;have h1:=h.inc _ _ (he'.inc i j hij hj) (he'.lt j hj);rcases Nat.lt_trichotomy (q i) (q j)with w|w|w
  ·exact w
  ·rw[w]at a2; omega
  ·have:=he.inc _ _ w a1; omega
 ·obtain⟨a1,a2⟩:=hq i hi;show cpv e m (K (e' i)) x=0;rw[vG Z];exact h.low _ (he'.lt i hi) _ (by rw[<- a2]; exact he.inc _ _ hx a1)
 ·obtain⟨a1,a2⟩:=hq i hi;show 0<cpv e m (K (e' i)) (q i);rw[vG a1,a2];exact h.pos _ (he'.lt i hi)
 ·obtain⟨b1,b2⟩:=hq j hj;show 0<=cpv e m (K (e' i)) (q j)/\cpv e m (K (e' i)) (q j)<cpv e m (K (e' j)) (q j);rw[vG b1,vG b1,b2];exact h.red _ _ (he'.inc i j hij hj) (he'.lt j hj)
theorem Sp.cp (hg:Gr G γ r K)(he:En G g n m e)(he':En γ g r r' e'){v:V}(h:Sp r K v):Sp r' (λj=>cpv e m (K (e' j))) (cpv e m v):=by
 induction h with
 | zero =>
  have:cpv e m (λ_=>0)=λ_=>0:=by funext j; unfold cpv; split <;> rfl
  rw[this]; exact .zero
 | add i t hi _ ih =>
  by_cases hγ:γ i=g
  ·obtain⟨j,h1,h2⟩:=he'.sur i hi hγ;have:=Sp.add j t h1 ih;refine cast (oZ _ ?_) this
   funext x
   show cpv e m _ x+t*cpv e m (K (e' j)) x=cpv e m _ x;rw[h2];unfold cpv;split
   ·rfl
   ·simp
  ·refine cast (oZ _ ?_) ih
   funext x
   unfold cpv;split
   ·rename_i hx;have:K i (e x)=0:=hg.at_ hi λq=>hγ (q.symm.trans (he.at_ x hx))
    show _=_+t*K i (e x);rw[this]; simp
   ·rfl
theorem Sp.ex (hg:Gr G γ r K)(hw:Wd r n K)(he:En G g n m e)(he':En γ g r r' e'){y:V}(h:Sp r' (λj=>cpv e m (K (e' j))) y):∃ v,Sp r K v/\(∀ x,G x≠g->v x=0)/\(∀ x,n<=x->v x=0)/\cpv e m v=y:=by
 induction h with
 | zero=>exact⟨λ_=>0,.zero,λ_ _=>rfl,λ_ _=>rfl,by funext j; unfold cpv; split <;> rfl⟩
 | add j t hj _ ih =>
  obtain⟨v,h1,h2,h3,h4⟩:=ih;have hi:=he'.lt j hj;refine⟨_,Sp.add (e' j) t hi h1,λx hx=>?_,λx hx=>?_,?_⟩
  ·have:K (e' j) x=0:=hg.at_ hi λq=>hx (q.trans (he'.at_ j hj))
   rw[h2 x hx,this]; simp
  ·rw[h3 x hx,hw _ hi x hx]; simp
  ·rw[<- h4]
   funext x
   unfold cpv;split
   ·rfl
   ·simp
theorem dG.cp {γK:Nat->Nat} (hG:Gr G γ k M) (hgK:Gr G γK r K) (hw:Wd r n K) (he:En G g n m e) (heM:En γ g k kg eM) (he':En γK g r r' e') (hI:dG n k M r K) :
  dG m kg (λj=>cpv e m (M (eM j))) r' (λj=>cpv e m (K (e' j))):=λy=>by
 have hdot:∀ (v:V),(∀ x,G x≠g->v x=0)->∀ x,dot n v (M x)=dot m (cpv e m v) (cpv e m (M x)):=λv hv x=>he.dot λi _ hi=>by rw[hv i hi]; simp
 constructor
 ·intro h;obtain⟨v,h1,h2,h3,h4⟩:=Sp.ex hgK hw he he' h;have hk:=(hI v).1 h1;refine⟨λc hc=>by rw[<- h4]; exact PB hc,λx hx=>?_⟩;have:=hk.2 (eM x) (heM.lt x hx);rw[hdot v h2,h4]at this;exact this
 ·intro h;obtain⟨ix,hix⟩:=Classical.axiomOfChoice (r:=λx l=>x<n/\G x=g->l<m/\e l=x) λx=>by
   by_cases hx:x<n/\G x=g
   ·obtain⟨l,h1,h2⟩:=he.sur x hx.1 hx.2;exact⟨l,λ_=>⟨h1,h2⟩⟩
   ·exact⟨0,λh=>absurd h hx⟩
  obtain⟨v,hv⟩:∃ v:V,v=λx=>if x<n/\G x=g then y (ix x) else 0:=⟨_,rfl⟩
  have hcp:cpv e m v=y:=by
   funext l
   by_cases hl:l<m
   ·rw[vG hl,hv];have h1:e l<n/\G (e l)=g:=⟨he.lt l hl,he.at_ l hl⟩;show (if e l<n/\G (e l)=g then y (ix (e l)) else 0)=y l;rw[if_pos h1];obtain⟨a1,a2⟩:=hix _ h1;rw[he.inj a1 hl a2]
   ·rw[PB Z,h.1 l Z]
  have hv0:∀ x,G x≠g->v x=0:=λx hx=>by rw[hv]; exact if_neg λq=>hx q.2
  have hk:Ker n k M v:=by
   refine⟨λc hc=>by rw[hv]; exact if_neg λq=>absurd q.1 Z,λx hx=>?_⟩;rw[hdot v hv0,hcp]
   by_cases hγ:γ x=g
   ·obtain⟨j,h1,h2⟩:=heM.sur x hx hγ;rw[<- h2];exact h.2 j h1
   ·have:cpv e m (M x)=λ_=>0:=by
     funext l
     unfold cpv;split
     next hl=> exact hG.at_ hx λq=>hγ (q.symm.trans (he.at_ l hl))
     ·rfl
    rw[this,tF,N0]
  have:=Sp.cp hgK he he' ((hI v).2 hk);rwa[hcp]at this
end
theorem aOV {d n M}(hw:Wd d n M){i}(hi:i<d):KQ (Mr d n M) i=M i:=by
 unfold KQ;rw[aBX M hi];exact bC0 λx hx=>hw i hi x hx
theorem gI.congr {o k n m A J M M'}(h:gI o k n m A J M)(e:∀ i,i<k->M i=M' i):gI o k n m A J M' :=
 ⟨h.ml,λi hi=>by rw[<- e i hi]; exact h.at_ i hi,h.inj⟩
theorem U8 {d n M}(hd:d<=12)(hn:n<=12)(hw:Wd d n M)(hM:Big d n M 1000000000):∃ m A,cV () (Mr d n M,()) []=some (m,A)/\gI 0 d n m A (λi=>i) M:=by
 have hlen:∀ r∈Mr d n M,r.length=n:=λr hr=>by
  obtain⟨i,hi,rfl⟩:=aDX hr;exact pL _ _
 obtain⟨m,A,h1,h2⟩:=aIJ (Mr d n M) (by rw[cN]; omega) Z hlen λr hr a ha=>by
  obtain⟨i,hi,rfl⟩:=aDX hr;have:=aLO (λx hx=>hM i hi x hx) a ha;omega
 rw[cN]at h2;exact⟨m,A,h1,h2.congr λi hi=>aOV hw hi⟩
section
variable {d n:Nat} {B:Nat->V}
theorem p9:(1000000000:Nat)=10^9:=O
theorem p38:4*(24*((10^9)*(10^9)*(10^9)*(10^9)))<=10^38:=R
theorem bF1:4*(24*((10^38)*(10^38)*(10^38)*(10^38)))<=10^154:=R
theorem aH2 {m:List (Nat×Nat×Nat)} {A:List (List ByteArray)} {J:Nat->Nat} (hd:d<=4) (hn:n<=4) (hw:Wd d n B) (hB:Big d n B (10^9)) (h:gI 0 d n m A J B) :
  ∃ m' A' J' K p r,bV () (m,(n:Int),()) A=some (m',A')/\gI d r n m' A' J' K/\r<=n/\Hn r K p/\dG n d B r K/\Wd r n K/\Big r n K (10^38):=by
 have hk:=λ(r:Nat) (K:Nat->V) (p:Nat->Nat) (hH:Hn r K p) (hI:dG n d B r K)=>Y8 (E:=10^9) (D:=9) hn Z hw hB O (oM _) O hH hI
 obtain⟨m',A',J',K,p,r,g1,g2,g3,g4,g5,g6⟩:=aUF (E:=λd=>10^dg 9 d) (T:=λd=>10^(5*dg 9 d+1)) (show d<1048576 by omega) (show n<1048576 by omega) Z h hw hB (show 1<=10^dg 9 0 from Nat.pow_pos O) (a1S (.inl hn) O) λr K p hr hH hI =>
  ⟨λd=>10^dg 38 d,λd=>10^(5*dg 38 d+1),λi hi x _=>oR (hk r K p hH hI i hi x) p38,a1S (.inl Z) O⟩
 exact⟨m',A',J',K,p,r,g1,g2,g3,g4,g5,g6,λi hi x _=>oR (hk r K p g4 g5 i hi x) p38⟩
theorem aQZ {o:Nat} {m:List (Nat×Nat×Nat)} {A:List (List ByteArray)} {J:Nat->Nat} (hd:d<=4) (hn:n<=4) (hw:Wd d n B) (hB:Big d n B (10^38)) (h:gI o d n m A J B) :
  ∃ m' A' J' K p r,bV () (m,(n:Int),()) A=some (m',A')/\gI d r n m' A' J' K/\r<=n/\Hn r K p/\dG n d B r K/\Wd r n K/\Big r n K (10^154):=by
 have hk:=λ(r:Nat) (K:Nat->V) (p:Nat->Nat) (hH:Hn r K p) (hI:dG n d B r K)=>Y8 (E:=10^38) (D:=38) hn Z hw hB (Nat.pow_pos O) (oM _) O hH hI
 obtain⟨m',A',J',K,p,r,g1,g2,g3,g4,g5,g6⟩:=aUF (E:=λd=>10^dg 38 d) (T:=λd=>10^(5*dg 38 d+1)) (show d<1048576 by omega) (show n<1048576 by omega) Z h hw hB (show 1<=10^dg 38 0 from Nat.pow_pos O) (a1S (.inl hn) O) λr K p hr hH hI =>
  ⟨λd=>10^dg 154 d,λd=>10^(5*dg 154 d+1),λi hi x _=>oR (hk r K p hH hI i hi x) bF1,a1S (.inl Z) O⟩
 exact⟨m',A',J',K,p,r,g1,g2,g3,g4,g5,g6,λi hi x _=>oR (hk r K p g4 g5 i hi x) bF1⟩
theorem aED {q:Nat->Nat} (hH:Hn d B q) (hn:n<=4) (hw:Wd d n B) (hB:Big d n B 1000000000) {K:Nat->V} {p:Nat->Nat} {r:Nat} (hK:Hn r K p) (hI:dG n d B r K) (ok:∀ i,i<r->∀ x,x<n->(K i x).natAbs<=1000000000) :
  gV (((n:Int),Mr d n B),())=some (((n:Int),Mr r n K),0,()):=by
 have hd:=(Hn.dR hH hw).1;obtain⟨m,A,a1,a2⟩:=U8 Z Z hw hB;obtain⟨m',A',J',K',p',r',g1,g2,g3,g4,g5,g6,g7⟩:=aH2 Z hn hw (by rw[<- p9]; exact hB) a2;obtain⟨e1,_,e3⟩:=Hn.unique hK g4 λv=>(hI v).trans (g5 v).symm
 subst e1;have g2':=g2.congr (M':=K) λi hi=>(e3 i hi).symm
 have hs:=QR g2' (oM _) Z Z ok (n:Int);rw[List.take_of_length_le (by rw[g2'.len]; exact oM _)]at hs;have e0:eqI 0 0=true:=O
 simp only[gV,QC hH hw Z Z hB,aD,e0,Bool.not_true,oD,a1,g1,hs];rfl
theorem aM6 {q:Nat->Nat} (hH:Hn d B q) (hn:n<=4) (hw:Wd d n B) (hB:Big d n B 1000000000) {K:Nat->V} {r:Nat} (hI:dG n d B r K) {S:Nat->V} {s:Nat->Nat} {t:Nat} (hS:Hn t S s) (hI2:dG n r K t S) (ok:∀ i,i<t->∀ x,x<n->(S i x).natAbs<=1000000000) :
  lZ (((n:Int),Mr d n B),())=some (((n:Int),Mr t n S),0,()):=by
 have hd:=(Hn.dR hH hw).1;obtain⟨m,A,a1,a2⟩:=U8 Z Z hw hB;obtain⟨m',A',J',K',p',r',g1,g2,g3,g4,g5,g6,g7⟩:=aH2 Z hn hw (by rw[<- p9]; exact hB) a2;obtain⟨m2,A2,J2,S',p2,t',b1,b2,b3,b4,b5,b6,b7⟩:=aQZ Z hn g6 g7 g2;have hsame:Same r' K' r K:=λv=>(g5 v).trans (hI v).symm
 obtain⟨e1,_,e3⟩:=Hn.unique hS b4 λv=>(hI2 v).trans ((Ker.same hsame).symm.trans (b5 v).symm)
 subst e1;have g2':=b2.congr (M':=S) λi hi=>(e3 i hi).symm
 have hs:=QR g2' (oM _) Z Z ok (n:Int);rw[List.take_of_length_le (by rw[g2'.len]; exact oM _)]at hs;have e0:eqI 0 0=true:=O
 simp only[lZ,QC hH hw Z Z hB,aD,e0,Bool.not_true,oD,a1,g1,b1,hs];rfl
end
theorem VW {α:Type}(z:α):∀ {a b:List α},a.length=b.length->a≠b->∃ x,x<a.length/\(∀ y,y<x->a.getD y z=b.getD y z)/\a.getD x z≠b.getD x z
 | [],[],_,h=>absurd rfl h
 | [],_::_,h,_=>by simp at h
 | _::_,[],h,_=>by simp at h
 | s::a,t::b,hl,h=>by
  by_cases e:s=t
  ·subst e;obtain⟨x,h1,h2,h3⟩:=VW z (a:=a) (b:=b) (by simpa using hl) (λe=>h (by rw[e]));refine⟨x+1,by simpa using h1,λy hy=>?_,by simpa using h3⟩;cases y with
   | zero=>rfl
   | succ y=>simpa using h2 y Z
  ·exact⟨0,by simp,λy hy=>by omega,by simpa using e⟩
theorem aTS(a b:List Int)(ha:a.length<1048576):dS (a,b,())=some (decide (a=b),()):=by
 by_cases hl:a.length=b.length
 ·have e0:eqI (a.length:Int) (b.length:Int)=true:=by rw[eG]; exact oT Z
  have step:∀ t,t<a.length->∀ c,decide (a.getD t 0=b.getD t 0)=c->fQ (a,b,(a.length:Int),(t:Int),())=(bif c then some (.inl (a,b,(a.length:Int),((t+1:Nat):Int),())) else some (.inr (.inl (false,())))):=λt ht c hc=>by
   have e1:ltI (t:Int) (a.length:Int)=true:=by rw[aE]; exact oT Z
   have e2:aF (t:Int) a.length=true:=by rw[aL]; exact oT Z
   have e3:aF (t:Int) b.length=true:=by rw[aL]; exact oT Z
   have e4:((t:Nat):Int).toNat=t:=oN _;have e5:=bO t Z;simp only[fQ,e1,e2,e3,e4,e5,oC,eG,hc];cases c <;> rfl
  by_cases he:a=b
  ·subst he;have key:=aU (step:=fQ) (N:=2^64) (λt=>(a,a,(a.length:Int),(t:Int),())) a.length (.inr ()) Z (λt ht=>step t ht true R) (by
    have e1:ltI (a.length:Int) (a.length:Int)=false:=by rw[aE]; exact oF Z
    simp only[fQ,e1,oD])
   have key:nP (a,a,(a.length:Int),0,())=_:=key;simp only[dS,e0,Bool.not_true,oD,key,aD,gB,decide_true]
  ·obtain⟨x,h1,h2,h3⟩:=VW 0 hl he;have key:=aU (step:=fQ) (N:=2^64) (λt=>(a,b,(a.length:Int),(t:Int),())) x (.inl (false,())) Z (λt ht=>step t Z true (oT (h2 t ht))) (step x h1 false (oF h3));have key:nP (a,b,(a.length:Int),0,())=_:=key;simp only[dS,e0,Bool.not_true,oD,key,aD,CU,oF he]
 ·have e0:eqI (a.length:Int) (b.length:Int)=false:=by rw[eG]; exact oF Z
  have he:¬ a=b:=λe=>hl (by rw[e])
  simp only[dS,e0,Bool.not_false,oC,oF he]
theorem aWB(a b:List Int)(ha:a.length<1048576):eU (a,b,())=some (decide (a=b),()):=by
 by_cases hl:a.length=b.length
 ·have e0:eqI (a.length:Int) (b.length:Int)=true:=by rw[eG]; exact oT Z
  have step:∀ t,t<a.length->∀ c,decide (a.getD t 0=b.getD t 0)=c->eD (a,b,(a.length:Int),(t:Int),())=(bif c then some (.inl (a,b,(a.length:Int),((t+1:Nat):Int),())) else some (.inr (.inl (false,())))):=λt ht c hc=>by
   have e1:ltI (t:Int) (a.length:Int)=true:=by rw[aE]; exact oT Z
   have e2:aF (t:Int) a.length=true:=by rw[aL]; exact oT Z
   have e3:aF (t:Int) b.length=true:=by rw[aL]; exact oT Z
   have e4:((t:Nat):Int).toNat=t:=oN _;have e5:=bO t Z;simp only[eD,e1,e2,e3,e4,e5,oC,eG,hc];cases c <;> rfl
  by_cases he:a=b
  ·subst he;have key:=aU (step:=eD) (N:=2^64) (λt=>(a,a,(a.length:Int),(t:Int),())) a.length (.inr ()) Z (λt ht=>step t ht true R) (by
    have e1:ltI (a.length:Int) (a.length:Int)=false:=by rw[aE]; exact oF Z
    simp only[eD,e1,oD])
   have key:lI (a,a,(a.length:Int),0,())=_:=key;simp only[eU,e0,Bool.not_true,oD,key,aD,gB,decide_true]
  ·obtain⟨x,h1,h2,h3⟩:=VW 0 hl he;have key:=aU (step:=eD) (N:=2^64) (λt=>(a,b,(a.length:Int),(t:Int),())) x (.inl (false,())) Z (λt ht=>step t Z true (oT (h2 t ht))) (step x h1 false (oF h3));have key:lI (a,b,(a.length:Int),0,())=_:=key;simp only[eU,e0,Bool.not_true,oD,key,aD,CU,oF he]
 ·have e0:eqI (a.length:Int) (b.length:Int)=false:=by rw[eG]; exact oF Z
  have he:¬ a=b:=λe=>hl (by rw[e])
  simp only[eU,e0,Bool.not_false,oC,oF he]
theorem aZ1(a b:List (List Int))(ha:a.length<1048576)(hr:∀ r∈a,r.length<1048576):aZ (a,b,(),())=some (decide (a=b),()):=by
 by_cases hl:a.length=b.length
 ·have e0:eqI (a.length:Int) (b.length:Int)=true:=by rw[eG]; exact oT Z
  have step:∀ t,t<a.length->∀ c,decide (a.getD t []=b.getD t [])=c->aV (b,(),a,(a.length:Int),(t:Int),())=(bif c then some (.inl (b,(),a,(a.length:Int),((t+1:Nat):Int),())) else some (.inr (.inl (false,())))):=λt ht c hc=>by
   have e1:ltI (t:Int) (a.length:Int)=true:=by rw[aE]; exact oT Z
   have e2:aF (t:Int) a.length=true:=by rw[aL]; exact oT Z
   have e3:aF (t:Int) b.length=true:=by rw[aL]; exact oT Z
   have e4:((t:Nat):Int).toNat=t:=oN _;have e5:=bO t Z;have e6:(a.getD t []).length<1048576:=by
    have:a.getD t []=a[t]:=by simp[List.getD,ht]
    rw[this]; exact hr _ (List.getElem_mem ht)
   have e7:=aTS (a.getD t []) (b.getD t []) e6;simp only[aV,e1,e2,e3,e4,e5,oC,aHM,e7,aD,hc]
  by_cases he:a=b
  ·subst he;have key:=aU (step:=aV) (N:=2^64) (λt=>(a,(),a,(a.length:Int),(t:Int),())) a.length (.inr ()) Z (λt ht=>step t ht true R) (by
    have e1:ltI (a.length:Int) (a.length:Int)=false:=by rw[aE]; exact oF Z
    simp only[aV,e1,oD])
   have key:cD (a,(),a,(a.length:Int),0,())=_:=key;simp only[aZ,e0,Bool.not_true,oD,key,aD,gB,decide_true]
  ·obtain⟨x,h1,h2,h3⟩:=VW [] hl he;have key:=aU (step:=aV) (N:=2^64) (λt=>(b,(),a,(a.length:Int),(t:Int),())) x (.inl (false,())) Z (λt ht=>step t Z true (oT (h2 t ht))) (step x h1 false (oF h3));have key:cD (b,(),a,(a.length:Int),0,())=_:=key;simp only[aZ,e0,Bool.not_true,oD,key,aD,CU,oF he]
 ·have e0:eqI (a.length:Int) (b.length:Int)=false:=by rw[eG]; exact oF Z
  have he:¬ a=b:=λe=>hl (by rw[e])
  simp only[aZ,e0,Bool.not_false,oC,oF he]
theorem aZ3(a b:List (List Int))(ha:a.length<1048576)(hr:∀ r∈a,r.length<1048576):bE (a,b,(),())=some (decide (a=b),()):=by
 by_cases hl:a.length=b.length
 ·have e0:eqI (a.length:Int) (b.length:Int)=true:=by rw[eG]; exact oT Z
  have step:∀ t,t<a.length->∀ c,decide (a.getD t []=b.getD t [])=c->aT (b,(),a,(a.length:Int),(t:Int),())=(bif c then some (.inl (b,(),a,(a.length:Int),((t+1:Nat):Int),())) else some (.inr (.inl (false,())))):=λt ht c hc=>by
   have e1:ltI (t:Int) (a.length:Int)=true:=by rw[aE]; exact oT Z
   have e2:aF (t:Int) a.length=true:=by rw[aL]; exact oT Z
   have e3:aF (t:Int) b.length=true:=by rw[aL]; exact oT Z
   have e4:((t:Nat):Int).toNat=t:=oN _;have e5:=bO t Z;have e6:(a.getD t []).length<1048576:=by
    have:a.getD t []=a[t]:=by simp[List.getD,ht]
    rw[this]; exact hr _ (List.getElem_mem ht)
   have e7:=aTS (a.getD t []) (b.getD t []) e6;simp only[aT,e1,e2,e3,e4,e5,oC,KC,e7,aD,hc]
  by_cases he:a=b
  ·subst he;have key:=aU (step:=aT) (N:=2^64) (λt=>(a,(),a,(a.length:Int),(t:Int),())) a.length (.inr ()) Z (λt ht=>step t ht true R) (by
    have e1:ltI (a.length:Int) (a.length:Int)=false:=by rw[aE]; exact oF Z
    simp only[aT,e1,oD])
   have key:cC (a,(),a,(a.length:Int),0,())=_:=key;simp only[bE,e0,Bool.not_true,oD,key,aD,gB,decide_true]
  ·obtain⟨x,h1,h2,h3⟩:=VW [] hl he;have key:=aU (step:=aT) (N:=2^64) (λt=>(b,(),a,(a.length:Int),(t:Int),())) x (.inl (false,())) Z (λt ht=>step t Z true (oT (h2 t ht))) (step x h1 false (oF h3));have key:cC (b,(),a,(a.length:Int),0,())=_:=key;simp only[bE,e0,Bool.not_true,oD,key,aD,CU,oF he]
 ·have e0:eqI (a.length:Int) (b.length:Int)=false:=by rw[eG]; exact oF Z
  have he:¬ a=b:=λe=>hl (by rw[e])
  simp only[bE,e0,Bool.not_false,oC,oF he]
theorem aGP(n n':Int)(a b:List (List Int))(ha:a.length<1048576)(hr:∀ r∈a,r.length<1048576):H7 ((n,a),(n',b),())=some (decide (n=n')&&decide (a=b),()):=by
 by_cases h:n=n'
 ·subst h;have e0:eqI n n=true:=by rw[eG]; exact oT rfl
  simp only[H7,e0,oC,aZ1 a b ha hr,aD,decide_true,Bool.true_and]
 ·have e0:eqI n n'=false:=by rw[eG]; exact oF h
  simp only[H7,e0,oD,h,decide_false,Bool.false_and]
theorem a4H(a b:List (List Int))(ha:a.length<1048576)(hr:∀ r∈a,r.length<1048576):GJ (a,b,())=some (decide (a=b),()):=by simp only[GJ,aZ3 a b ha hr,aD]
end Go.PM
namespace Go.Lz
theorem dG.back {n m k k2:Nat}{A K K2:Nat->V}(hA:∀ i,i<m->∀ c,n<=c->A i c=0)(h1:dG n m A k K)(h2:dG n k K k2 K2):dG n k2 K2 k K:=by
 intro y;rw[h1];constructor
 ·intro g;refine⟨g.1,λx hx=>?_⟩;have:=((h2 _).1 (Sp.mem hx));rw[tF];exact this.span ((h1 y).2 g)
 ·rintro⟨g1,g2⟩;refine⟨g1,λx hx=>?_⟩;have:Sp k2 K2 (A x):=(h2 _).2 ⟨hA x hx,λz hz=>by rw[tF]; exact((h1 _).1 (Sp.mem hz)).2 x hx⟩;exact Ker.span ⟨g1,g2⟩ this
theorem dG.of_same {n m m' k:Nat}{A A' K:Nat->V}(h:Same m A m' A')(h1:dG n m A k K):dG n m' A' k K:=λy=>(h1 y).trans (Ker.same h)
end Go.Lz
namespace Go.PM
open Go Go.RowKit Go.Proofs Go.Lz
structure RT (ps:List Int) (n d r:Nat) (C K:Nat->V):Prop where
 pr:aS (ps,())=some (0,())
 len:ps.length=n
 n4:n<=4
 hc:∃ q,Hn d C q
 hk:∃ p,Hn r K p
 wc:Wd d n C
 wk:Wd r n K
 bc:Big d n C 1000000000
 bk:Big r n K 1000000000
 ker:dG n d C r K
 ker2:dG n r K d C
theorem a9I {d n:Nat}{M:Nat->V}(hn:n<=4):∀ r∈Mr d n M,r.length<1048576:=λr hr=>by
 obtain⟨i,_,rfl⟩:=aDX hr;rw[pL]; omega
theorem RT.check {ps:List Int}{n d r:Nat}{C K:Nat->V}(h:RT ps n d r C K):iH ((ps,(Mr d n C,Mr r n K)),())=some (0,()):=by
 obtain⟨q,hc⟩:=h.hc;obtain⟨p,hk⟩:=h.hk;have n4:=h.n4;have d4:=(Hn.dR hc h.wc).1;have r4:=(Hn.dR hk h.wk).1;have e0:eqI 0 0=true:=O
 have e1:((ps.length:Nat):Int)=(n:Int):=by rw[h.len]
 have s1:=aM6 hc n4 h.wc h.bc h.ker hc h.ker2 h.bc;have s2:=aED hc n4 h.wc h.bc hk h.ker h.bk;have s3:=QC hc h.wc Z Z h.bc;have s4:=aGP (n:Int) (n:Int) (Mr d n C) (Mr d n C) (by rw[cN]; omega) (a9I n4);have s5:=a4H (Mr r n K) (Mr r n K) (by rw[cN]; omega) (a9I n4);simp only[decide_true,Bool.and_self]at s4 s5;simp only[iH,h.pr,aD,e0,Bool.not_true,oD,e1,s3,s1,s4,oC,s2,s5]
section
variable {o k n d r t:Nat} {m:List (Nat×Nat×Nat)} {A:List (List ByteArray)} {J:Nat->Nat} {M B K S:Nat->V} {p q s:Nat->Nat} {G γ:Nat->Nat}
theorem aNI {D:Nat} (hk:k<1048576) (hn:n<1048576) (hG:Gr G γ k M) (hK:∀ g,cnt γ g k<=4) (hw:Wd k n M) (hE:Big k n M (10^D)) (hD:D<=153):∃ d H p,d<=k/\Hn d H p/\Same k M d H/\Wd d n H:=by
 have hL:gI 0 k n ((List.range k).map λc=>(c,0,n)) ((List.range k).map λc=>Zr n (M c)) (λc=>c) M :=
  ⟨rfl,λi hi=>⟨[],rfl,by rw[List.getElem?_map,List.getElem?_range hi]; rfl⟩,λi j _ _ e=>e⟩
 obtain⟨m',A',J',H,d,p,_,g2,g3,g4,g5,g6⟩:=aQ3 hk hn hL hw hG hK hE (a9E hD);exact⟨d,H,p,g2,g4,g5,λi hi x hx=>g6 i Z x hx⟩
theorem aVO {D:Nat}(hk:k<1048000)(hn:n<=12)(hG:Gr G γ k M)(hc:∀ g,cnt G g n<=4)(hw:Wd k n M)(hE:Big k n M (10^D))(hD:D<=153):∃ r K p,r<=n/\Hn r K p/\dG n k M r K/\Wd r n K:=by
 obtain⟨f,W,q,g1,g2,g3,g4⟩:=aNI (k:=n) (n:=k+n) (M:=wide n k M) Z Z (hG.wide n) hc hw.wide (hE.wide (Nat.pow_pos O)) hD;obtain⟨j,b1,b2,b3⟩:=Hn.split g2 k;obtain⟨c1,c2⟩:=Q3 g2 g3 b1 b2 b3;exact⟨f-j,_,_,by omega,c1,c2,λi hi x hx=>c2.width hi x hx⟩
theorem a4B(rows:List (List Int)){n:Nat}(hlen:∀ r∈rows,r.length=n):Wd rows.length n (KQ rows):=λi hi x hx=>by
 have h1:=hlen _ (List.getElem_mem hi);have h2:KQ rows i=aDY rows[i]:=by unfold KQ; simp[List.getD,hi]
 rw[h2]; unfold aDY;simp[List.getD,List.getElem?_eq_none (show rows[i].length<=x by omega)]
theorem a7Q(rows:List (List Int)){n E:Nat}(hlen:∀ r∈rows,r.length=n)(hr:∀ r∈rows,∀ a∈r,a.natAbs<=E):Big rows.length n (KQ rows) E:=λi hi x hx=>by
 have h1:=hlen _ (List.getElem_mem hi);have h2:KQ rows i=aDY rows[i]:=by unfold KQ; simp[List.getD,hi]
 rw[h2]; unfold aDY;have:rows[i].getD x 0=rows[i][x]' Z:=by simp[List.getD,show x<rows[i].length by omega]
 rw[this];exact hr _ (List.getElem_mem hi) _ (List.getElem_mem _)
theorem bF2(rows:List (List Int)) (hk:rows.length<=12) (hn:n<=12) (hlen:∀ r∈rows,r.length=n) (hr:∀ r∈rows,∀ a∈r,a.natAbs<=1000000000) (hG:Gr G γ rows.length (KQ rows)) (hK:∀ g,cnt γ g rows.length<=4)
  (hM:Hn d M p) (hsm:Same rows.length (KQ rows) d M) (bM:Big d n M 1000000000):vK ((n:Int),rows,())=some (((n:Int),Mr d n M),0,()):=by
 obtain⟨m,A,h1,h2⟩:=aIJ rows (n:=n) Z Z hlen (λr h a ha=>by have:=hr r h a ha; omega);obtain⟨m',A',J',M',d',p',g1,g2,g3,g4,g5,g6⟩:=aQ3 Z Z h2 (a4B rows hlen) hG hK (a7Q rows hlen (E:=10^dg 9 0) (by rw[show (10^dg 9 0:Nat)=1000000000 by decide]; exact hr)) (a9E (D:=9) O);obtain⟨f1,_,f3⟩:=Hn.unique hM g4 (hsm.symm.trans g5);subst f1;have e0:eqI 0 0=true:=O
 have hf:∀ i,i<d->∀ x,x<n->(M' i x).natAbs<=1000000000:=λi hi x hx=>by rw[<- f3 i hi]; exact bM i hi x hx
 have e2:(List.range d).map (λi=>Vr n (M' i))=Mr d n M:=by
  refine List.map_congr_left λi hi=>?_
  rw[f3 i (List.mem_range.1 hi)]
 simp only[vK,aO3 rows hk hn hlen hr,aD,e0,Bool.not_true,oD,h1,g1,QR g3 g2 Z Z hf (n:Int),e2]
theorem aP7(hd:d<=12) (hn:n<=12) (hG:Gr G γ d B) (hc:∀ g,cnt G g n<=4) (hw:Wd d n B) (hB:Big d n B 1000000000) (h:gI o d n m A J B) (hK:Hn r K p) (hI:dG n d B r K) (bK:Big r n K 1000000000) :
  ∃ m' A' J',bV () (m,(n:Int),()) A=some (m',A')/\gI d r n m' A' J' K:=by
 obtain⟨m',A',J',K',p',r',g1,g2,g3,g4,g5,g6⟩:=a8D (D:=9) Z Z Z h hw hG hc (by rw[<- p9]; exact hB) O λr2 K2 p2 _ hH2 hI2=>by
  obtain⟨e1,_,e3⟩:=Hn.unique hK hH2 λv=>(hI v).trans (hI2 v).symm
  subst e1;exact⟨9,by decide,λi hi x hx=>by rw[<- e3 i hi,<- p9]; exact bK i hi x hx⟩
 obtain⟨e1,_,e3⟩:=Hn.unique hK g4 λv=>(hI v).trans (g5 v).symm
 subst e1;exact⟨m',A',J',g1,g2.congr (M':=K) λi hi=>(e3 i hi).symm⟩
theorem aGA(hH:Hn d B q) (hn:n<=12) (hG:Gr G γ d B) (hc:∀ g,cnt G g n<=4) (hw:Wd d n B) (hB:Big d n B 1000000000) (hK:Hn r K p) (hI:dG n d B r K) (bK:Big r n K 1000000000) :
  gV (((n:Int),Mr d n B),())=some (((n:Int),Mr r n K),0,()):=by
 have hd:=(Hn.dR hH hw).1;obtain⟨m,A,a1,a2⟩:=U8 Z hn hw hB;obtain⟨m',A',J',g1,g2⟩:=aP7 Z hn hG hc hw hB a2 hK hI bK;have hr:=(Hn.dR hK λi hi x hx=>hI.width hi x hx).1;have hs:=QR g2 (oM _) Z Z bK (n:Int);rw[List.take_of_length_le (by rw[g2.len]; exact oM _)]at hs;have e0:eqI 0 0=true:=O
 simp only[gV,QC hH hw Z hn hB,aD,e0,Bool.not_true,oD,a1,g1,hs];rfl
theorem aRL(hH:Hn d B q) (hn:n<=12) (hG:Gr G γ d B) (hc:∀ g,cnt G g n<=4) (hw:Wd d n B) (hB:Big d n B 1000000000) (hK:Hn r K p) (hI:dG n d B r K) (bK:Big r n K 1000000000) (hS:Hn t S s) (hI2:dG n r K t S) (bS:Big t n S 1000000000) :
  lZ (((n:Int),Mr d n B),())=some (((n:Int),Mr t n S),0,()):=by
 have hd:=(Hn.dR hH hw).1;have wK:Wd r n K:=λi hi x hx=>hI.width hi x hx
 have hr:=(Hn.dR hK wK).1;have ht:=(Hn.dR hS λi hi x hx=>hI2.width hi x hx).1;obtain⟨m,A,a1,a2⟩:=U8 Z hn hw hB;obtain⟨m',A',J',g1,g2⟩:=aP7 Z hn hG hc hw hB a2 hK hI bK;obtain⟨m2,A2,J2,b1,b2⟩:=aP7 Z hn (dG.grp hG hI hK) hc wK bK g2 hS hI2 bS;have hs:=QR b2 (oM _) Z Z bS (n:Int);rw[List.take_of_length_le (by rw[b2.len]; exact oM _)]at hs;have e0:eqI 0 0=true:=O
 simp only[lZ,QC hH hw Z hn hB,aD,e0,Bool.not_true,oD,a1,g1,b1,hs];rfl
structure RG (ps:List Int) (n d r:Nat) (G γ:Nat->Nat) (C K:Nat->V):Prop where
 pr:aS (ps,())=some (0,())
 len:ps.length=n
 n12:n<=12
 gc:Gr G γ d C
 four:∀ g,cnt G g n<=4
 hc:∃ q,Hn d C q
 hk:∃ p,Hn r K p
 wc:Wd d n C
 wk:Wd r n K
 bc:Big d n C 1000000000
 bk:Big r n K 1000000000
 ker:dG n d C r K
 ker2:dG n r K d C
theorem aOL {d n:Nat}{M:Nat->V}(hn:n<=12):∀ r∈Mr d n M,r.length<1048576:=λr hr=>by
 obtain⟨i,_,rfl⟩:=aDX hr;rw[pL]; omega
theorem RG.check {ps:List Int}{C:Nat->V}(h:RG ps n d r G γ C K):iH ((ps,(Mr d n C,Mr r n K)),())=some (0,()):=by
 obtain⟨q,hc⟩:=h.hc;obtain⟨p,hk⟩:=h.hk;have n4:=h.n12;have d4:=(Hn.dR hc h.wc).1;have r4:=(Hn.dR hk h.wk).1;have e0:eqI 0 0=true:=O
 have e1:((ps.length:Nat):Int)=(n:Int):=by rw[h.len]
 have s1:=aRL hc n4 h.gc h.four h.wc h.bc hk h.ker h.bk hc h.ker2 h.bc;have s2:=aGA hc n4 h.gc h.four h.wc h.bc hk h.ker h.bk;have s3:=QC hc h.wc Z Z h.bc;have s4:=aGP (n:Int) (n:Int) (Mr d n C) (Mr d n C) (by rw[cN]; omega) (aOL n4);have s5:=a4H (Mr r n K) (Mr r n K) (by rw[cN]; omega) (aOL n4);simp only[decide_true,Bool.and_self]at s4 s5;simp only[iH,h.pr,aD,e0,Bool.not_true,oD,e1,s3,s1,s4,oC,s2,s5]
end
end Go.PM
namespace Go.Lz
theorem a1M(a b:V):∀ n,sm (λx=>a x*b x) n=dot n a b
 | 0=>rfl
 | n+1=>by
  show sm _ n+_=dot n a b+_;rw[a1M a b n]
theorem M5(x:Nat):un x x=1:=by simp[un]
theorem E9 {x c:Nat}(h:c≠x):un x c=0:=by simp[un,h]
theorem bDL(x c:Nat):un x c=un c x:=by
 by_cases h:c=x
 ·subst h; rfl
 ·rw[E9 h,E9 (Ne.symm h)]
theorem bDR {n:Nat}{v:V}(h:∀ x,n<=x->v x=0):Sp n un v:=by
 have:=Sp.sm (k:=n) (M:=un) (w:=un) (s:=v) (n:=n) λj hj=>Sp.mem hj
 refine cast (congrArg _ ?_) this
 funext x
 by_cases hx:x<n
 ·rw[YK hx λi hi hne=>by rw[E9 (Ne.symm hne),Int.mul_zero],M5,Int.mul_one]
 ·rw[h x Z,QA λi hi=>by rw[E9 Z,Int.mul_zero]]
theorem bEH(n:Nat):Ind n un:=λc hc i hi=>by
 have:=hc i;rw[YK hi λl hl hne=>by rw[E9 (Ne.symm hne),Int.mul_zero],M5,Int.mul_one]at this;exact this
theorem aYM {v:V}:∀ {n:Nat},0<=dot n v v/\(dot n v v=0->∀ x,x<n->v x=0)
 | 0=>⟨Int.le_refl _,λ_ x hx=>by omega⟩
 | n+1=>by
  have h1:=aYM (v:=v) (n:=n);have h2:0<=v n*v n:=by
   rcases(by omega:0<=v n\/v n<=0)with g|g
   ·exact Int.mul_nonneg g g
   ·exact Int.mul_nonneg_of_nonpos_of_nonpos g g
  refine⟨by show 0<=dot n v v+v n*v n; omega,λh x hx=>?_⟩;have h:dot n v v+v n*v n=0:=h
  by_cases e:x=n
  ·subst e;have:v x*v x=0:=Z
   rcases Int.mul_eq_zero.1 this with g|g <;> exact g
  ·exact h1.2 Z x Z
def yO(k:Nat) (M M':Nat->V):Nat->V:=λi=>if i<k then M i else M' (i-k)
theorem NW {k i:Nat}(M M':Nat->V)(h:i<k):yO k M M' i=M i:=by simp[yO,h]
theorem aOT {k i:Nat}(M M':Nat->V):yO k M M' (k+i)=M' i:=by
 have:¬ k+i<k:=Z
 simp only[yO,this,if_false]
 congr 1; omega
theorem aLJ {k k':Nat}{M M':Nat->V}{v:V}(h:Sp k M v):Sp (k+k') (yO k M M') v :=
 Sp.trans (λj hj=>by rw[<- NW M M' hj]; exact Sp.mem Z) h
theorem aG8 {k k':Nat}{M M':Nat->V}{v:V}(h:Sp k' M' v):Sp (k+k') (yO k M M') v :=
 Sp.trans (λj hj=>by rw[<- aOT M M']; exact Sp.mem Z) h
theorem aXI(f:Nat->Int)(k:Nat):∀ k',sm f (k+k')=sm f k+sm (λi=>f (k+i)) k'
 | 0=>by simp[sm]
 | k'+1=>by
  show sm f (k+k')+f (k+k')=_;rw[aXI f k k',sm]; omega
theorem a11 {k k':Nat}{M M':Nat->V}{v:V}(h:Sp (k+k') (yO k M M') v):∃ a b,Sp k M a/\Sp k' M' b/\v=λx=>a x+b x:=by
 induction h with
 | zero=>exact⟨_,_,.zero,.zero,by funext x; simp⟩
 | add j t hj _ ih =>
  obtain⟨a,b,ha,hb,rfl⟩:=ih
  by_cases hk:j<k
  ·refine⟨_,b,Sp.comb t ha (Sp.mem hk),hb,?_⟩
   funext x
   rw[NW M M' hk];show a x+b x+t*M j x=a x+t*M j x+b x;omega
  ·refine⟨a,_,ha,Sp.comb t hb (Sp.mem (j:=j-k) Z),?_⟩
   funext x
   have:yO k M M' j=M' (j-k):=by simp[yO,hk]
   rw[this];show a x+b x+t*M' (j-k) x=a x+(b x+t*M' (j-k) x);omega
structure Dw (n k:Nat) (M:Nat->V) (d:Nat) (p:Nat->Nat) (D:Int) (w:Nat->V) (W:Nat):Prop where
 D0:D≠0
 DW:D.natAbs<=W
 mem:∀ j,j<d->Sp k M (w j)
 at_:∀ j,j<d->w j (p j)=D
 off:∀ i j,i<d->j<d->i≠j->w j (p i)=0
 le:∀ j,j<d->∀ x,(w j x).natAbs<=W
 lt:∀ j,j<d->p j<n
 wide:∀ i,i<k->∀ x,n<=x->M i x=0
 full:∀ v,Sp k M v->(∀ l,l<d->v (p l)=0)->v=λ_=>0
theorem Dw.of {n k d W:Nat} {M:Nat->V} {p:Nat->Nat} (h:∃ (D:Int) (w:Nat->V),D≠0/\D.natAbs<=W/\∀ j,j<d->Sp k M (w j)/\w j (p j)=D/\(∀ i,i<d->i≠j->w j (p i)=0)/\∀ x,(w j x).natAbs<=W)
  (lt:∀ j,j<d->p j<n) (wide:∀ i,i<k->∀ x,n<=x->M i x=0) (full:∀ v,Sp k M v->(∀ l,l<d->v (p l)=0)->v=λ_=>0):∃ D w,Dw n k M d p D w W:=by
 obtain⟨D,w,h1,h2,h3⟩:=h;exact⟨D,w,h1,h2,λj hj=>(h3 j hj).1,λj hj=>(h3 j hj).2.1,λi j hi hj hne=>(h3 j hj).2.2.1 i hi hne,λj hj=>(h3 j hj).2.2.2,lt,wide,full⟩
def kx(D:Int) (w:Nat->V) (d:Nat) (p:Nat->Nat) (x:Nat):V:=λc=>sm (λj=>-(w j x)*un (p j) c) d+D*un x c
section
variable {n k d W:Nat} {M:Nat->V} {p:Nat->Nat} {D:Int} {w:Nat->V}
theorem Dw.inj (h:Dw n k M d p D w W){i j:Nat}(hi:i<d)(hj:j<d)(e:p i=p j):i=j :=
 Classical.byContradiction λhn=>h.D0 (by rw[<- h.at_ j hj,<- e]; exact h.off i j hi hj hn)
theorem Dw.comb (h:Dw n k M d p D w W){b:V}(hb:Sp k M b)(x:Nat):D*b x=sm (λj=>b (p j)*w j x) d:=by
 have hz:=h.full (λy=>D*b y-sm (λj=>b (p j)*w j y) d) (Sp.sub (Sp.smul D hb) (Sp.sm λj hj=>h.mem j hj)) λl hl=>by
  rw[YK (f:=λj=>b (p j)*w j (p l)) hl λj hj hne=>by rw[h.off l j hl hj (Ne.symm hne),Int.mul_zero],h.at_ l hl];grind
 have:=congrFun hz x;have:D*b x-sm (λj=>b (p j)*w j x) d=0:=this;omega
theorem Dw.bFE (h:Dw n k M d p D w W){x:Nat}(hx:x<n)(b:V):dot n (kx D w d p x) b=D*b x-sm (λj=>b (p j)*w j x) d:=by
 show dot n (λc=>sm (λj=>-(w j x)*un (p j) c) d+D*un x c) b=_;rw[N3,aU2,(aDC b).1 hx];have:sm (λj=>-(w j x)*dot n (un (p j)) b) d = -(sm (λj=>b (p j)*w j x) d):=by
  rw[<- Int.neg_one_mul,<- aVC];refine CN λj hj=>?_
  rw[(aDC b).1 (h.lt j hj)];grind
 rw[this];omega
theorem Dw.a1V (h:Dw n k M d p D w W){x:Nat}(hx:x<n):Ker n k M (kx D w d p x):=by
 refine⟨λc hc=>?_,λi hi=>?_⟩
 ·show sm (λj=>-(w j x)*un (p j) c) d+D*un x c=0;rw[QA λj hj=>by rw[E9 (by have:=h.lt j hj; omega),Int.mul_zero],E9 Z,Int.mul_zero];rfl
 ·rw[h.bFE hx,h.comb (Sp.mem hi) x]; omega
theorem Dw.aWC (h:Dw n k M d p D w W){x c:Nat}(hc:∀ j,j<d->p j≠c):kx D w d p x c=D*un x c:=by
 show sm (λj=>-(w j x)*un (p j) c) d+D*un x c=_;rw[QA λj hj=>by rw[E9 (Ne.symm (hc j hj)),Int.mul_zero],Int.zero_add]
theorem Dw.bDU (h:Dw n k M d p D w W){x j:Nat}(hj:j<d):kx D w d p x (p j) = -(w j x)+D*un x (p j):=by
 show sm (λj'=>-(w j' x)*un (p j') (p j)) d+D*un x (p j)=_;rw[YK hj λl hl hne=>by rw[E9 (λe=>hne (h.inj hl hj e.symm)),Int.mul_zero],M5,Int.mul_one]
theorem Dw.bBN (h:Dw n k M d p D w W){i:Nat}(hi:i<d)(c:Nat):kx D w d p (p i) c=0:=by
 by_cases hc:∃ j,j<d/\p j=c
 ·obtain⟨j,hj,rfl⟩:=hc;rw[h.bDU hj]
  by_cases e:i=j
  ·subst e;rw[h.at_ i hi,M5]; omega
  ·rw[h.off i j hi hj e,E9 (λe'=>e (h.inj hi hj e'.symm))]; omega
 ·have hc:∀ j,j<d->p j≠c:=λj hj e=>hc ⟨j,hj,e⟩
  rw[h.aWC hc,E9 (Ne.symm (hc i hi)),Int.mul_zero]
theorem Dw.bDW (h:Dw n k M d p D w W)(x c:Nat):(kx D w d p x c).natAbs<=W:=by
 by_cases hp:∃ i,i<d/\p i=x
 ·obtain⟨i,hi,rfl⟩:=hp;rw[h.bBN hi]; simp
 ·have hp:∀ i,i<d->p i≠x:=λi hi e=>hp ⟨i,hi,e⟩
  by_cases hc:∃ j,j<d/\p j=c
  ·obtain⟨j,hj,rfl⟩:=hc;rw[h.bDU hj,E9 (hp j hj)];have:=h.le j hj x;omega
  ·have hc:∀ j,j<d->p j≠c:=λj hj e=>hc ⟨j,hj,e⟩
   rw[h.aWC hc];have:=h.DW
   by_cases e:c=x
   ·subst e; rw[M5]; omega
   ·rw[E9 e]; omega
theorem Dw.bCT (h:Dw n k M d p D w W){y:V}(hy:Ker n k M y):Sp n (kx D w d p) (λc=>D*y c):=by
 have:=Sp.sm (k:=n) (M:=kx D w d p) (w:=kx D w d p) (s:=y) (n:=n) λj hj=>Sp.mem hj
 refine cast (congrArg _ ?_) this
 funext c
 have e1:sm (λx=>y x*kx D w d p x c) n=dot n (λx=>sm (λj=>-(un (p j) c)*w j x) d+D*un c x) y:=by
  rw[tF,<- a1M];refine CN λx _=>?_
  congr 1
  show sm (λj=>-(w j x)*un (p j) c) d+D*un x c=_;rw[bDL x c]
  congr 1
  exact CN λj _=>zf
 rw[e1,N3,aU2,QA λj hj=>by rw[tF,hy.span (h.mem j hj),Int.mul_zero]]
 by_cases hc:c<n
 ·rw[(aDC y).1 hc]; omega
 ·rw[(aDC y).2 Z,hy.1 c Z]; omega
theorem Dw.aLQ (h:Dw n k M d p D w W) {t:Nat} {K:Nat->V} (hK:Ind t K) (hI:dG n k M t K):t+d=n:=by
 have h1:n<=t+d:=by
  refine Ind.aLQ (M:=yO t K λj=>un (p j)) (bEH n) λx hx=>⟨D,h.D0,?_⟩
  have a1:=aLJ (k':=d) (M':=λj=>un (p j)) ((hI _).2 (h.a1V hx));have a2:=aG8 (k:=t) (M:=K) (Sp.sm (k:=d) (M:=λj=>un (p j)) (w:=λj=>un (p j)) (s:=λj=>w j x) (n:=d) λj hj=>Sp.mem hj);have:=Sp.sum a1 a2;refine cast (congrArg _ ?_) this
  funext c
  show (sm (λj=>-(w j x)*un (p j) c) d+D*un x c)+_=_;have e:sm (λj=>-(w j x)*un (p j) c) d = -(sm (λj=>w j x*un (p j) c) d):=by
   rw[<- Int.neg_one_mul,<- aVC];exact CN λj _=>zf
  rw[e]; omega
 have h2:t+d<=n:=by
  have hi:Ind (t+d) (yO t K w):=λc hc=>by
   have e1:∀ x,sm (λi=>c i*K i x) t+sm (λj=>c (t+j)*w j x) d=0:=λx=>by
    have:=hc x;rw[aXI]at this;rw[<- this]
    congr 1
    ·exact CN λi hi=>by rw[NW K w hi]
    ·exact CN λi hi=>by simp only[aOT K w]
   have s1:Sp t K (λx=>sm (λi=>c i*K i x) t):=Sp.sm λj hj=>Sp.mem hj
   have s2:Sp k M (λx=>sm (λj=>c (t+j)*w j x) d):=Sp.sm λj hj=>h.mem j hj
   have s3:(λx=>sm (λi=>c i*K i x) t)=λx=>-(sm (λj=>c (t+j)*w j x) d):=by funext x; have:=e1 x; omega
   have s4:=((hI _).1 s1);have s5:=s4.span s2;rw[s3]at s5;have s6:dot n (λx=>sm (λj=>c (t+j)*w j x) d) (λx=>sm (λj=>c (t+j)*w j x) d)=0:=by
    have:=N3 (λ_=>0) (λx=>sm (λj=>c (t+j)*w j x) d) (λx=>sm (λj=>c (t+j)*w j x) d) (-1) n;rw[N0]at this;have e:(λi=>(0:Int) + -1*sm (λj=>c (t+j)*w j i) d)=λx=>-(sm (λj=>c (t+j)*w j x) d):=by funext x; omega
    rw[e,s5]at this;omega
   have s7:=aYM.2 s6;have s8:∀ x,sm (λj=>c (t+j)*w j x) d=0:=λx=>by
    rcases Nat.lt_or_ge x n with hx|hx
    ·exact s7 x hx
    ·exact Sp.iA (λj hj=>h.wide j hj x hx) s2
   intro i hi
   by_cases hit:i<t
   ·exact hK c (λx=>by have:=e1 x; have:=s8 x; omega) i hit
   ·have:=s8 (p (i-t));rw[YK (j:=i-t) Z λl hl hne=>by rw[h.off (i-t) l Z hl (Ne.symm hne),Int.mul_zero],h.at_ _ Z]at this;have e:t+(i-t)=i:=Z
    rw[e]at this;rcases Int.mul_eq_zero.1 this with g|g
    ·exact g
    ·exact absurd g h.D0
  refine Ind.aLQ (M:=un) hi λi hi=>⟨1,by decide,?_⟩
  simp only[Int.one_mul];refine bDR λx hx=>?_
  by_cases hit:i<t
  ·rw[NW K w hit]; exact hI.width hit x hx
  ·have e:i=t+(i-t):=Z
   rw[e,aOT K w];exact Sp.iA (λj hj=>h.wide j hj x hx) (h.mem _ Z)
 omega
end
theorem a4U:∀ (n t:Nat) (c:Nat->Nat),(∀ i j,i<j->j<t->c i<c j)->(∀ i,i<t->c i<n)->t<=n/\∃ q:Nat->Nat,(∀ l,l<n-t->q l<n/\∀ i,i<t->c i≠q l)/\(∀ x,x<n->(∃ i,i<t/\c i=x)\/∃ l,l<n-t/\q l=x)/\∀ l m,l<m->m<n-t->q l<q m
 | 0,t,c,h1,h2=>by
  have:t=0:=by
   rcases Nat.eq_zero_or_pos t with h|h
   ·exact h
   ·have:=h2 0 h; omega
  subst this;exact⟨Nat.le_refl _,λ_=>0,λl hl=>by omega,λx hx=>by omega,λl m h1 h2=>by omega⟩
 | n+1,t,c,h1,h2=>by
  by_cases hc:∃ i,i<t/\c i=n
  ·obtain⟨i,hi,hn⟩:=hc;have hit:i=t-1:=by
    rcases Nat.lt_or_ge i (t-1)with g|g
    ·have a1:=h1 i (t-1) g Z;have a2:=h2 (t-1) Z;omega
    ·omega
   obtain⟨b0,q,b1,b2,b3⟩:=a4U n (t-1) c (λa b hab hb=>h1 a b hab Z) λa ha=>by
    have:=h1 a i Z hi;omega
   have e:n+1-t=n-(t-1):=Z
   refine⟨by omega,q,λl hl=>⟨by have:=(b1 l Z).1; omega,λa ha=>?_⟩,λx hx=>?_,λl m g1 g2=>b3 l m g1 Z⟩
   ·by_cases ea:a=i
    ·subst ea;have:=(b1 l Z).1;omega
    ·exact(b1 l Z).2 a Z
   ·by_cases ex:x=n
    ·exact .inl ⟨i,hi,by omega⟩
    ·rcases b2 x Z with ⟨a,g1,g2⟩|⟨l,g1,g2⟩
     ·exact .inl ⟨a,by omega,g2⟩
     ·exact .inr ⟨l,by omega,g2⟩
  ·have hc:∀ i,i<t->c i≠n:=λi hi e=>hc ⟨i,hi,e⟩
   obtain⟨b0,q,b1,b2,b3⟩:=a4U n t c h1 λa ha=>by
    have:=h2 a ha;have:=hc a ha;omega
   refine⟨by omega,λl=>if l<n-t then q l else n,λl hl=>?_,λx hx=>?_,λl m g1 g2=>?_⟩
   ·by_cases g:l<n-t
    ·simp only[g,if_true];exact⟨by have:=(b1 l g).1; omega,(b1 l g).2⟩
    ·simp only[g,if_false];exact⟨by omega,hc⟩
   ·by_cases ex:x=n
    ·refine .inr ⟨n-t,by omega,?_⟩;have:¬ n-t<n-t:=Z
     simp only[this,if_false,ex]
    ·rcases b2 x Z with ⟨a,g1,g2⟩|⟨l,g1,g2⟩
     ·exact .inl ⟨a,by omega,g2⟩
     ·exact .inr ⟨l,by omega,by simp only[g1,if_true]; exact g2⟩
   ·have g3:l<n-t:=Z
    simp only[g3,if_true]
    by_cases g:m<n-t
    ·simp only[g,if_true]; exact b3 l m g1 g
    ·simp only[g,if_false]; exact(b1 l g3).1
theorem a9Z {d:Nat} {H:Nat->V} {q:Nat->Nat} (hH:Ind d H) (full:∀ v,Sp d H v->(∀ l,l<d->v (q l)=0)->v=λ_=>0) {i:Nat} (hi:i<d):∃ u,Sp d H u/\(∀ l,l<d->l≠i->u (q l)=0)/\u (q i)≠0:=by
 obtain⟨d,rfl⟩:∃ e,d=e+1:=⟨d-1,by omega⟩;obtain⟨c,⟨i0,hi0,hc0⟩,h1⟩:=dep d un (λl m=>if m<d then H l (q (skip i m)) else 0) λl hl=>bDR λx hx=>by
  have:¬ x<d:=Z
  simp only[this,if_false]
 have hu:Sp (d+1) H (λx=>sm (λl=>c l*H l x) (d+1)):=Sp.sm λj hj=>Sp.mem hj
 have hz:∀ l,l<d+1->l≠i->sm (λm=>c m*H m (q l)) (d+1)=0:=λl hl hne=>by
  have:=h1 (if l<i then l else l-1);have e1:skip i (if l<i then l else l-1)=l:=by
   unfold skip
   by_cases g:l<i
   ·simp only[g,if_true]
   ·have:¬ l-1<i:=Z
    simp only[g,if_false,this];omega
  have e2:(if l<i then l else l-1)<d:=by
   by_cases g:l<i
   ·simp only[g,if_true]; omega
   ·simp only[g,if_false]; omega
  simp only[e1,e2,if_true]at this;exact this
 refine⟨_,hu,hz,λh0=>?_⟩;have:=full _ hu λl hl=>by
  by_cases e:l=i
  ·subst e; exact h0
  ·exact hz l hl e
 exact hc0 (hH c (λx=>congrFun this x) i0 Z)
theorem bBQ {n k d t W W0:Nat} {F K H:Nat->V} {B:Nat->Nat} {c p:Nat->Nat} {D:Int} {w:Nat->V} (hn:n<=4) (h0:Dw n k F d p D w W0) (hH:Hn d H p) (hs:Same k F d H) (hE:∀ j,j<k->∀ x,(F j x).natAbs<=B j) (hP:a0E k B W d) (hK:Hn t K c) (hI:dG n k F t K) :
  ∀ i,i<t->∀ x,(K i x).natAbs<=t*W:=by
 have hr:=h0.aLQ hK.ind hI;have hcn:∀ i,i<t->c i<n:=λi hi=>Classical.byContradiction λg=>by
  have:=hI.width hi (c i) Z;have:=hK.pos i hi;omega
 obtain⟨_,q,q1,q2,q3⟩:=a4U n t c hK.inc hcn;have ed:n-t=d:=Z
 rw[ed]at q1 q2 q3;have fullF:∀ v,Sp k F v->(∀ l,l<d->v (q l)=0)->v=λ_=>0:=λv hv hz=>by
  have hker:∀ j,j<t->dot n (K j) v=0:=λj hj=>((hI _).1 (Sp.mem hj)).span hv
  have hcz:∀ N i,t-i<=N->i<t->v (c i)=0:=by
   intro N
   induction N with
   | zero=>intro i h1 h2; omega
   | succ N ih =>
    intro i h1 h2;have:=hker i h2;rw[<- a1M,YK (hcn i h2) λx hx hne=>by
     rcases q2 x hx with ⟨l,g1,rfl⟩|⟨l,g1,rfl⟩
     ·rcases Nat.lt_or_ge l i with g|g
      ·rw[hK.low i h2 _ (hK.inc l i g h2),Int.zero_mul]
      ·have:i<l:=by
        rcases Nat.eq_or_lt_of_le g with e|e
        ·subst e; exact absurd rfl hne
        ·exact e
       rw[ih l Z g1,Int.mul_zero]
     ·rw[hz l g1,Int.mul_zero]]at this
    have hp:=hK.pos i h2;rcases Int.mul_eq_zero.1 this with g|g
    ·omega
    ·exact g
  funext x
  rcases Nat.lt_or_ge x n with hx|hx
  ·rcases q2 x hx with ⟨l,g1,rfl⟩|⟨l,g1,rfl⟩
   ·exact hcz t l Z g1
   ·exact hz l g1
  ·exact Sp.iA (λj hj=>h0.wide j hj x hx) hv
 have hC:a8C k F d q:=λi hi=>by
  obtain⟨u,u1,u2,u3⟩:=a9Z hH.ind (λv hv=>fullF v ((hs v).2 hv)) hi;refine⟨u,⟨1,by decide,?_⟩,λl hl=>u2 l Z Z,u3⟩;simp only[Int.one_mul];exact(hs u).2 u1
 obtain⟨D',w',h1⟩:=Dw.of (n:=n) (aBW Z hC hE hP) (λj hj=>(q1 j hj).1) h0.wide fullF;have hd:Dg t K t c W:=⟨D',λj=>kx D' w' d q (c j),h1.D0,λj hj=>⟨(hI _).2 (h1.a1V (hcn j hj)),?_,λi hi hne=>?_,λx=>h1.bDW _ _⟩⟩
 ·exact Hn.aNO hK hd
 ·show kx D' w' d q (c j) (c j)=D';rw[h1.aWC λl hl=>Ne.symm ((q1 l hl).2 j hj),M5,Int.mul_one]
 ·show kx D' w' d q (c j) (c i)=0;rw[h1.aWC λl hl=>Ne.symm ((q1 l hl).2 i hi),E9,Int.mul_zero];intro e;rcases Nat.lt_trichotomy i j with g|g|g
  ·have:=hK.inc i j g hj; omega
  ·exact hne g
  ·have:=hK.inc j i g hi; omega
end Go.Lz
namespace Go.PM
open Go Go.RowKit Go.Proofs Go.Lz
section
variable {n m d r n0 r0 g:Nat} {e:Nat->Nat} {G:Nat->Nat} {C0 K0:Nat->V} {c0 p0:Nat->Nat}
theorem En.cnt:∀ {n m:Nat},En G g n m e->m=Go.PM.cnt G g n
 | 0,m,h=>Classical.byContradiction λhm=>absurd (h.lt 0 (by have:Go.PM.cnt G g 0=0:=rfl; omega)) (Nat.not_lt_zero _)
 | n+1,m,h=>by
  have hc:Go.PM.cnt G g (n+1)=Go.PM.cnt G g n+ind G g n:=rfl
  by_cases hg:G n=g
  ·obtain⟨j,hj,hjn⟩:=h.sur n Z hg;have hjm:j+1=m:=by
    refine Classical.byContradiction λhne=>?_
    have h1:=h.inc j (j+1) Z Z;have h2:=h.lt (j+1) Z;omega
   subst hjm;have h':En G g n j e:=⟨λi l a b=>h.inc i l a Z,λl hl=>by have:=h.inc l j hl hj; omega,λl hl=>h.at_ l Z,λx hx hgx=>by
    obtain⟨l,g1,g2⟩:=h.sur x Z hgx;have hlj:l≠j:=λq=>by subst q; omega
    exact⟨l,by omega,g2⟩⟩
   have h1:ind G g n=1:=by unfold ind; rw[if_pos hg]
   rw[hc,h1,<- En.cnt h']
  ·have h':En G g n m e:=⟨h.inc,λl hl=>by
    have h1:=h.lt l hl;have h2:=h.at_ l hl;have:e l≠n:=λq=>hg (q ▸ h2)
    omega,h.at_,λx hx=>h.sur x Z⟩
   have h1:ind G g n=0:=by unfold ind; rw[if_neg hg]
   rw[hc,h1,Nat.add_zero];exact En.cnt h'
def exv(e:Nat->Nat):Nat->V->V
 | 0,_=>λ_=>0
 | m+1,v=>λx=>if e m=x then v m else exv e m v x
theorem aW4 {x:Nat}{v:V}:∀ {m:Nat},(∀ l,l<m->e l≠x)->exv e m v x=0
 | 0,_=>rfl
 | m+1,h=>by
  show (if e m=x then v m else exv e m v x)=0;rw[if_neg (h m Z),aW4 λl hl=>h l Z]
theorem a7W {l:Nat}{v:V}:∀ {m:Nat},(∀ i j,i<j->j<m->e i<e j)->l<m->exv e m v (e l)=v l
 | m+1,h,hl=>by
  show (if e m=e l then v m else exv e m v (e l))=v l
  by_cases q:l=m
  ·subst q; rw[if_pos rfl]
  ·have:=h l m Z Z;rw[if_neg Z,a7W (λi j a b=>h i j a Z) Z]
theorem En.RW (h:En G g n m e){l:Nat}(hl:l<m)(v:V):exv e m v (e l)=v l:=a7W h.inc hl
theorem En.sZ (h:En G g n m e){x:Nat}(hx:n<=x\/G x≠g)(v:V):exv e m v x=0:=aW4 λl hl q=>by
 subst q;have h1:=h.lt l hl;have h2:=h.at_ l hl;rcases hx with hx|hx
 ·omega
 ·exact hx h2
theorem En.Y3 (h:En G g n m e){v:V}(hv:∀ x,m<=x->v x=0):cpv e m (exv e m v)=v:=by
 funext j
 by_cases hj:j<m
 ·rw[vG hj,h.RW hj]
 ·rw[PB Z,hv j Z]
theorem En.a7X (h:En G g n m e){v:V}(hv:∀ x,n<=x\/G x≠g->v x=0):exv e m (cpv e m v)=v:=by
 funext x
 by_cases hx:n<=x\/G x≠g
 ·rw[h.sZ hx,hv x hx]
 ·obtain⟨l,h1,h2⟩:=h.sur x Z (Classical.byContradiction λq=>hx (.inr q));rw[<- h2,h.RW h1,vG h1]
theorem En.aYR (h:En G g n m e)(hC:Hn d C0 c0)(hw:Wd d m C0):Hn d (λi=>exv e m (C0 i)) (λi=>e (c0 i)):=by
 have hlt:=λi hi=>Hn.aMH hC hw (i:=i) hi
 refine⟨λi j a b=>h.inc _ _ (hC.inc i j a b) (hlt j b),λi hi x hx=>?_,λi hi=>?_,λi j a b=>?_⟩
 ·show exv e m (C0 i) x=0
  by_cases hg:n<=x\/G x≠g
  ·exact h.sZ hg _
  ·obtain⟨l,h1,h2⟩:=h.sur x Z (Classical.byContradiction λq=>hg (.inr q));rw[<- h2,h.RW h1];refine hC.low i hi l ?_;rcases Nat.lt_trichotomy l (c0 i)with q|q|q
   ·exact q
   ·have hx:x<e (c0 i):=hx;rw[<- h2,q]at hx; omega
   ·have hx:x<e (c0 i):=hx;have:=h.inc _ _ q h1; omega
 ·show 0<exv e m (C0 i) (e (c0 i));rw[h.RW (hlt i hi)];exact hC.pos i hi
 ·show 0<=exv e m (C0 i) (e (c0 j))/\exv e m (C0 i) (e (c0 j))<exv e m (C0 j) (e (c0 j));rw[h.RW (hlt j b),h.RW (hlt j b)];exact hC.red i j a b
theorem En.a4E (h:En G g n m e):Wd d n (λi=>exv e m (C0 i)):=λi _ x hx=>h.sZ (.inl hx) _
theorem En.aD6 (h:En G g n m e){E:Nat}(hB:Big d m C0 E):Big d n (λi=>exv e m (C0 i)) E:=λi hi x hx=>by
 show (exv e m (C0 i) x).natAbs<=E
 by_cases hg:n<=x\/G x≠g
 ·rw[h.sZ hg]; simp
 ·obtain⟨l,h1,h2⟩:=h.sur x Z (Classical.byContradiction λq=>hg (.inr q));rw[<- h2,h.RW h1];exact hB i hi l h1
theorem En.bDS (h:En G g n m e):Gr G (λ_=>g) d (λi=>exv e m (C0 i)):=λi _ x hx=>Classical.byContradiction λq=>hx (h.sZ (.inr q) _)
theorem aE9(g g':Nat):∀ d,cnt (λ_=>g) g' d=if g=g' then d else 0
 | 0=>by split <;> rfl
 | d+1=>by
  have:cnt (λ_=>g) g' (d+1)=cnt (λ_=>g) g' d+(if g=g' then 1 else 0):=rfl;rw[this,aE9 g g' d];split <;> rfl
theorem a5L(h:En G 0 n n0 e)(h4:n0<=4)(hs:∀ x y,x<n->y<n->G x=G y->G x≠0->x=y)(g:Nat):cnt G g n<=4:=by
 by_cases hg:g=0
 ·subst hg; rw[<- h.cnt]; exact h4
 ·obtain⟨e',h'⟩:=aHV G g n;rcases oG (cnt G g n) 2 with q|q
  ·omega
  ·have a1:=h'.at_ 0 Z;have a2:=h'.at_ 1 Z;have:=hs (e' 0) (e' 1) (h'.lt 0 Z) (h'.lt 1 Z) (a1.trans a2.symm) (by rw[a1]; exact hg);have:=h'.inc 0 1 Z Z;omega
theorem bEF {x:Nat}(hx:x<n){k:Nat}{M:Nat->V}(hM:∀ i,i<k->M i x=0):Ker n k M (un x):=by
 refine⟨λc hc=>E9 Z,λi hi=>?_⟩;rw[aOK (a':=λ_=>0) (b':=M i) λc hc=>?_,N0]
 by_cases q:c=x
 ·subst q; rw[hM i hi]; simp
 ·rw[E9 q]
theorem bC8(h:En G 0 n n0 e) (h4:n0<=4) (hn:n<=12) (hs:∀ x y,x<n->y<n->G x=G y->G x≠0->x=y) (hC:Hn d C0 c0) (wC:Wd d n0 C0) (bC:Big d n0 C0 1000000000)
  (hK:Hn r0 K0 p0) (wK:Wd r0 n0 K0) (bK:Big r0 n0 K0 1000000000) (hI:dG n0 d C0 r0 K0) (hI2:dG n0 r0 K0 d C0) :
  ∃ r K p,Hn r K p/\dG n d (λi=>exv e n0 (C0 i)) r K/\Wd r n K/\Big r n K 1000000000/\dG n r K d (λi=>exv e n0 (C0 i)):=by
 have d4:=(Hn.dR hC wC).1;have hw:Wd d n (λi=>exv e n0 (C0 i)):=h.a4E;have hG:Gr G (λ_=>0) d (λi=>exv e n0 (C0 i)):=h.bDS;have hc:=a5L h h4 hs;obtain⟨r,K,p,_,k1,k2,k3⟩:=aVO (D:=9) Z hn hG hc hw (by rw[<- p9]; exact h.aD6 bC) O;have hgK:=dG.grp hG k2 k1;refine⟨r,K,p,k1,k2,k3,λi hi x hx=>?_,λy=>⟨λhy=>?_,λhy=>?_⟩⟩
 ·by_cases hgx:G x=G (p i)
  ·obtain⟨e',he'⟩:=aHV (λi=>G (p i)) (G (p i)) r;obtain⟨j,j1,j2⟩:=he'.sur i hi rfl
   by_cases h0:G (p i)=0
   ·rw[h0]at he' hgx j1;have hrows:En (λ_:Nat=>0) 0 d d (λi=>i):=⟨λi j a b=>a,λj hj=>hj,λ_ _=>rfl,λx hx _=>⟨x,hx,rfl⟩⟩;obtain⟨q,hq⟩:=bBR k1 k3 h he';have hI':=dG.cp hG hgK k3 h hrows he' k2;have e1:(λj=>cpv e n0 ((λi=>exv e n0 (C0 i)) ((λi=>i) j)))=λj=>cpv e n0 (exv e n0 (C0 j)):=rfl
    rw[e1]at hI';have hsm:Same d C0 d (λj=>cpv e n0 (exv e n0 (C0 j))):=Same.congr λj hj=>(h.Y3 (wC j hj)).symm
    have hI3:=hI'.of_same hsm.symm;obtain⟨u1,_,u3⟩:=Hn.unique hK hq λv=>(hI v).trans (hI3 v).symm
    obtain⟨l,l1,l2⟩:=h.sur x hx hgx;have b:=bK j Z l l1;rw[u3 j Z,vG l1,l2,j2]at b;exact b
   ·obtain⟨e1,he1⟩:=aHV G (G (p i)) n;obtain⟨eM,heM⟩:=aHV (λ_:Nat=>0) (G (p i)) d;have hkg:cnt (λ_:Nat=>0) (G (p i)) d=0:=by rw[aE9,if_neg (λq=>h0 q.symm)]
    obtain⟨q,hq⟩:=bBR k1 k3 he1 he';have hI':=dG.cp hG hgK k3 he1 heM he' k2;rw[hkg]at hI';obtain⟨l,l1,l2⟩:=he1.sur x hx hgx;have b:=Y8 (E:=1) (D:=0) (hc _) O (λa ha=>absurd ha (Nat.not_lt_zero _)) (λa ha=>absurd ha (Nat.not_lt_zero _)) O O O hq hI' j j1 l;have b:(cpv e1 _ (K (e' j)) l).natAbs<=_:=b;rw[vG l1,l2,j2]at b;exact oR b O
  ·rw[hgK.at_ hi hgx]; simp
 ·refine⟨λx hx=>Sp.iA (λj hj=>hw j hj x hx) hy,λi hi=>?_⟩;rw[tF];exact((k2 _).1 (Sp.mem hi)).span hy
 ·have hoff:∀ x,n<=x\/G x≠0->y x=0:=λx hx=>by
   rcases oG x n with q|q
   ·have hg:G x≠0:=by rcases hx with hx|hx; omega; exact hx
    have hu:Sp r K (un x):=(k2 _).2 (bEF q λi hi=>h.sZ (.inr hg) _);have h1:=hy.span hu;rw[tF,(aDC y).1 q]at h1;exact h1
   ·exact hy.1 x q
  have hcp:Sp d C0 (cpv e n0 y):=by
   refine(hI2 _).2 ⟨λx hx=>PB hx,λi hi=>?_⟩;have hk:Sp r K (exv e n0 (K0 i)):=by
    refine(k2 _).2 ⟨λx hx=>h.sZ (.inl hx) _,λj hj=>?_⟩;rw[h.dot λx _ hgx=>by rw[h.sZ (.inr hgx)]; simp];show dot n0 (cpv e n0 (exv e n0 (K0 i))) (cpv e n0 (exv e n0 (C0 j)))=0;rw[h.Y3 (wK i hi),h.Y3 (wC j hj)];exact((hI _).1 (Sp.mem hi)).2 j hj
   have h1:=hy.span hk;rw[h.dot λx _ hgx=>by rw[hoff x (.inr hgx)]; simp,h.Y3 (wK i hi)]at h1;exact h1
  have key:∀ {v:V},Sp d C0 v->Sp d (λi=>exv e n0 (C0 i)) (exv e n0 v):=λ{v} hv=>by
   induction hv with
   | zero =>
    have:exv e n0 (λ_=>0)=λ_=>0:=by
     funext x
     by_cases hx:n<=x\/G x≠0
     ·exact h.sZ hx _
     ·obtain⟨l,h1,h2⟩:=h.sur x Z (Classical.byContradiction λq=>hx (.inr q));rw[<- h2,h.RW h1]
    rw[this]; exact .zero
   | add j t hj _ ih =>
    refine cast (oZ _ ?_) (Sp.add j t hj ih)
    funext x
    by_cases hx:n<=x\/G x≠0
    ·show exv e n0 _ x+t*exv e n0 (C0 j) x=exv e n0 _ x;rw[h.sZ hx,h.sZ hx,h.sZ hx]; simp
    ·obtain⟨l,h1,h2⟩:=h.sur x Z (Classical.byContradiction λq=>hx (.inr q));show exv e n0 _ x+t*exv e n0 (C0 j) x=exv e n0 _ x;rw[<- h2,h.RW h1,h.RW h1,h.RW h1]
  have:=key hcp;rwa[h.a7X hoff]at this
end
def L12:List (List Int):=[[2,3,5],[2,3,5,7],[2,3],[2,3,7],[2,5,7],[3,5,7],[2,3,5,11],[2],[2,3,7,13],[3,5,7,13]]
theorem bE4:∀ i,i<10->aS (L12.getD i [],())=some (0,())/\(L12.getD i []).length<=4:=by
 intro i hi;rcases(show i=0\/i=1\/i=2\/i=3\/i=4\/i=5\/i=6\/i=7\/i=8\/i=9 by omega)with rfl|rfl|rfl|rfl|rfl|rfl|rfl|rfl|rfl|rfl
 all_goals exact⟨by kernel_rfl,by decide⟩
theorem a7N(v:Int)(h0:0<=v)(h1:v<256):HH (v,())=some (L12.getD (v%10).toNat [],()):=by
 have e1:IntKind.wrap .i64 v=v:=aAP Z Z;have e2:v.tmod 10=v%10:=Int.tmod_eq_emod_of_nonneg h0;have e3:aF (v%10) 10=true:=by rw[aL]; exact oT Z
 have e4:eqI 10 0=false:=O
 have hl:(L12.length:Int)=10:=O
 have hl2:L12.length=10:=O
 show (bif eqI (L12.length:Int) 0 then none else bif aF ((IntKind.wrap .i64 v).tmod (L12.length:Int)) L12.length then some ((L12.getD (((IntKind.wrap .i64 v).tmod (L12.length:Int)).toNat) []),()) else none)=_;rw[e1,hl,e2,hl2,e4,e3];rfl
def SF(t:Int×Int×Int×Int):Nat->Int
 | 0=>t.1
 | 1=>t.2.1
 | 2=>t.2.2.1
 | _=>t.2.2.2
def I8(t:Int×Int×Int×Int):Prop:=∀ i,i<4->-128<=SF t i/\SF t i<128
theorem aY3(ps:List Int)(hl:ps.length<=4)(t:Int×Int×Int×Int)(ht:I8 t):xR (ps,t,())=some ((List.range ps.length).map (λi=>(SF t i).tmod 10),()):=by
 have w0:IntKind.wrap .i64 t.1=t.1:=aAP (by have:=ht 0 Z; simp only[SF]at this; omega) (by have:=ht 0 Z; simp only[SF]at this; omega);have w1:IntKind.wrap .i64 t.2.1=t.2.1:=aAP (by have:=ht 1 Z; simp only[SF]at this; omega) (by have:=ht 1 Z; simp only[SF]at this; omega);have w2:IntKind.wrap .i64 t.2.2.1=t.2.2.1:=aAP (by have:=ht 2 Z; simp only[SF]at this; omega) (by have:=ht 2 Z; simp only[SF]at this; omega)
 have w3:IntKind.wrap .i64 t.2.2.2=t.2.2.2:=aAP (by have:=ht 3 Z; simp only[SF]at this; omega) (by have:=ht 3 Z; simp only[SF]at this; omega);have key:=aU (step:=rM) (N:=2^64) (λs=>(ps,(t.1,(t.2.1,(t.2.2.1,t.2.2.2))),(List.range s).map (λi=>(SF t i).tmod 10),(s:Int),())) ps.length ((List.range ps.length).map (λi=>(SF t i).tmod 10),()) Z (λs hs=>?_) ?_
 ·have key:xY (ps,(t.1,(t.2.1,(t.2.2.1,t.2.2.2))),[],0,())=_:=key;simp only[xR,key,aD]
 ·have e1:ltI (s:Int) (ps.length:Int)=true:=by rw[aE]; exact oT Z
  have e2:ltI (s:Int) 4=true:=by rw[aE]; exact oT Z
  have e3:=bO s Z;have e4:∀ x:Int,Nat.ble [x].length 1048576=true:=λ_=>rfl
  have e5:Nat.ble ((List.range s).map (λi=>(SF t i).tmod 10)).length 1048576=true:=by rw[dO,List.length_map,List.length_range]; exact oT Z
  have e6:(List.range (s+1)).map (λi=>(SF t i).tmod 10)=(List.range s).map (λi=>(SF t i).tmod 10)++[(SF t s).tmod 10]:=by rw[List.range_succ,List.map_append]; rfl
  simp only[rM,e1,e2,oC,e4,e5,w0,w1,w2,w3,e3,e6];rcases(show s=0\/s=1\/s=2\/s=3 by omega)with rfl|rfl|rfl|rfl <;> rfl
 ·have e1:ltI (ps.length:Int) (ps.length:Int)=false:=by rw[aE]; exact oF Z
  simp only[rM,e1,oD]
def red(M:Nat->V) (p:Nat->Nat):Nat->V->V
 | 0,u=>u
 | t+1,u=>λx=>red M p t u x-(red M p t u (p t)).fdiv (M t (p t))*M t x
section
variable {d n:Nat} {M:Nat->V} {p:Nat->Nat}
end
theorem aRK(r:List Int)(hl:r.length<=1048576)(hr:∀ a∈r,-9223372036854775808<=a/\a<9223372036854775808):rC (r,())=some (r.map Zn,()):=by
 have e1:ltI r.length 0=false:=by rfl
 have e2:ltI 1048576 r.length=false:=by rw[aE]; grind
 have key:FQ ([],r,r.length,0,())=some (r.map Zn,()):=aM3 r hl hr;unfold rC;simp only[e1,e2,Bool.not_false,oC,List.replicate_zero,key,aD]
theorem aKX n v:(Vr n v).map Zn=Zr n v:=by simp[Vr,Zr]
section
variable {d n:Nat} {M:Nat->V} {p:Nat->Nat}
end
abbrev TT:=List Int×List (List Int)×List (List Int)
abbrev zT:TT:=([],([],[]))
theorem aY8(l:List TT)(hl:l.length<1048576)(hc:∀ i,i<l.length->iH (l.getD i zT,())=some (0,())):xU (l,l,(l.length:Int),0,())=some (.inr (l,())):=by
 have e0:eqI 0 0=true:=O
 refine aU (step:=sP) (N:=2^64) (λt=>(l,l,(l.length:Int),(t:Int),())) l.length (.inr (l,())) Z (λt ht=>?_) ?_
 ·have e1:ltI (t:Int) (l.length:Int)=true:=by rw[aE]; exact oT Z
  have e2:aF (t:Int) l.length=true:=by rw[aL]; exact oT Z
  have e3:((t:Nat):Int).toNat=t:=oN _;have e4:=bO t Z;have e5:iH (((l.getD t zT).1,((l.getD t zT).2.1,(l.getD t zT).2.2)),())=some (0,()):=hc t ht;simp only[sP,e1,e2,e3,oC];show aC (iH (((l.getD t zT).1,((l.getD t zT).2.1,(l.getD t zT).2.2)),())) _=_;rw[e5];simp only[aD,e0,Bool.not_true,oD,e4]
 ·have e1:ltI (l.length:Int) (l.length:Int)=false:=by rw[aE]; exact oF Z
  simp only[sP,e1,oD]
theorem a2R(l:List TT)(hl:l.length<1048576)(hp:∀ i,i<l.length->(l.getD i zT).1.length<1048576){t:Nat}(ht:t<l.length){c:Bool}(hc:decide ((l.getD t zT).1=(l.getD 0 zT).1)=c) :
  nW (l,l,(l.length:Int),(t:Int),())=(bif c then some (.inl (l,l,(l.length:Int),((t+1:Nat):Int),())) else some (.inr (.inl (14,())))):=by
 have e1:ltI (t:Int) (l.length:Int)=true:=by rw[aE]; exact oT Z
 have e2:aF (t:Int) l.length=true:=by rw[aL]; exact oT Z
 have e3:((t:Nat):Int).toNat=t:=oN _;have e4:=bO t Z;have e5:aF 0 l.length=true:=by rw[aL]; exact oT Z
 have e6:=aWB (l.getD t zT).1 (l.getD 0 zT).1 (hp t ht);simp only[nW,e1,e2,e3,e5,oC];show aC (eU ((l.getD t zT).1,(l.getD 0 zT).1,())) _=_;rw[e6,hc];simp only[aD,e4]
theorem aTR(l:List TT)(hl:l.length<1048576)(hc:∀ i,i<l.length->iH (l.getD i zT,())=some (0,()))(hp:∀ i,i<l.length->(l.getD i zT).1.length<1048576)(he:∀ i,i<l.length->(l.getD i zT).1=(l.getD 0 zT).1):eP (l,())=some (0,()):=by
 have key:=aU (step:=nW) (N:=2^64) (λt=>(l,l,(l.length:Int),(t:Int),())) l.length (.inr ()) Z (λt ht=>a2R l hl hp ht (c:=true) (oT (he t ht))) (by
  have e1:ltI (l.length:Int) (l.length:Int)=false:=by rw[aE]; exact oF Z
  simp only[nW,e1,oD])
 have key:yD (l,l,(l.length:Int),0,())=_:=key;simp only[eP,aY8 l hl hc,aD,gB,key]
section
variable {ps ps':List Int} {n n' d r d' r':Nat} {C K C' K':Nat->V}
theorem RT.aIF (h:RT ps n d r C K):ps.length<1048576:=by have:=h.n4; have:=h.len; omega
end
def a1F(p:Int×List (Int×Int×Int×Int)×Bool):Prop:=(0<=p.1/\p.1<256)/\∀ t∈p.2.1,I8 t
theorem a8B(p:Int×List (Int×Int×Int×Int)×Bool):zG (p,())=some (decide (p.2.1.length<=3),()):=by
 obtain⟨a,b,c⟩:=p;have:(!(ltI 3 (b.length:Int)))=decide (b.length<=3):=by
  rw[aE]
  by_cases h:b.length<=3
  ·rw[oT h,oF Z]; rfl
  ·rw[oF h,oT Z]; rfl
 simp only[zG,this]
theorem wf_u8 {x:Int}(h:(Lit.int .u8 x).wf=true):0<=x/\x<256:=by
 simp only[Lit.wf,oA,decide_eq_true_eq]at h;have h1:IntKind.u8.min=0:=O
 have h2:IntKind.u8.max=255:=O
 omega
theorem wf_i8 {x:Int}(h:(Lit.int .i8 x).wf=true) : -128<=x/\x<128:=by
 simp only[Lit.wf,oA,decide_eq_true_eq]at h;have h1:IntKind.i8.min = -128:=O
 have h2:IntKind.i8.max=127:=O
 omega
theorem bA3 {p:Int×List (Int×Int×Int×Int)×Bool}(h:WF (.prod (.int .u8) (.prod (.list (.prod (.int .i8) (.prod (.int .i8) (.prod (.int .i8) (.int .i8))))) .bool)) p):a1F p:=by
 obtain⟨h1,⟨_,h2⟩,_⟩:=h;refine⟨wf_u8 h1,λt ht i hi=>?_⟩;obtain⟨a1,a2,a3,a4⟩:=h2 t ht;rcases(show i=0\/i=1\/i=2\/i=3 by omega)with rfl|rfl|rfl|rfl
 ·exact wf_i8 a1
 ·exact wf_i8 a2
 ·exact wf_i8 a3
 ·exact wf_i8 a4
end Go.PM
namespace Go.Lz
structure Fam (d:Nat) (C:Nat->V) (k:Nat) (F:Nat->V) (B:Nat->Nat):Prop where
 mem:∀ j,j<k->Sp d C (F j)
 span:∃ D:Int,D≠0/\∀ v,Sp d C v->Sp k F (λx=>D*v x)
 le:∀ j,j<k->∀ x,(F j x).natAbs<=B j
 g1:∀ a,a<k->B a<=2916
 g2:∀ a b,a<k->b<k->a≠b->B a*B b<=26244
 g3:∀ a b c,a<k->b<k->c<k->a≠b->a≠c->b≠c->B a*B b*B c<=729
 g4:∀ a b c d,a<k->b<k->c<k->d<k->a≠b->a≠c->a≠d->b≠c->b≠d->c≠d->B a*B b*B c*B d<=6561
def Q2(k:Nat) (B:Nat->Nat):Prop:=∀ a b,a<k->b<k->a≠b->B a*B b<=81
def apB(k:Nat)(B B':Nat->Nat):Nat->Nat:=λi=>if i<k then B i else B' (i-k)
theorem F9 {k i:Nat}(B B':Nat->Nat)(h:i<k):apB k B B' i=B i:=by simp[apB,h]
theorem FX {k i:Nat}(B B':Nat->Nat)(h:¬ i<k):apB k B B' i=B' (i-k):=by simp[apB,h]
def WW:Nat->Nat
 | 0=>1
 | 1=>2916
 | 2=>17006112
 | 3=>306110016
 | _=>34012224
section
variable {d d' k k':Nat} {C C' F F':Nat->V} {B B':Nat->Nat}
theorem Fam.a4G (h:Fam d C k F B)(h':Fam d' C' k' F' B'):∀ j,j<k+k'->∀ x,(yO k F F' j x).natAbs<=apB k B B' j:=λj hj x=>by
 by_cases g:j<k
 ·rw[NW F F' g,F9 B B' g]; exact h.le j g x
 ·rw[FX B B' g];have:yO k F F' j=F' (j-k):=by simp[yO,g]
  rw[this]; exact h'.le _ Z x
theorem Fam.bG4 (h:Fam d C k F B)(h':Fam d' C' k' F' B'):a0E (k+k') (apB k B B') (WW 1) 1:=λa ha =>by
 show _<=2916;generalize ea:apB k B B' a=Xa
 by_cases ga:a<k
 ·rw[F9 B B' ga]at ea;subst ea;have bd:=h.g1 a ga;omega
 ·rw[FX B B' ga]at ea;subst ea;have bd:=h'.g1 (a-k) Z;omega
theorem Fam.bG6 (h:Fam d C k F B)(h':Fam d' C' k' F' B'):a0E (k+k') (apB k B B') (WW 2) 2:=λa b ha hb nab=>by
 show _<=17006112;generalize ea:apB k B B' a=Xa;generalize eb:apB k B B' b=Xb
 by_cases ga:a<k
 ·by_cases gb:b<k
  ·rw[F9 B B' ga]at ea;rw[F9 B B' gb]at eb;subst ea eb;have bd:=h.g2 a b ga gb nab;have e:B a*B b=B a*B b:=zf
   rw[e]; omega
  ·rw[F9 B B' ga]at ea;rw[FX B B' gb]at eb;subst ea eb;have bd:=Nat.mul_le_mul (h.g1 a ga) (h'.g1 (b-k) Z);have e:B a*B' (b-k)=(B a)*(B' (b-k)):=zf
   rw[e]; omega
 ·by_cases gb:b<k
  ·rw[FX B B' ga]at ea;rw[F9 B B' gb]at eb;subst ea eb;have bd:=Nat.mul_le_mul (h.g1 b gb) (h'.g1 (a-k) Z);have e:B' (a-k)*B b=(B b)*(B' (a-k)):=zf
   rw[e]; omega
  ·rw[FX B B' ga]at ea;rw[FX B B' gb]at eb;subst ea eb;have bd:=h'.g2 (a-k) (b-k) Z Z Z;have e:B' (a-k)*B' (b-k)=B' (a-k)*B' (b-k):=zf
   rw[e]; omega
theorem Fam.bG7 (h:Fam d C k F B)(h':Fam d' C' k' F' B'):a0E (k+k') (apB k B B') (WW 3) 3:=λa b c ha hb hc nab nac nbc=>by
 show _<=306110016;generalize ea:apB k B B' a=Xa;generalize eb:apB k B B' b=Xb;generalize ec:apB k B B' c=Xc
 by_cases ga:a<k
 ·by_cases gb:b<k
  ·by_cases gc:c<k
   ·rw[F9 B B' ga]at ea;rw[F9 B B' gb]at eb;rw[F9 B B' gc]at ec;subst ea eb ec;have bd:=h.g3 a b c ga gb gc nab nac nbc;have e:B a*B b*B c=B a*B b*B c:=zf
    rw[e]; omega
   ·rw[F9 B B' ga]at ea;rw[F9 B B' gb]at eb;rw[FX B B' gc]at ec;subst ea eb ec;have bd:=Nat.mul_le_mul (h.g2 a b ga gb nab) (h'.g1 (c-k) Z);have e:B a*B b*B' (c-k)=(B a*B b)*(B' (c-k)):=zf
    rw[e]; omega
  ·by_cases gc:c<k
   ·rw[F9 B B' ga]at ea;rw[FX B B' gb]at eb;rw[F9 B B' gc]at ec;subst ea eb ec;have bd:=Nat.mul_le_mul (h.g2 a c ga gc nac) (h'.g1 (b-k) Z);have e:B a*B' (b-k)*B c=(B a*B c)*(B' (b-k)):=zf
    rw[e]; omega
   ·rw[F9 B B' ga]at ea;rw[FX B B' gb]at eb;rw[FX B B' gc]at ec;subst ea eb ec;have bd:=Nat.mul_le_mul (h.g1 a ga) (h'.g2 (b-k) (c-k) Z Z Z);have e:B a*B' (b-k)*B' (c-k)=(B a)*(B' (b-k)*B' (c-k)):=zf
    rw[e]; omega
 ·by_cases gb:b<k
  ·by_cases gc:c<k
   ·rw[FX B B' ga]at ea;rw[F9 B B' gb]at eb;rw[F9 B B' gc]at ec;subst ea eb ec;have bd:=Nat.mul_le_mul (h.g2 b c gb gc nbc) (h'.g1 (a-k) Z);have e:B' (a-k)*B b*B c=(B b*B c)*(B' (a-k)):=zf
    rw[e]; omega
   ·rw[FX B B' ga]at ea;rw[F9 B B' gb]at eb;rw[FX B B' gc]at ec;subst ea eb ec;have bd:=Nat.mul_le_mul (h.g1 b gb) (h'.g2 (a-k) (c-k) Z Z Z);have e:B' (a-k)*B b*B' (c-k)=(B b)*(B' (a-k)*B' (c-k)):=zf
    rw[e]; omega
  ·by_cases gc:c<k
   ·rw[FX B B' ga]at ea;rw[FX B B' gb]at eb;rw[F9 B B' gc]at ec;subst ea eb ec;have bd:=Nat.mul_le_mul (h.g1 c gc) (h'.g2 (a-k) (b-k) Z Z Z);have e:B' (a-k)*B' (b-k)*B c=(B c)*(B' (a-k)*B' (b-k)):=zf
    rw[e]; omega
   ·rw[FX B B' ga]at ea;rw[FX B B' gb]at eb;rw[FX B B' gc]at ec;subst ea eb ec;have bd:=h'.g3 (a-k) (b-k) (c-k) Z Z Z Z Z Z;have e:B' (a-k)*B' (b-k)*B' (c-k)=B' (a-k)*B' (b-k)*B' (c-k):=zf
    rw[e]; omega
end
end Go.Lz
namespace Go.Lz
def W9:Nat->Nat
 | 0=>1
 | 1=>9
 | 2=>162
 | 3=>2916
 | _=>104976
theorem bBP(k r:Nat)(hr:r<=4):a0E k (λ_=>9) (W9 r) r:=by
 rcases(show r=0\/r=1\/r=2\/r=3\/r=4 by omega)with rfl|rfl|rfl|rfl|rfl
 ·show 1<=1; omega
 ·intro a _; show 9<=9; omega
 ·intro a b _ _ _; show 2*(9*9)<=162; omega
 ·intro a b c _ _ _ _ _ _; show 4*(9*9*9)<=2916; omega
 ·intro a b c d _ _ _ _ _ _ _ _ _ _; show 16*(9*9*9*9)<=104976; omega
theorem bGU {d k:Nat} {C F:Nat->V} (mem:∀ j,j<k->Sp d C (F j)) (span:∃ D:Int,D≠0/\∀ v,Sp d C v->Sp k F (λx=>D*v x)) (le:∀ j,j<k->∀ x,(F j x).natAbs<=9):Fam d C k F (λ_=>9) :=
 ⟨mem,span,le,λ_ _=>by omega,λ_ _ _ _ _=>by omega,λ_ _ _ _ _ _ _ _ _=>by omega,λ_ _ _ _ _ _ _ _ _ _ _ _ _ _=>by omega⟩
section
variable {n k d:Nat} {M:Nat->V} {p:Nat->Nat} {D:Int} {w:Nat->V}
open Classical in
def kB(d:Nat) (p:Nat->Nat) (x:Nat):Nat:=if ∃ j,j<d/\p j=x then 0 else W9 d
theorem aGB(d:Nat)(p:Nat->Nat)(x:Nat):kB d p x=0\/((∀ j,j<d->p j≠x)/\kB d p x=W9 d):=by
 by_cases h:∃ j,j<d/\p j=x
 ·left; simp only[kB,h,if_true]
 ·right; exact⟨λj hj e=>h ⟨j,hj,e⟩,by simp only[kB,h,if_false]⟩
theorem bGY(hn:n<=4) (hd:d<=3) (h:Dw n k M d p D w (W9 d)) (inc:∀ i j,i<j->j<d->p i<p j) {t:Nat} {K:Nat->V} (hI:dG n k M t K):Fam t K n (kx D w d p) (kB d p)/\(Q2 n (kB d p)\/d=2):=by
 have hle:∀ j,j<n->∀ x,(kx D w d p j x).natAbs<=kB d p j:=λj _ x=>by
  rcases aGB d p j with g|⟨_,g⟩
  ·have:∃ i,i<d/\p i=j:=Classical.byContradiction λhno=>by
    have:kB d p j=W9 d:=by simp only[kB,hno,if_false]
    rw[this]at g;rcases(show d=0\/d=1\/d=2\/d=3 by omega)with rfl|rfl|rfl|rfl <;> cases g
   obtain⟨i,hi,rfl⟩:=this;rw[h.bBN hi]; simp
  ·rw[g]; exact h.bDW j x
 have hmem:∀ j,j<n->Sp t K (kx D w d p j):=λj hj=>(hI _).2 (h.a1V hj)
 have hspan:∃ D':Int,D'≠0/\∀ v,Sp t K v->Sp n (kx D w d p) (λx=>D'*v x):=⟨D,h.D0,λv hv=>h.bCT ((hI v).1 hv)⟩;have hlt:=h.lt;rcases(show d=0\/d=1\/d=2\/d=3 by omega)with rfl|rfl|rfl|rfl
 ·have e:∀ x,kB 0 p x=1:=λx=>by
   rcases aGB 0 p x with g|⟨_,g⟩
   ·have:¬ ∃ j,j<0/\p j=x:=λ⟨j,hj,_⟩=>Z
    simp only[kB,this,if_false,W9]at g;cases g
   ·exact g
  refine⟨⟨hmem,hspan,hle,λa _=>?_,λa b _ _ _=>?_,λa b c _ _ _ _ _ _=>?_,λa b c d _ _ _ _ _ _ _ _ _ _=>?_⟩,.inl λa b _ _ _=>?_⟩
  all_goals simp only[e]; omega
 ·have e:∀ x,kB 1 p x<=9:=λx=>by
   rcases aGB 1 p x with g|⟨_,g⟩
   ·omega
   ·rw[g]; exact Nat.le_refl _
  have e2:∀ a b,kB 1 p a*kB 1 p b<=81:=λa b=>Nat.mul_le_mul (e a) (e b)
  have e3:∀ a b c,kB 1 p a*kB 1 p b*kB 1 p c<=729:=λa b c=>Nat.mul_le_mul (e2 a b) (e c)
  exact⟨⟨hmem,hspan,hle,λa _=>by have:=e a; omega,λa b _ _ _=>by have:=e2 a b; omega,λa b c _ _ _ _ _ _=>e3 a b c,λa b c d _ _ _ _ _ _ _ _ _ _=>Nat.mul_le_mul (e3 a b c) (e d)⟩,.inl λa b _ _ _=>e2 a b⟩
 ·have i1:=inc 0 1 Z Z;have l1:=hlt 1 Z;have e:∀ x,kB 2 p x<=162:=λx=>by
   rcases aGB 2 p x with g|⟨_,g⟩
   ·omega
   ·rw[g]; exact Nat.le_refl _
  have e2:∀ a b,kB 2 p a*kB 2 p b<=26244:=λa b=>Nat.mul_le_mul (e a) (e b)
  have e3:∀ a b c,a<n->b<n->c<n->a≠b->a≠c->b≠c->kB 2 p a*kB 2 p b*kB 2 p c=0:=λa b c h1 h2 h3 n1 n2 n3=>by
   rcases aGB 2 p a with g|⟨q1,_⟩
   ·rw[g]; simp
   rcases aGB 2 p b with g|⟨q2,_⟩
   ·rw[g]; simp
   rcases aGB 2 p c with g|⟨q3,_⟩
   ·rw[g]; simp
   have:=q1 0 Z; have:=q1 1 Z; have:=q2 0 Z; have:=q2 1 Z; have:=q3 0 Z; have:=q3 1 Z;omega
  refine⟨⟨hmem,hspan,hle,λa _=>by have:=e a; omega,λa b _ _ _=>e2 a b,λa b c h1 h2 h3 n1 n2 n3=>by rw[e3 a b c h1 h2 h3 n1 n2 n3]; omega,λa b c d h1 h2 h3 h4 n1 n2 n3 n4 n5 n6=>by rw[e3 a b c h1 h2 h3 n1 n2 n4]; simp⟩,.inr rfl⟩
 ·have i1:=inc 0 1 Z Z;have i2:=inc 1 2 Z Z;have l1:=hlt 2 Z;have e:∀ x,kB 3 p x<=2916:=λx=>by
   rcases aGB 3 p x with g|⟨_,g⟩
   ·omega
   ·rw[g]; exact Nat.le_refl _
  have e2:∀ a b,a<n->b<n->a≠b->kB 3 p a*kB 3 p b=0:=λa b h1 h2 n1=>by
   rcases aGB 3 p a with g|⟨q1,_⟩
   ·rw[g]; simp
   rcases aGB 3 p b with g|⟨q2,_⟩
   ·rw[g]; simp
   have:=q1 0 Z; have:=q1 1 Z; have:=q1 2 Z; have:=q2 0 Z; have:=q2 1 Z; have:=q2 2 Z;omega
  refine⟨⟨hmem,hspan,hle,λa _=>e a,λa b h1 h2 n1=>by rw[e2 a b h1 h2 n1]; omega,λa b c h1 h2 h3 n1 n2 n3=>by rw[e2 a b h1 h2 n1]; simp,λa b c d h1 h2 h3 h4 n1 n2 n3 n4 n5 n6=>by rw[e2 a b h1 h2 n1]; simp⟩,.inl λa b h1 h2 n1=>by rw[e2 a b h1 h2 n1]; omega⟩
end
end Go.Lz
namespace Go.PM
open Go Go.RowKit Go.Proofs Go.Lz
theorem a2M {ps:List Int} {n:Nat} (hp:aS (ps,())=some (0,())) (hl:ps.length=n) (hn:n<=4) (rows:List (List Int)) (hk:rows.length<=3) (hlen:∀ r∈rows,r.length=n) (hr:∀ r∈rows,∀ a∈r,a.natAbs<=9) :
  ∃ t r S K,(∃ s,Hn t S s)/\(∃ p,Hn r K p)/\Wd t n S/\Wd r n K/\dG n rows.length (KQ rows) r K/\dG n r K t S/\Wd rows.length n (KQ rows)/\Big rows.length n (KQ rows) 9/\Big t n S 1000000000/\Big r n K 1000000000 /\
   ∀ vals:Bool,sS (ps,rows,vals,())=some ((ps,bif vals then (Mr r n K,Mr t n S) else (Mr t n S,Mr r n K)),0,()):=by
 have hrow:∀ i,i<rows.length->∃ r,r∈rows/\KQ rows i=aDY r:=λi hi=>⟨rows[i],List.getElem_mem hi,by unfold KQ; simp[List.getD,hi]⟩
 have hw:Wd rows.length n (KQ rows):=λi hi x hx=>by
  obtain⟨r,hr1,hr2⟩:=hrow i hi;rw[hr2]; unfold aDY;have:=hlen r hr1;simp[List.getD,List.getElem?_eq_none (show r.length<=x by omega)]
 have hB:Big rows.length n (KQ rows) 10:=λi hi x hx=>by
  obtain⟨r,hr1,hr2⟩:=hrow i hi;rw[hr2]; unfold aDY;have hl:=hlen r hr1;have:r.getD x 0=r[x]' Z:=by simp[List.getD,show x<r.length by omega]
  rw[this];exact Nat.le_succ_of_le (hr r hr1 _ (List.getElem_mem _))
 have b10:4*(24*(10*10*10*10))<=1000000000:=O
 obtain⟨d,M,q,g1,g2,g3,g4,g5,g6⟩:=of_eq rows (n:=n) Z Z hlen (E:=λd=>10^dg 1 d) (T:=λd=>10^(5*dg 1 d+1)) (λr h a ha=>Nat.le_succ_of_le (hr r h a ha)) (show 10^dg 1 0<=1000000000 by decide) (a1S (.inl Z) O) λd H p hd hH hs hwd i hi x hx=>by
  have hdg:=(aXD (k:=rows.length) (M:=KQ rows) (E:=10) Z hH (λj hj=>⟨1,by decide,by
   have:=(hs _).2 (Sp.mem hj);refine cast (oZ _ ?_) this
   funext x; simp⟩) (hB.all hw)).mono λv=>(hs v).1
  exact oR (oR (Hn.aNO hH hdg i hi x) (Nat.mul_le_mul Z (a2S O Z))) b10
 have hd:=(Hn.dR g3 g5).1;obtain⟨m,A,a1,a2⟩:=U8 Z Z g5 g6;obtain⟨m',A',J',K,p,r,k1,k2,k3,k4,k5,k6,k7⟩:=aH2 Z hn g5 (by rw[<- p9]; exact g6) a2;obtain⟨m2,A2,J2,S,s,t,c1,c2,c3,c4,c5,c6,c7⟩:=aQZ Z hn k6 k7 k2;have hI:dG n rows.length (KQ rows) r K:=k5.of_same g4.symm;have bK:Big r n K 1000000000:=λi hi x hx=>oR (Y8 (E:=10) (D:=1) hn Z hw hB O O O k4 hI i hi x) b10
 have bS:Big t n S 1000000000:=λi hi x hx=>oR (a6Z (E:=10) (D:=1) Z hn hw hB O O O hI c4 c5 i hi x) b10
 have s1:=aM6 g3 hn g5 g6 k5 c4 c5 bS;have s2:=aED g3 hn g5 g6 k4 k5 bK;have back:=dG.back g5 k5 c5;have e0:eqI 0 0=true:=O
 have e1:((ps.length:Nat):Int)=(n:Int):=by rw[hl]
 have g1':vK ((n:Int),rows,())=some (((n:Int),Mr d n M),0,()):=g1;have hB9:Big rows.length n (KQ rows) 9:=λi hi x hx=>by
  obtain⟨r,hr1,hr2⟩:=hrow i hi;rw[hr2]; unfold aDY;have hl:=hlen r hr1;have:r.getD x 0=r[x]' Z:=by simp[List.getD,show x<r.length by omega]
  rw[this];exact hr r hr1 _ (List.getElem_mem _)
 refine⟨t,r,S,K,⟨s,c4⟩,⟨p,k4⟩,c6,k6,hI,c5,hw,hB9,bS,bK,λvals=>?_⟩;cases vals with
 | false=>simp only[sS,hp,aD,e0,Bool.not_true,oD,e1,g1',s1,s2]
 | true=>simp only[sS,hp,aD,e0,Bool.not_true,oD,oC,e1,g1',s1,s2]
theorem bE5 {n d E:Nat} {C:Nat->V} {q:Nat->Nat} (hH:Hn d C q) (hw:Wd d n C) (hn:n<=4) (hE:Big d n C E):∃ D w W,Dw n d C d q D w W:=by
 obtain⟨d4,hlt⟩:=Hn.dR hH hw;have hP:∀ r,r<=4->∃ W,a0E d (λ_=>E) W r:=λr hr=>by
  rcases(show r=0\/r=1\/r=2\/r=3\/r=4 by omega)with rfl|rfl|rfl|rfl|rfl
  ·exact⟨1,oM 1⟩
  ·exact⟨E,λ_ _=>oM _⟩
  ·exact⟨2*(E*E),λ_ _ _ _ _=>oM _⟩
  ·exact⟨4*(E*E*E),λ_ _ _ _ _ _ _ _ _=>oM _⟩
  ·exact⟨16*(E*E*E*E),λ_ _ _ _ _ _ _ _ _ _ _ _ _ _=>oM _⟩
 obtain⟨W,hW⟩:=hP d Z;obtain⟨D,w,h⟩:=Dw.of (n:=n) (aBW (k:=d) (M:=C) (p:=q) Z (hH.chain λj hj=>⟨1,by decide,by simpa using Sp.mem hj⟩) (hE.all hw) hW) hlt hw λv hv hz=>hH.zero hv hz
 exact⟨D,w,W,h⟩
theorem a8M {n d r E:Nat} {C K:Nat->V} {q p:Nat->Nat} (hH:Hn d C q) (hw:Wd d n C) (hn:n<=4) (hE:Big d n C E) (hK:Hn r K p) (hI:dG n d C r K):r+d=n:=by
 obtain⟨D,w,W,h⟩:=bE5 hH hw hn hE;exact h.aLQ hK.ind hI
structure RS (ps:List Int) (n d r:Nat) (C K:Nat->V):Prop extends RT ps n d r C K where
 c8:Big d n C 8748
 k8:Big r n K 8748
 fc:∃ k F B,k<=4/\Fam d C k F B/\(Q2 k B\/(r=2/\∃ k' F',(∀ j,j<k'->Sp r K (F' j))/\(∃ D:Int,D≠0/\∀ v,Sp r K v->Sp k' F' (λx=>D*v x))/\∀ j,j<k'->∀ x,(F' j x).natAbs<=9))
 fk:∃ k F B,k<=4/\Fam r K k F B
theorem bGI(t:Nat)(h:t<=3):t*W9 t<=8748:=by rcases(show t=0\/t=1\/t=2\/t=3 by omega)with rfl|rfl|rfl|rfl <;> decide
theorem bGM(n d r:Nat)(hn:n<=4)(h:r+d=n)(hd:d<=3):r*W9 d<=8748:=by
 have hr:r<=4-d:=Z
 refine oR (Nat.mul_le_mul_right _ hr) ?_;rcases(show d=0\/d=1\/d=2\/d=3 by omega)with rfl|rfl|rfl|rfl <;> decide
theorem a78 {ps:List Int} {n:Nat} (hp:aS (ps,())=some (0,())) (hl:ps.length=n) (hn:n<=4) (rows:List (List Int)) (hk:rows.length<=3) (hlen:∀ r∈rows,r.length=n) (hr:∀ r∈rows,∀ a∈r,a.natAbs<=9) (vals:Bool) :
  ∃ d r C K,sS (ps,rows,vals,())=some ((ps,(Mr d n C,Mr r n K)),0,())/\RS ps n d r C K:=by
 obtain⟨t,r,S,K,⟨s,hS⟩,⟨p,hK⟩,wS,wK,hI,hI2,wR,bR,bS,bK,hb⟩:=a2M hp hl hn rows hk hlen hr;generalize hk':rows.length=k at *;generalize KQ rows=R at *;obtain⟨d,H,c,g1,hH,hs,wH⟩:=UD (k:=k) (n:=n) (M:=R) (.inl Z) Z Z wR (D:=1) (λi hi x hx=>Nat.le_succ_of_le (bR i hi x hx)) O;have hlt:=(Hn.dR hH wH).2;have hall:=bR.all wR;have d3:d<=3:=Z
 have span1:∀ j,j<d->∃ t:Int,t≠0/\Sp k R (λi=>t*H j i):=λj hj=>⟨1,by decide,by
  have:=(hs _).2 (Sp.mem hj);simpa using this⟩
 have hcr:=aBW (k:=k) (M:=R) (p:=c) (W:=W9 d) (B:=λ_=>9) Z (hH.chain span1) hall (bBP k d Z);obtain⟨D,w,hw⟩:=Dw.of (n:=n) hcr hlt wR λv hv hz=>hH.zero ((hs v).1 hv) hz
 have hrd:=hw.aLQ hK.ind hI;obtain⟨D0,hD0,hsp⟩:=aQU wR hH hs hlt (aYB hcr) hI hI2;have hmem:∀ j,j<k->Sp t S (R j):=λj hj=>(hI2 _).2 ⟨wR j hj,λx hx=>by
  rw[tF];exact((hI _).1 (Sp.mem hx)).2 j hj⟩
 have td:t<=d:=hS.ind.aLQ (M:=H) λi hi=>⟨D0,hD0,(hs _).1 (hsp _ (Sp.mem hi))⟩
 have dt:d<=t:=hH.ind.aLQ (M:=S) λi hi=>⟨1,by decide,by
  have:=Sp.trans hmem ((hs _).2 (Sp.mem hi));simpa using this⟩
 have s8:Big t n S 8748:=λi hi x _=>by
  have:=Hn.aNO hS ((aYB (aBW (k:=k) (M:=R) (p:=s) (W:=W9 t) (B:=λ_=>9) Z (hS.chain λj hj=>⟨D0,hD0,hsp _ (Sp.mem hj)⟩) hall (bBP k t Z))).mono λv hv=>Sp.trans hmem hv) i hi x;exact oR this (bGI t Z)
 have k8:Big r n K 8748:=λi hi x _=>oR (bBQ hn hw hH hs hall (bBP k d Z) hK hI i hi x) (bGM n d r hn hrd d3)
 have famS:Fam t S k R (λ_=>9):=bGU hmem ⟨D0,hD0,hsp⟩ hall;obtain⟨famK',hq⟩:=bGY hn d3 hw hH.inc hI;have back:=dG.back wR hI hI2;cases vals with
 | false =>
  refine⟨t,r,S,K,hb false,⟨⟨hp,hl,hn,⟨s,hS⟩,⟨p,hK⟩,wS,wK,bS,bK,back,hI2⟩,s8,k8,⟨k,R,λ_=>9,by omega,famS,.inl λ_ _ _ _ _=>(by show 9*9<=81; decide)⟩,⟨n,_,_,hn,famK'⟩⟩⟩
 | true =>
  refine⟨r,t,K,S,hb true,⟨⟨hp,hl,hn,⟨p,hK⟩,⟨s,hS⟩,wK,wS,bK,bS,hI2,back⟩,k8,s8,⟨n,_,_,hn,famK',?_⟩,⟨k,R,λ_=>9,by omega,famS⟩⟩⟩;rcases hq with hq|hq
  ·exact .inl hq
  ·exact .inr ⟨by omega,k,R,hmem,⟨D0,hD0,hsp⟩,hall⟩
theorem a4D(v:Int) (h0:0<=v) (h1:v<256) (rows:List (Int×Int×Int×Int)) (hk:rows.length<=3) (hr:∀ t∈rows,I8 t) (vals:Bool) :
  ∃ d r C K,qR ((v,(rows,vals)),())=some ((L12.getD (v%10).toNat [],(Mr d (L12.getD (v%10).toNat []).length C,Mr r (L12.getD (v%10).toNat []).length K)),())/\RS (L12.getD (v%10).toNat []) (L12.getD (v%10).toNat []).length d r C K:=by
 obtain⟨hp,hl⟩:=bE4 (v%10).toNat Z;have hP:=a7N v h0 h1;generalize L12.getD (v%10).toNat []=ps at hp hl hP ⊢;have key:=aU (step:=vR) (N:=2^64) (λs=>((v,(rows,vals)),([],([],[])),ps,(rows.take s).map (λt=>(List.range ps.length).map (λi=>(SF t i).tmod 10)),(s:Int),())) rows.length
  ((v,(rows,vals)),([],([],[])),ps,rows.map (λt=>(List.range ps.length).map (λi=>(SF t i).tmod 10)),()) Z (λs hs=>?_) ?_
 ·have key:C4 ((v,(rows,vals)),([],([],[])),ps,[],0,())=_:=key;obtain⟨d,r,C,K,b1,b2⟩:=a78 hp rfl hl (rows.map (λt=>(List.range ps.length).map (λi=>(SF t i).tmod 10))) (by rw[List.length_map]; omega) (λr hr=>by
   obtain⟨t,_,rfl⟩:=List.mem_map.1 hr;simp) (λr hr a ha=>by
   obtain⟨t,_,rfl⟩:=List.mem_map.1 hr;obtain⟨i,_,rfl⟩:=List.mem_map.1 ha;rw[Int.natAbs_tmod];have:=Nat.mod_lt (SF t i).natAbs (show 0<(10:Int).natAbs by decide);have e:(10:Int).natAbs=10:=rfl;omega) vals
  refine⟨d,r,C,K,?_,b2⟩;simp only[qR,hP,aD,key,b1]
 ·have e1:ltI (s:Int) (rows.length:Int)=true:=by rw[aE]; exact oT Z
  have e2:ltI (s:Int) 3=true:=by rw[aE]; exact oT Z
  have e3:=bO s Z;have e4:aF (s:Int) rows.length=true:=by rw[aL]; exact oT Z
  have e5:((s:Nat):Int).toNat=s:=oN _;have e6:rows.getD s (0,0,0,0)=rows[s]:=by simp[List.getD,hs]
  have e7:=aY3 ps hl rows[s] (hr _ (List.getElem_mem hs));have e8:∀ x:List Int,Nat.ble [x].length 1048576=true:=λ_=>rfl
  have e9:Nat.ble ((rows.take s).map (λt=>(List.range ps.length).map (λi=>(SF t i).tmod 10))).length 1048576=true:=by rw[dO,List.length_map,List.length_take]; exact oT Z
  have e10:(rows.take (s+1)).map (λt=>(List.range ps.length).map (λi=>(SF t i).tmod 10))=(rows.take s).map (λt=>(List.range ps.length).map (λi=>(SF t i).tmod 10))++[(List.range ps.length).map (λi=>(SF rows[s] i).tmod 10)]:=by rw[List.take_succ_eq_append_getElem hs,List.map_append]; rfl
  simp only[vR,e1,e2,oC,e4,e5,e6,e7,aD,e8,e9,e3,e10]
 ·have e1:ltI (rows.length:Int) (rows.length:Int)=false:=by rw[aE]; exact oF Z
  simp only[vR,e1,oD,List.take_length]
theorem bA1(k E r:Nat)(hr:r<=4):∃ W,a0E k (λ_=>E) W r:=by
 rcases(show r=0\/r=1\/r=2\/r=3\/r=4 by omega)with rfl|rfl|rfl|rfl|rfl
 ·exact⟨1,oM 1⟩
 ·exact⟨E,λ_ _=>oM _⟩
 ·exact⟨2*(E*E),λ_ _ _ _ _=>oM _⟩
 ·exact⟨4*(E*E*E),λ_ _ _ _ _ _ _ _ _=>oM _⟩
 ·exact⟨16*(E*E*E*E),λ_ _ _ _ _ _ _ _ _ _ _ _ _ _=>oM _⟩
theorem bFX(t:Nat)(h:t<=3):t*WW t<=1000000000:=by rcases(show t=0\/t=1\/t=2\/t=3 by omega)with rfl|rfl|rfl|rfl <;> decide
theorem bGH(n d z:Nat)(hn:n<=4)(h:z+d=n)(hd:d<=3):z*WW d<=1000000000:=by
 have hr:z<=4-d:=Z
 refine oR (Nat.mul_le_mul_right _ hr) ?_;rcases(show d=0\/d=1\/d=2\/d=3 by omega)with rfl|rfl|rfl|rfl <;> decide
section
variable {n d d' k k':Nat} {X Y F F':Nat->V} {B B':Nat->Nat}
theorem bHD(h:Fam d X k F B)(h':Fam d' Y k' F' B'){r:Nat}(hr:r<=3):a0E (k+k') (apB k B B') (WW r) r:=by
 rcases(show r=0\/r=1\/r=2\/r=3 by omega)with rfl|rfl|rfl|rfl
 ·exact oM 1
 ·exact h.bG4 h'
 ·exact h.bG6 h'
 ·exact h.bG7 h'
theorem _root_.Go.Lz.Fam.bHA (h:Fam d X k F B)(h':Fam d' Y k' F' B'):∀ j,j<k+k'->Sp (d+d') (yO d X Y) (yO k F F' j):=λj hj=>by
 by_cases g:j<k
 ·rw[NW F F' g]; exact aLJ (h.mem j g)
 ·have e:yO k F F' j=F' (j-k):=by simp[yO,g]
  rw[e]; exact aG8 (h'.mem _ Z)
theorem _root_.Go.Lz.Fam.bG9 (h:Fam d X k F B)(h':Fam d' Y k' F' B'):∃ D:Int,D≠0/\∀ v,Sp (d+d') (yO d X Y) v->Sp (k+k') (yO k F F') (λx=>D*v x):=by
 obtain⟨D,h0,h1⟩:=h.span;obtain⟨D',h0',h1'⟩:=h'.span;refine⟨D*D',Int.mul_ne_zero h0 h0',λv hv=>?_⟩;obtain⟨a,b,ha,hb,rfl⟩:=a11 hv;have g1:=aLJ (k':=k') (M':=F') (Sp.smul D' (h1 a ha));have g2:=aG8 (k:=k) (M:=F) (Sp.smul D (h1' b hb));refine cast (oZ _ ?_) (Sp.sum g1 g2)
 funext x
 show D'*(D*a x)+D*(D'*b x)=D*D'*(a x+b x);grind
theorem Wd.yO (wX:Wd d n X)(wY:Wd d' n Y):Wd (d+d') n (Lz.yO d X Y):=λi hi x hx=>by
 by_cases g:i<d
 ·rw[NW X Y g]; exact wX i g x hx
 ·have e:Lz.yO d X Y i=Y (i-d):=by simp[Lz.yO,g]
  rw[e]; exact wY _ Z x hx
theorem Big.yO {E:Nat}(wX:Big d n X E)(wY:Big d' n Y E):Big (d+d') n (Lz.yO d X Y) E:=λi hi x hx=>by
 by_cases g:i<d
 ·rw[NW X Y g]; exact wX i g x hx
 ·have e:Lz.yO d X Y i=Y (i-d):=by simp[Lz.yO,g]
  rw[e]; exact wY _ Z x hx
theorem bBX {m k:Nat} {A F:Nat->V} (mem:∀ j,j<k->Sp m A (F j)) (span:∃ D:Int,D≠0/\∀ v,Sp m A v->Sp k F (λx=>D*v x)) (y:V):Ker n m A y↔Ker n k F y:=by
 constructor
 ·intro g;exact⟨g.1,λj hj=>g.span (mem j hj)⟩
 ·intro g;obtain⟨D,h0,h1⟩:=span;refine⟨g.1,λi hi=>?_⟩;have:=g.span (h1 _ (Sp.mem hi));rw[tF]at this;have e:(λx=>D*A i x)=λx=>(λ_=>(0:Int)) x+D*A i x:=by funext x; show D*A i x=0+D*A i x; omega
  rw[e,N3,N0,Int.zero_add,tF]at this;exact(Int.mul_eq_zero.1 this).resolve_left h0
theorem aX3 {z t:Nat} {Z S:Nat->V} {s:Nat->Nat} (hn:n<=4) (hz:z=0) (hS:Hn t S s) (hI2:dG n z Z t S):Big t n S 4:=λi hi x _=>by
 have hwS:Wd t n S:=λi hi x hx=>hI2.width hi x hx
 obtain⟨t4,hlt⟩:=Hn.dR hS hwS;have hd:Dg t S t s 1:=⟨1,λj=>un (s j),by decide,λj hj=>⟨(hI2 _).2 ⟨λc hc=>E9 (by have:=hlt j hj; omega),λx hx=>by omega⟩,M5 _,λl hl hne=>E9 λe=>hne (by
  rcases Nat.lt_trichotomy l j with g|g|g
  ·have:=hS.inc l j g hj; omega
  ·exact g
  ·have:=hS.inc j l g hl; omega),λx=>by by_cases e:x=s j <;> simp[un,e]⟩⟩
 have:=Hn.aNO hS hd i hi x;omega
theorem a8K(hn:n<=4) (hk:k<=4) (hk':k'<=4) (h:Fam d X k F B) (h':Fam d' Y k' F' B') (wX:Wd d n X) (wY:Wd d' n Y)
  {z t:Nat} {Z S:Nat->V} {c s:Nat->Nat} (hZ:Hn z Z c) (hI:dG n (d+d') (yO d X Y) z Z) (hS:Hn t S s) (hI2:dG n z Z t S) :
  Big z n Z 1000000000/\Big t n S 1000000000/\z+t=n/\∃ D:Int,D≠0/\∀ v,Sp t S v->Sp (d+d') (yO d X Y) (λx=>D*v x):=by
 have hle:=h.a4G h';have hmem:=h.bHA h';have hspan:=h.bG9 h';have wXY:=wX.yO wY;have wF:∀ i,i<k+k'->∀ x,n<=x->yO k F F' i x=0:=λi hi x hx=>Sp.iA (λj hj=>wXY j hj x hx) (hmem i hi)
 have b29:∀ i,i<k+k'->∀ x,(yO k F F' i x).natAbs<=2916:=λi hi x=>by
  by_cases g:i<k
  ·rw[NW F F' g]; exact oR (h.le i g x) (h.g1 i g)
  ·have e:yO k F F' i=F' (i-k):=by simp[yO,g]
   rw[e]; exact oR (h'.le _ za x) (h'.g1 _ za)
 obtain⟨f,H,p,g1,hH,hs,wH⟩:=UD (k:=k+k') (n:=n) (M:=yO k F F') (.inr hn) za za wF (D:=4) (λi hi x hx=>oR (b29 i hi x) O) O;obtain⟨f4,hlt⟩:=Hn.dR hH wH;have span1:∀ j,j<f->∃ t:Int,t≠0/\Sp (k+k') (yO k F F') (λi=>t*H j i):=λj hj=>⟨1,by decide,by
  have:=(hs _).2 (Sp.mem hj);simpa using this⟩
 obtain⟨W0,hW0⟩:=bA1 (k+k') 2916 f za;have hcr:=aBW (p:=p) za (hH.chain span1) b29 hW0;obtain⟨D,w,hw⟩:=Dw.of (n:=n) hcr hlt wF λv hv hz=>hH.zero ((hs v).1 hv) hz
 have hIF:dG n (k+k') (yO k F F') z Z:=λy=>(hI y).trans (bBX hmem hspan y)
 have hr:=hw.aLQ hZ.ind hIF;obtain⟨D0,hD0,hsp⟩:=aQU wF hH hs hlt (aYB hcr) hIF hI2;have tf:t<=f:=hS.ind.aLQ (M:=H) λi hi=>⟨D0,hD0,(hs _).1 (hsp _ (Sp.mem hi))⟩
 have hmemS:∀ v,Sp (k+k') (yO k F F') v->Sp t S v:=λv hv=>(hI2 _).2 ⟨λx hx=>Sp.iA (λj hj=>wF j hj x hx) hv,λx hx=>by
  rw[tF];exact((hIF _).1 (Sp.mem hx)).span hv⟩
 have ft:f<=t:=hH.ind.aLQ (M:=S) λi hi=>⟨1,by decide,by
  have:=hmemS _ ((hs _).2 (Sp.mem hi));simpa using this⟩
 refine⟨λi hi x _=>?_,?_,by omega,D0,hD0,λv hv=>Sp.trans hmem (hsp v hv)⟩
 ·have f3:f<=3:=za
  exact oR (bBQ hn hw hH hs hle (bHD h h' f3) hZ hIF i hi x) (bGH n f z hn hr f3)
 ·by_cases t3:t<=3
  ·intro i hi x _;have:=Hn.aNO hS ((aYB (aBW (p:=s) za (hS.chain λj hj=>⟨D0,hD0,hsp _ (Sp.mem hj)⟩) hle (bHD h h' t3))).mono hmemS) i hi x;exact oR this (bFX t t3)
  ·intro i hi x hx;exact oR (aX3 hn (show z=0 by omega) hS hI2 i hi x hx) O
end
theorem aPV {d n:Nat} {M:Nat->V} (A:List (List ByteArray)) (hd:d<=12) (hn:n<=12) (hM:Big d n M 1000000000) :
  cV () (Mr d n M,()) A=some ((List.range d).map (λi=>(A.length+i,0,n)),A++(List.range d).map (λi=>Zr n (M i))):=by
 have key:=aU (step:=eA) (N:=2^64)
  (λt=>((List.range t).map (λi=>(A.length+i,0,n)),Mr d n M,(d:Int),(t:Int),A++(List.range t).map (λi=>Zr n (M i)),())) d ((List.range d).map (λi=>(A.length+i,0,n)),A++(List.range d).map (λi=>Zr n (M i)),()) Z (λt ht=>?_) ?_
 ·have e0:A++(List.range 0).map (λi=>Zr n (M i))=A:=R
  have key:p8 ([],Mr d n M,(d:Int),0,A++(List.range 0).map (λi=>Zr n (M i)),())=_:=key;rw[e0]at key;simp only[cV,cN,key,aD]
 ·have e1:ltI (t:Int) (d:Int)=true:=by rw[aE]; exact oT Z
  have e2:aF (t:Int) d=true:=by rw[aL]; exact oT Z
  have e3:((t:Nat):Int).toNat=t:=oN _;have e5:=aMF (Vr n (M t)) (by rw[pL]; omega) λa ha=>by have:=aLO (λx hx=>hM t ht x hx) a ha; omega
  have e6:(A++(List.range t).map (λi=>Zr n (M i))).length=A.length+t:=R
  have e7:Nat.ble [(A.length+t,0,n)].length 1048576=true:=rfl;have e8:Nat.ble ((List.range t).map (λi=>(A.length+i,0,n))).length 1048576=true:=by rw[dO,List.length_map,List.length_range]; exact oT Z
  have e9:=bO t Z;have e10:(Zr n (M t)).length=n:=pO _ _;have e11:(A++(List.range t).map (λi=>Zr n (M i)))++[Zr n (M t)]=A++(List.range (t+1)).map (λi=>Zr n (M i)):=by rw[List.range_succ,List.map_append,List.append_assoc]; rfl
  have e12:(List.range t).map (λi=>(A.length+i,0,n))++[(A.length+t,0,n)]=(List.range (t+1)).map (λi=>(A.length+i,0,n)):=by rw[List.range_succ,List.map_append]; rfl
  rw[aKX]at e5;simp only[eA,e1,cN,e2,e3,aBX M ht,e5,aD,e6,e7,e8,e9,e10,e11,e12,oC]
 ·have e1:ltI (d:Int) (d:Int)=false:=by rw[aE]; exact oF Z
  simp only[eA,e1,oD]
section
variable {d n d':Nat} {A B:Nat->V} {p q:Nat->Nat}
theorem aJ9(hA:Hn d A p)(hB:Hn d' B q)(hn:n<=12)(wA:Wd d n A)(wB:Wd d' n B)(bA:Big d n A 1000000000)(bB:Big d' n B 1000000000):tX (((n:Int),Mr d n A),((n:Int),Mr d' n B),())=some (0,()):=by
 have hd:=(Hn.dR hA wA).1;have hd':=(Hn.dR hB wB).1;have c1:=QC hA wA Z hn bA;have c2:=QC hB wB Z hn bB;have e0:eqI 0 0=true:=O
 have en:eqI (n:Int) (n:Int)=true:=by rw[eG]; exact oT rfl
 have key:=aU (step:=rH) (N:=2^64) (λt=>(((n:Int),Mr d n A),((n:Int),Mr d' n B),[((n:Int),Mr d n A),((n:Int),Mr d' n B)],2,(t:Int),())) 2 (.inr (((n:Int),Mr d n A),((n:Int),Mr d' n B),())) Z (λt ht=>?_) ?_
 ·have key:CI (((n:Int),Mr d n A),((n:Int),Mr d' n B),[((n:Int),Mr d n A),((n:Int),Mr d' n B)],([((n:Int),Mr d n A),((n:Int),Mr d' n B)].length:Int),0,())=_:=key;simp only[tX,key,aD,gB,en,Bool.not_true,oD]
 ·have e1:ltI (t:Int) 2=true:=by rw[aE]; exact oT Z
  have e3:=bO t Z;rcases(show t=0\/t=1 by omega)with rfl|rfl
  ·have e2:aF ((0:Nat):Int) 2=true:=O
   simp only[rH,e1,oC,e3];show (bif aF ((0:Nat):Int) 2 then aC (pU (((n:Int),Mr d n A),())) _ else none)=_;simp only[e2,oC,c1,aD,e0,Bool.not_true,oD]
  ·have e2:aF ((1:Nat):Int) 2=true:=O
   simp only[rH,e1,oC,e3];show (bif aF ((1:Nat):Int) 2 then aC (pU (((n:Int),Mr d' n B),())) _ else none)=_;simp only[e2,oC,c2,aD,e0,Bool.not_true,oD]
 ·have e1:ltI ((2:Nat):Int) 2=false:=O
  simp only[rH,e1,oD]
end
theorem aQS {ps:List Int}(hp:aS (ps,())=some (0,())):0<ps.length:=by
 cases ps with
 | nil =>
  have:aS (([]:List Int),())=some (13,()):=rfl;rw[this]at hp;cases hp
 | cons a l=>simp
theorem aJX {ps:List Int}(h0:0<ps.length)(h1:ps.length<=1048576):lD (ps,())=some (ps,()):=by
 have e1:Nat.blt 0 ps.length=true:=by rw[b9]; simpa using h0
 have e2:Nat.ble ps.length 1048576=true:=by rw[dO]; simpa using h1
 simp only[lD,e1,e2,oC]
theorem Hn.width {d k n:Nat}{M X:Nat->V}(hs:Same k X d M)(hw:Wd k n X):Wd d n M:=λi hi x hx=>Sp.iA (λj hj=>hw j hj x hx) ((hs _).2 (Sp.mem hi))
theorem aQF {d n:Nat} {M:Nat->V} (hd:d<=1000) (hn:n<=4) (hw:Wd d n M) {E D:Nat} (hE:Big d n M E) (h1:1<=E) (hD:E<=10^D) (hD2:D<=154):∃ r K p,r<=n/\Hn r K p/\dG n d M r K/\Wd r n K:=by
 have hB:=hE.wide (k:=d) (M:=M) h1;obtain⟨f,W,q,g1,g2,g3,g4⟩:=UD (k:=n) (n:=d+n) (M:=wide n d M) (.inl hn) Z Z hw.wide (λi hi x hx=>oR (hB i hi x hx) hD) hD2;obtain⟨j,b1,b2,b3⟩:=Hn.split g2 d;obtain⟨c1,c2⟩:=Q3 g2 g3 b1 b2 b3;exact⟨f-j,_,_,by omega,c1,c2,λi hi x hx=>c2.width hi x hx⟩
def wI(d n:Nat) (A B:Nat->V):Nat->V:=λi=>if i<d then (λx=>if x<n then A i x else A i (x-n)) else B (i-d)
section
variable {d n d':Nat} {A B:Nat->V}
theorem aPD {i:Nat}(h:i<d):wI d n A B i=λx=>if x<n then A i x else A i (x-n):=by simp only[wI,h,if_true]
theorem aMO(i:Nat):wI d n A B (d+i)=B i:=by
 have e:¬ d+i<d:=Z
 have e2:d+i-d=i:=Z
 simp only[wI,e,if_false,e2]
theorem bD1(wA:Wd d n A)(wB:Wd d' n B){v:V}(h:Sp (d+d') (wI d n A B) v):∃ a b,Sp d A a/\Sp d' B b/\(∀ x,x<n->v x=a x+b x)/\∀ x,v (n+x)=a x:=by
 induction h with
 | zero=>exact⟨_,_,.zero,.zero,λ_ _=>rfl,λ_=>rfl⟩
 | add j t hj _ ih =>
  obtain⟨a,b,ha,hb,h1,h2⟩:=ih
  by_cases g:j<d
  ·refine⟨_,b,Sp.comb t ha (Sp.mem g),hb,λx hx=>?_,λx=>?_⟩
   ·rw[aPD g];have:=h1 x hx;simp only[hx,if_true]; omega
   ·rw[aPD g];have:=h2 x;have e1:¬ n+x<n:=Z
    have e2:n+x-n=x:=Z
    simp only[e1,if_false,e2,this]
  ·obtain⟨i,rfl⟩:∃ i,j=d+i:=⟨j-d,by omega⟩;refine⟨a,_,ha,Sp.comb t hb (Sp.mem (j:=i) Z),λx hx=>?_,λx=>?_⟩
   ·rw[aMO];have:=h1 x hx;simp only[]; omega
   ·rw[aMO];have h5:=h2 x;have h6:=wB i Z (n+x) Z;simp only[h5,h6,Int.mul_zero,Int.add_zero]
theorem bAA {a b:V}(wB:Wd d' n B)(ha:Sp d A a)(hb:Sp d' B b):Sp (d+d') (wI d n A B) (λx=>if x<n then a x+b x else a (x-n)):=by
 have h1:Sp (d+d') (wI d n A B) (λx=>if x<n then a x else a (x-n)):=by
  induction ha with
  | zero =>
   refine cast (oZ _ ?_) (Sp.zero (k:=d+d') (M:=wI d n A B))
   funext x; split <;> rfl
  | add j t hj _ ih =>
   have:=Sp.add j t (show j<d+d' by omega) ih;rw[aPD hj]at this;refine cast (oZ _ ?_) this
   funext x
   by_cases g:x<n
   ·simp only[g,if_true]
   ·simp only[g,if_false]
 have h2:Sp (d+d') (wI d n A B) b:=Sp.trans (λj hj=>by have:=Sp.mem (k:=d+d') (M:=wI d n A B) (j:=d+j) Z; rwa[aMO]at this) hb;have hz:∀ x,n<=x->b x=0:=λx hx=>Sp.iA (λj hj=>wB j hj x hx) hb
 refine cast (oZ _ ?_) (Sp.sum h1 h2)
 funext x
 by_cases g:x<n
 ·simp only[g,if_true]
 ·simp only[g,if_false,hz x Z,Int.add_zero]
theorem bFH(wA:Wd d n A)(wB:Wd d' n B):Wd (d+d') (n+n) (wI d n A B):=λi hi x hx=>by
 by_cases g:i<d
 ·rw[aPD g];have e:¬ x<n:=Z
  simp only[e,if_false];exact wA i g _ Z
 ·obtain⟨j,rfl⟩:∃ j,i=d+j:=⟨i-d,by omega⟩;rw[aMO]; exact wB j Z x Z
theorem bEB {E:Nat}(wB:Wd d' n B)(bA:Big d n A E)(bB:Big d' n B E):Big (d+d') (n+n) (wI d n A B) E:=λi hi x hx=>by
 by_cases g:i<d
 ·rw[aPD g];show (if x<n then A i x else A i (x-n)).natAbs<=E;split
  next h=> exact bA i g x h
  ·exact bA i g _ Z
 ·obtain⟨j,rfl⟩:∃ j,i=d+j:=⟨i-d,by omega⟩;rw[aMO];rcases oG x n with h|h
  ·exact bB j Z x h
  ·rw[wB j Z x h]; simp
theorem bED(hA:Ind d A)(hB:Ind d' B)(wB:Wd d' n B)(wA:Wd d n A):Ind (d+d') (wI d n A B):=λc hc=>by
 have h1:∀ i,i<d->c i=0:=hA c λx=>by
  have:=hc (n+x);rw[aXI,QA (n:=d') λi hi=>by rw[aMO,wB i hi _ Z,Int.mul_zero],Int.add_zero]at this;rw[<- this];refine CN λi hi=>?_
  have e1:¬ n+x<n:=Z
  have e2:n+x-n=x:=Z
  rw[aPD hi];simp only[e1,if_false,e2]
 have h2:∀ i,i<d'->c (d+i)=0:=hB (λi=>c (d+i)) λx=>by
  have:=hc x;rw[aXI,QA (n:=d) λi hi=>by rw[h1 i hi,Int.zero_mul],Int.zero_add]at this;rw[<- this];exact CN λi _=>by rw[aMO]
 intro i hi
 by_cases g:i<d
 ·exact h1 i g
 ·have:=h2 (i-d) Z;rwa[show d+(i-d)=i by omega]at this
theorem a3H(wA:Wd d n A) (wB:Wd d' n B) {w:Nat} {W:Nat->V} {p:Nat->Nat} (hH:Hn w W p) (hs:Same (d+d') (wI d n A B) w W) {j:Nat} (hj:j<=w) (h1:∀ i,i<j->p i<n) (h2:∀ i,j<=i->i<w->n<=p i) :
  Hn (w-j) (λi y=>W (j+i) (n+y)) (λi=>p (j+i)-n)/\(∀ v,Sp (w-j) (λi y=>W (j+i) (n+y)) v↔Sp d A v/\Sp d' B v)/\Hn j (λi x=>if x<n then W i x else 0) p/\Same (d+d') (yO d A B) j (λi x=>if x<n then W i x else 0):=by
 refine⟨⟨λa b hab hb=>?_,λi hi x hx=>?_,λi hi=>?_,λa b hab hb=>?_⟩,λy=>⟨λhy=>?_,λ⟨ya,yb⟩=>?_⟩,⟨λa b hab hb=>hH.inc a b hab Z,λi hi x hx=>?_,λi hi=>?_,λa b hab hb=>?_⟩,λv=>⟨λhv=>?_,λhv=>?_⟩⟩
 ·have g1:=h2 (j+a) Z Z;have g2:=hH.inc (j+a) (j+b) Z Z;show p (j+a)-n<p (j+b)-n;omega
 ·exact hH.low (j+i) Z (n+x) (by have:x<p (j+i)-n:=hx; omega)
 ·have g1:=h2 (j+i) Z Z;show 0<W (j+i) (n+(p (j+i)-n));rw[show n+(p (j+i)-n)=p (j+i)by omega];exact hH.pos (j+i) Z
 ·have g1:=h2 (j+b) Z Z;show 0<=W (j+a) (n+(p (j+b)-n))/\W (j+a) (n+(p (j+b)-n))<W (j+b) (n+(p (j+b)-n));rw[show n+(p (j+b)-n)=p (j+b)by omega];exact hH.red (j+a) (j+b) Z Z
 ·have key:∃ v,Sp w W v/\(∀ x,x<n->v x=0)/\y=λc=>v (n+c):=by
   induction hy with
   | zero=>exact⟨_,.zero,λ_ _=>rfl,rfl⟩
   | add i t hi _ ih =>
    obtain⟨v,g1,g2,rfl⟩:=ih;refine⟨_,Sp.add (j+i) t Z g1,λx hx=>?_,rfl⟩;have:=hH.low (j+i) Z x (by have:=h2 (j+i) Z Z; omega);simp only[g2 x hx,this,Int.mul_zero,Int.add_zero]
  obtain⟨v,g1,g2,rfl⟩:=key;obtain⟨a,b,ha,hb,q1,q2⟩:=bD1 wA wB ((hs v).2 g1);have e:(λc=>v (n+c))=a:=by funext c; exact q2 c
  rw[e];refine⟨ha,?_⟩;have hb':=Sp.smul (-1) hb;refine cast (oZ _ ?_) hb'
  funext x
  rcases oG x n with g|g
  ·have:=q1 x g;have:=g2 x g;omega
  ·have z1:b x=0:=Sp.iA (λj hj=>wB j hj x g) hb;have z2:a x=0:=Sp.iA (λj hj=>wA j hj x g) ha;rw[z1,z2]; rfl
 ·have hv:=bAA (n:=n) wB ya (Sp.smul (-1) yb);have:=Hn.drop hH hj h1 ((hs _).1 hv) (λx hx=>by simp only[hx,if_true]; omega);have key:∀ {v:V},Sp (w-j) (λi=>W (j+i)) v->Sp (w-j) (λi y=>W (j+i) (n+y)) (λc=>v (n+c)):=by
   intro v hv
   induction hv with
   | zero=>exact .zero
   | add i t hi _ ih=>exact Sp.add i t hi ih
  refine cast (oZ _ ?_) (key this)
  funext c
  have e1:¬ n+c<n:=Z
  have e3:n+c-n=c:=Z
  simp only[e1,if_false,e3]
 ·have:=hH.low i Z x hx;show (if x<n then W i x else 0)=0;split
  ·exact this
  ·rfl
 ·have:=hH.pos i Z;have:=h1 i hi;show 0<(if p i<n then W i (p i) else 0);rw[if_pos this]; assumption
 ·have g:=h1 b hb;have:=hH.red a b hab Z;show 0<=(if p b<n then W a (p b) else 0)/\(if p b<n then W a (p b) else 0)<(if p b<n then W b (p b) else 0);rw[if_pos g,if_pos g]; exact this
 ·obtain⟨a,b,ha,hb,rfl⟩:=a11 hv;have h3:=(hs _).1 (bAA (n:=n) wB ha hb);have key:∀ {v:V},Sp w W v->Sp w (λi x=>if x<n then W i x else 0) (λx=>if x<n then v x else 0):=by
   intro v hv
   induction hv with
   | zero =>
    refine cast (oZ _ ?_) (Sp.zero (k:=w) (M:=λi x=>if x<n then W i x else 0))
    funext x; split <;> rfl
   | add i t hi _ ih =>
    refine cast (oZ _ ?_) (Sp.add i t hi ih)
    funext x
    by_cases g:x<n
    ·simp only[g,if_true]
    ·simp only[g,if_false]; simp
  have h4:=(aZA (k:=w) (d:=j) (λi x=>if x<n then W i x else 0) hj (λi g1 g2=>by
   funext x
   show (if x<n then W i x else 0)=0;split
   ·exact hH.low i g2 x (by have:=h2 i g1 g2; omega)
   ·rfl) _).1 (key h3)
  refine cast (oZ _ ?_) h4
  funext x
  by_cases g:x<n
  ·simp only[g,if_true]
  ·have z1:b x=0:=Sp.iA (λj hj=>wB j hj x Z) hb;have z2:a x=0:=Sp.iA (λj hj=>wA j hj x Z) ha;simp only[g,if_false,z1,z2]; rfl
 ·refine Sp.trans (λi hi=>?_) hv;obtain⟨a,b,ha,hb,q1,q2⟩:=bD1 wA wB ((hs _).2 (Sp.mem (M:=W) (show i<w by omega)));refine cast (oZ _ ?_) (Sp.sum (aLJ (k':=d') (M':=B) ha) (aG8 (k:=d) (M:=A) hb))
  funext x
  show a x+b x=if x<n then W i x else 0
  by_cases g:x<n
  ·rw[if_pos g,q1 x g]
  ·have z1:b x=0:=Sp.iA (λj hj=>wB j hj x Z) hb;have z2:a x=0:=Sp.iA (λj hj=>wA j hj x Z) ha;rw[if_neg g,z1,z2]; rfl
end
theorem aPW(a b:List ByteArray) (ha:a.length<=1000) (hb:b.length<=1000):cJ ([a,b],())=some (a++b):=by
 have key:=aU (step:=cL) (N:=2^64) (λt=>([a,b],(if t=0 then 0 else if t=1 then (a.length:Int) else ((a.length+b.length:Nat):Int)),[a,b],2,(t:Int),())) 2 ([a,b],((a.length+b.length:Nat):Int),()) Z (λt ht=>?_) ?_
 ·have key:fH ([a,b],0,[a,b],([a,b].length:Int),0,())=_:=key;have key2:=aU (step:=cM) (N:=2^64) (λt=>((if t=0 then [] else if t=1 then a else a++b),[a,b],2,(t:Int),())) 2 (a++b,()) Z (λt ht=>?_) ?_
  ·have key2:fG ([],[a,b],([a,b].length:Int),0,())=_:=key2;have e1:ltI ((a.length+b.length:Nat):Int) 0=false:=by rw[aE]; exact oF Z
   have e2:aB .i64 (((a.length+b.length:Nat):Int)-0)=((a.length+b.length:Nat):Int):=by rw[wrap64 Z Z]; omega
   have hg:cR ((),((a.length+b.length:Nat):Int),())=some []:=by
    by_cases h0:a.length+b.length=0
    ·have e3:ltI 0 ((a.length+b.length:Nat):Int)=false:=by rw[aE]; exact oF Z
     simp only[cR,e1,e2,e3,oD]
    ·have e3:ltI 0 ((a.length+b.length:Nat):Int)=true:=by rw[aE]; exact oT Z
     have e4:ltI 1048576 ((a.length+b.length:Nat):Int)=false:=by rw[aE]; exact oF Z
     have e5:(List.replicate (((a.length+b.length:Nat):Int)).toNat (ByteArray.empty:Ty.den .str)).length=a.length+b.length:=by rw[List.length_replicate,oN]
     have e6:Nat.ble 0 0=true:=rfl;have e7:Nat.ble 0 (a.length+b.length)=true:=by rw[dO]; exact oT Z
     have e8:Nat.blt 0 (a.length+b.length)=true:=by rw[b9]; exact oT Z
     simp only[cR,e1,e2,e3,e4,e5,e6,e7,e8,oD,oC,Bool.not_false,Nat.sub_self,List.take_zero]
   simp only[cJ,key,aD,hg,key2]
  ·have e1:ltI (t:Int) 2=true:=by rw[aE]; exact oT Z
   have e3:=bO t Z;rcases(show t=0\/t=1 by omega)with rfl|rfl
   ·have e2:aF ((0:Nat):Int) 2=true:=O
    have e5:Nat.ble a.length 1048576=true:=by rw[dO]; exact oT Z
    simp only[cM,e1,oC,e3];show (bif aF ((0:Nat):Int) 2 then bif Nat.ble a.length 1048576 then bif Nat.ble 0 1048576 then _ else none else none else none)=_;simp only[e2,e5,oC];rfl
   ·have e2:aF ((1:Nat):Int) 2=true:=O
    have e5:Nat.ble a.length 1048576=true:=by rw[dO]; exact oT Z
    have e6:Nat.ble b.length 1048576=true:=by rw[dO]; exact oT Z
    simp only[cM,e1,oC,e3];show (bif aF ((1:Nat):Int) 2 then bif Nat.ble b.length 1048576 then bif Nat.ble a.length 1048576 then _ else none else none else none)=_;simp only[e2,e5,e6,oC];rfl
  ·have e1:ltI ((2:Nat):Int) 2=false:=O
   simp only[cM,e1,oD];rfl
 ·have e1:ltI (t:Int) 2=true:=by rw[aE]; exact oT Z
  have e3:=bO t Z;rcases(show t=0\/t=1 by omega)with rfl|rfl
  ·have e2:aF ((0:Nat):Int) 2=true:=O
   have e4:aB .i64 (0+(a.length:Int))=(a.length:Int):=by rw[wrap64 Z Z]; omega
   have e5:ltI (a.length:Int) 0=false:=by rw[aE]; exact oF Z
   simp only[cL,e1,oC,e3];show (bif aF ((0:Nat):Int) 2 then bif ltI (aB .i64 (0+(a.length:Int))) 0 then none else some (Sum.inl ([a,b],aB .i64 (0+(a.length:Int)),[a,b],2,((0+1:Nat):Int),())) else none)=_;simp only[e2,e4,e5,oC,oD];rfl
  ·have e2:aF ((1:Nat):Int) 2=true:=O
   have e4:aB .i64 ((a.length:Int)+(b.length:Int))=((a.length+b.length:Nat):Int):=by rw[wrap64 Z Z]; omega
   have e5:ltI ((a.length+b.length:Nat):Int) 0=false:=by rw[aE]; exact oF Z
   simp only[cL,e1,oC,e3];show (bif aF ((1:Nat):Int) 2 then bif ltI (aB .i64 ((a.length:Int)+(b.length:Int))) 0 then none else some (Sum.inl ([a,b],aB .i64 ((a.length:Int)+(b.length:Int)),[a,b],2,((1+1:Nat):Int),())) else none)=_;simp only[e2,e4,e5,oC,oD];rfl
 ·have e1:ltI ((2:Nat):Int) 2=false:=O
  simp only[cL,e1,oD];rfl
end Go.PM
