/- Texts of one proof, joined (10). -/
import Derived.Test.YtcbgclaonahijaaGreatDoorQF9
set_option linter.unusedSimpArgs false
set_option linter.unusedVariables false
set_option linter.defProp false
set_option maxRecDepth 100000
noncomputable section
namespace Go.Lz
def d2(a b:V)(x y:Nat):Int:=a x*b y-a y*b x
def d3(a b c:V)(x y z:Nat):Int:=d2 a b x y*c z-d2 a b x z*c y+d2 a b y z*c x
def d4(a b c d:V)(x y z u:Nat):Int:=d3 a b c x y z*d u-d3 a b c x y u*d z+d3 a b c x z u*d y-d3 a b c y z u*d x
structure Lin (f:V->Int):Prop where
 zero:f (λ_=>0)=0
 add:∀ u t m,f (λi=>u i+t*m i)=f u+t*f m
def Lin.sp {f}(h:Lin f){k M}(hz:∀ j,j<k->f (M j)=0){v}(a:Sp k M v):f v=0:=by
 induction a with
 | zero=>exact h.zero;| add j t hj _ ih=>rw[h.add,ih,hz j hj]; simp
def Lin.pick {f:V->Int} (h:Lin f) {k:Nat} {M:Nat->V} {u:V} {t:Int} (ht:t≠0) (d:Sp k M (λi=>t*u i)) (hu:f u≠0):∃ j,j<k/\f (M j)≠0:=by
 refine Classical.byContradiction λhn=>?_;have hz:∀ j,j<k->f (M j)=0:=λj g=>Classical.byContradiction λb=>hn ⟨j,g,b⟩
 have c:=h.sp hz d;have a:=h.add (λ_=>0) t u;have e:(λi=>(0:Int)+t*u i)=λi=>t*u i:=by funext i; simp
 rw[e,c,h.zero,Int.zero_add]at a;rcases Int.mul_eq_zero.1 a.symm with h3|h3;exact ht h3;exact hu h3
def a4Y {x y:Int}{A B}(a:x.natAbs<=A)(b:y.natAbs<=B):(x*y).natAbs<=A*B:=by rw[Int.natAbs_mul]; exact Nat.mul_le_mul a b
def d2B {a b E}(d:∀ x,(a x).natAbs<=E)(c:∀ x,(b x).natAbs<=E) x y:(d2 a b x y).natAbs<=2*(E*E):=by
 have f:=a4Y (d x) (c y);have e:=a4Y (d y) (c x);unfold d2;omega
def d3B {a b c E}(d:∀ x,(a x).natAbs<=E)(f:∀ x,(b x).natAbs<=E)(g:∀ x,(c x).natAbs<=E) x y z:(d3 a b c x y z).natAbs<=6*(E*E*E):=by
 have h:=a4Y (d2B d f x y) (g z);have i:=a4Y (d2B d f x z) (g y);have j:=a4Y (d2B d f y z) (g x);have e:2*(E*E)*E=2*(E*E*E):=W
 unfold d3;omega
def d4B {a b c d E}(f:∀ x,(a x).natAbs<=E)(g:∀ x,(b x).natAbs<=E)(h:∀ x,(c x).natAbs<=E)(hd:∀ x,(d x).natAbs<=E) x y z u:(d4 a b c d x y z u).natAbs<=24*(E*E*E*E):=by
 have i:=a4Y (d3B f g h x y z) (hd u);have j:=a4Y (d3B f g h x y u) (hd z);have k:=a4Y (d3B f g h x z u) (hd y);have l:=a4Y (d3B f g h y z u) (hd x);have e:6*(E*E*E)*E=6*(E*E*E*E):=W
 unfold d4;omega
def Dg(k:Nat) (M:Nat->V) (r:Nat) (p:Nat->Nat) (W:Nat):Prop :=∃ (D:Int) (w:Nat->V),D≠0/\∀ j,j<r->Sp k M (w j)/\w j (p j)=D/\(∀ i,i<r->i≠j->w j (p i)=0)/\∀ x,(w j x).natAbs<=W
def Dg.mono {k k' M M' r p W}(h:Dg k M r p W)(d:∀ v,Sp k M v->Sp k' M' v):Dg k' M' r p W:=by
 have⟨D,w,c,b⟩:=h;exact⟨D,w,c,λj a=>⟨d _ (b j a).1,(b j a).2⟩⟩
section
variable {k:Nat} {M:Nat->V}
def Sp.b0I {a b}(d:a<k)(c:b<k) s t:Sp k M (λi=>s*M a i+t*M b i):=Sp.comb t (Sp.smul s (Sp.mem d)) (Sp.mem c)
def Sp.bXV {a b c}(f:a<k)(d:b<k)(e:c<k) s t u:Sp k M (λi=>s*M a i+t*M b i+u*M c i):=Sp.comb u (Sp.b0I f d s t) (Sp.mem e)
def Sp.bYS {a b c d}(f:a<k)(e:b<k)(g:c<k)(hd:d<k) s t u v:Sp k M (λi=>s*M a i+t*M b i+u*M c i+v*M d i):=Sp.comb v (Sp.bXV f e g s t u) (Sp.mem hd)
def bP1 {u:V} {p0:Nat} {t:Int} (ht:t≠0) (c:Sp k M (λi=>t*u i)) (b:u p0≠0):∃ a,a<k/\M a p0≠0 :=Lin.pick (f:=λv=>v p0) ⟨rfl,λ_ _ _=>rfl⟩ ht c b
def bTX {u:V}{a p0 p1 t}(ht:t≠0)(c:Sp k M (λi=>t*u i))(d:u p0=0)(e:u p1≠0)(g:M a p0≠0):∃ b,b<k/\d2 (M a) (M b) p0 p1≠0:=by
 refine Lin.pick (f:=λv=>d2 (M a) v p0 p1) ⟨by simp[d2],λu t m=>by simp only[d2]; grind⟩ ht c ?_;simp only[d2];simp_all
def bZU {u:V}{a b p0 p1 p2 t}(ht:t≠0)(d:Sp k M (λi=>t*u i))(e:u p0=0)(g:u p1=0)(h:u p2≠0)(j:d2 (M a) (M b) p0 p1≠0):∃ c,c<k/\d3 (M a) (M b) (M c) p0 p1 p2≠0:=by
 refine Lin.pick (f:=λv=>d3 (M a) (M b) v p0 p1 p2) ⟨by simp[d3],λu t m=>by simp only[d3]; grind⟩ ht d ?_;simp only[d3];simp_all
def b2R {u:V}{a b c p0 p1 p2 p3 t}(ht:t≠0)(e:Sp k M (λi=>t*u i))(g:u p0=0)(h:u p1=0)(j:u p2=0)(n:u p3≠0)(l:d3 (M a) (M b) (M c) p0 p1 p2≠0):∃ d,d<k/\d4 (M a) (M b) (M c) (M d) p0 p1 p2 p3≠0:=by
 refine Lin.pick (f:=λv=>d4 (M a) (M b) (M c) v p0 p1 p2 p3) ⟨by simp[d4],λu t m=>by simp only[d4]; grind⟩ ht e ?_;simp only[d4];simp_all
def b3T {p W a}(b:∀ x,(M a x).natAbs<=W)(d:a<k)(h:M a (p 0)≠0):Dg k M 1 p W :=
 ⟨_,λ_=>M a,h,λj e=>by
  obtain rfl:j=0:=Z
  exact⟨Sp.mem d,rfl,λi hi c=>by omega,b⟩⟩
def b3A {p W a b}(f:∀ x y,(d2 (M a) (M b) x y).natAbs<=W)(d:a<k)(e:b<k)(h:d2 (M a) (M b) (p 0) (p 1)≠0):Dg k M 2 p W:=by
 refine⟨_,λj=>if j=0 then (λx=>d2 (M a) (M b) x (p 1)) else λx=>d2 (M a) (M b) (p 0) x,h,λj g=>?_⟩;rcases(show j=0\/j=1 by omega)with rfl|rfl;refine⟨?_,rfl,λi hi c=>?_,λx=>f _ _⟩;refine cast (congrArg (Sp k M) ?_) (Sp.b0I d e (M b (p 1)) (-(M a (p 1))));funext x;simp only[if_true,d2]; grind;simp only[if_true,d2]; grind;refine⟨?_,rfl,λi hi c=>?_,λx=>f _ _⟩;refine cast (congrArg (Sp k M) ?_) (Sp.b0I d e (-(M b (p 0))) (M a (p 0)));funext x;simp only[d2,Nat.one_ne_zero,if_false]; grind;simp only[d2,Nat.one_ne_zero,if_false]; grind
def b3C {p W a b c}(g:∀ x y z,(d3 (M a) (M b) (M c) x y z).natAbs<=W)(e:a<k)(f:b<k)(l:c<k)(h:d3 (M a) (M b) (M c) (p 0) (p 1) (p 2)≠0):Dg k M 3 p W:=by
 refine⟨_,λj=>if j=0 then (λx=>d3 (M a) (M b) (M c) x (p 1) (p 2)) else if j=1 then (λx=>d3 (M a) (M b) (M c) (p 0) x (p 2)) else λx=>d3 (M a) (M b) (M c) (p 0) (p 1) x,h,λj m=>?_⟩;rcases(show j=0\/j=1\/j=2 by omega)with rfl|rfl|rfl;refine⟨?_,rfl,λi hi d=>?_,λx=>g _ _ _⟩;refine cast (congrArg (Sp k M) ?_) (Sp.bXV e f l (d2 (M b) (M c) (p 1) (p 2)) (-(d2 (M a) (M c) (p 1) (p 2))) (d2 (M a) (M b) (p 1) (p 2)));funext x;show _=d3 (M a) (M b) (M c) x (p 1) (p 2);simp only[d3,d2]; grind;show (λx=>d3 (M a) (M b) (M c) x (p 1) (p 2)) (p i)=0;rcases(show i=1\/i=2 by omega)with rfl|rfl;simp only[d3,d2]; grind;simp only[d3,d2]; grind;refine⟨?_,rfl,λi hi d=>?_,λx=>g _ _ _⟩;refine cast (congrArg (Sp k M) ?_) (Sp.bXV e f l (-(d2 (M b) (M c) (p 0) (p 2))) (d2 (M a) (M c) (p 0) (p 2)) (-(d2 (M a) (M b) (p 0) (p 2))));funext x;show _=d3 (M a) (M b) (M c) (p 0) x (p 2);simp only[d3,d2]; grind;show (λx=>d3 (M a) (M b) (M c) (p 0) x (p 2)) (p i)=0;rcases(show i=0\/i=2 by omega)with rfl|rfl;simp only[d3,d2]; grind;simp only[d3,d2]; grind;refine⟨?_,rfl,λi hi d=>?_,λx=>g _ _ _⟩;refine cast (congrArg (Sp k M) ?_) (Sp.bXV e f l (d2 (M b) (M c) (p 0) (p 1)) (-(d2 (M a) (M c) (p 0) (p 1))) (d2 (M a) (M b) (p 0) (p 1)));funext x;show _=d3 (M a) (M b) (M c) (p 0) (p 1) x;simp only[d3,d2]; grind;show (λx=>d3 (M a) (M b) (M c) (p 0) (p 1) x) (p i)=0;rcases(show i=0\/i=1 by omega)with rfl|rfl;simp only[d3,d2]; grind;simp only[d3,d2]; grind
def b3U {p W a b c d}(l:∀ x y z u,(d4 (M a) (M b) (M c) (M d) x y z u).natAbs<=W)(f:a<k)(g:b<k)(m:c<k)(hd:d<k)(h:d4 (M a) (M b) (M c) (M d) (p 0) (p 1) (p 2) (p 3)≠0):Dg k M 4 p W:=by
 refine⟨_,λj=>if j=0 then (λx=>d4 (M a) (M b) (M c) (M d) x (p 1) (p 2) (p 3)) else if j=1 then (λx=>d4 (M a) (M b) (M c) (M d) (p 0) x (p 2) (p 3)) else if j=2 then (λx=>d4 (M a) (M b) (M c) (M d) (p 0) (p 1) x (p 3)) else λx=>d4 (M a) (M b) (M c) (M d) (p 0) (p 1) (p 2) x,h,λj n=>?_⟩;rcases(show j=0\/j=1\/j=2\/j=3 by omega)with rfl|rfl|rfl|rfl;refine⟨?_,rfl,λi hi e=>?_,λx=>l _ _ _ _⟩;refine cast (congrArg (Sp k M) ?_) (Sp.bYS f g m hd (d3 (M b) (M c) (M d) (p 1) (p 2) (p 3)) (-(d3 (M a) (M c) (M d) (p 1) (p 2) (p 3))) (d3 (M a) (M b) (M d) (p 1) (p 2) (p 3)) (-(d3 (M a) (M b) (M c) (p 1) (p 2) (p 3))));funext x;show _=d4 (M a) (M b) (M c) (M d) x (p 1) (p 2) (p 3);simp only[d4,d3,d2]; grind;show (λx=>d4 (M a) (M b) (M c) (M d) x (p 1) (p 2) (p 3)) (p i)=0;rcases(show i=1\/i=2\/i=3 by omega)with rfl|rfl|rfl;simp only[d4,d3,d2]; grind;simp only[d4,d3,d2]; grind;simp only[d4,d3,d2]; grind;refine⟨?_,rfl,λi hi e=>?_,λx=>l _ _ _ _⟩;refine cast (congrArg (Sp k M) ?_) (Sp.bYS f g m hd (-(d3 (M b) (M c) (M d) (p 0) (p 2) (p 3))) (d3 (M a) (M c) (M d) (p 0) (p 2) (p 3)) (-(d3 (M a) (M b) (M d) (p 0) (p 2) (p 3))) (d3 (M a) (M b) (M c) (p 0) (p 2) (p 3)));funext x;show _=d4 (M a) (M b) (M c) (M d) (p 0) x (p 2) (p 3);simp only[d4,d3,d2]; grind;show (λx=>d4 (M a) (M b) (M c) (M d) (p 0) x (p 2) (p 3)) (p i)=0;rcases(show i=0\/i=2\/i=3 by omega)with rfl|rfl|rfl;simp only[d4,d3,d2]; grind;simp only[d4,d3,d2]; grind;simp only[d4,d3,d2]; grind;refine⟨?_,rfl,λi hi e=>?_,λx=>l _ _ _ _⟩;refine cast (congrArg (Sp k M) ?_) (Sp.bYS f g m hd (d3 (M b) (M c) (M d) (p 0) (p 1) (p 3)) (-(d3 (M a) (M c) (M d) (p 0) (p 1) (p 3))) (d3 (M a) (M b) (M d) (p 0) (p 1) (p 3)) (-(d3 (M a) (M b) (M c) (p 0) (p 1) (p 3))));funext x;show _=d4 (M a) (M b) (M c) (M d) (p 0) (p 1) x (p 3);simp only[d4,d3,d2]; grind;show (λx=>d4 (M a) (M b) (M c) (M d) (p 0) (p 1) x (p 3)) (p i)=0;rcases(show i=0\/i=1\/i=3 by omega)with rfl|rfl|rfl;simp only[d4,d3,d2]; grind;simp only[d4,d3,d2]; grind;simp only[d4,d3,d2]; grind;refine⟨?_,rfl,λi hi e=>?_,λx=>l _ _ _ _⟩;refine cast (congrArg (Sp k M) ?_) (Sp.bYS f g m hd (-(d3 (M b) (M c) (M d) (p 0) (p 1) (p 2))) (d3 (M a) (M c) (M d) (p 0) (p 1) (p 2)) (-(d3 (M a) (M b) (M d) (p 0) (p 1) (p 2))) (d3 (M a) (M b) (M c) (p 0) (p 1) (p 2)));funext x;show _=d4 (M a) (M b) (M c) (M d) (p 0) (p 1) (p 2) x;simp only[d4,d3,d2]; grind;show (λx=>d4 (M a) (M b) (M c) (M d) (p 0) (p 1) (p 2) x) (p i)=0;rcases(show i=0\/i=1\/i=2 by omega)with rfl|rfl|rfl;simp only[d4,d3,d2]; grind;simp only[d4,d3,d2]; grind;simp only[d4,d3,d2]; grind
def fac(E:Nat):Nat->Nat| 0=>1| 1=>E| 2=>2*(E*E)| 3=>6*(E*E*E)| _=>24*(E*E*E*E)
def bHA {r E H p}(w:r<=4)(hH:Hn r H p)(h:∀ j,j<r->∃ t ,t≠0/\Sp k M (λi=>t*H j i))(g:∀ j,j<k->∀ x,(M j x).natAbs<=E):Dg k M r p (fac E r):=by
 have pv:∀ j,j<r->H j (p j)≠0:=λj o=>by have:=hH.pos j o; omega
 have lo:∀ i j,i<j->j<r->H j (p i)=0:=λi j u o=>hH.low j o _ (hH.inc i j u o);rcases(show r=0\/r=1\/r=2\/r=3\/r=4 by omega)with rfl|rfl|rfl|rfl|rfl;exact⟨1,λ_ _=>0,by decide,λj o=>by omega⟩;have⟨t,ht,e⟩:=h 0 Z;have⟨a,f,m⟩:=bP1 ht e (pv 0 Z);exact b3T (g a f) f m;have⟨t,ht,e⟩:=h 0 Z;have⟨a,f,m⟩:=bP1 ht e (pv 0 Z);have⟨t,ht,e⟩:=h 1 Z;have⟨b,l,n⟩:=bTX ht e (lo 0 1 Z Z) (pv 1 Z) m;exact b3A (d2B (g a f) (g b l)) f l n;have⟨t,ht,e⟩:=h 0 Z;have⟨a,f,m⟩:=bP1 ht e (pv 0 Z);have⟨t,ht,e⟩:=h 1 Z;have⟨b,l,n⟩:=bTX ht e (lo 0 1 Z Z) (pv 1 Z) m;have⟨t,ht,e⟩:=h 2 Z;have⟨c,q,s⟩:=bZU ht e (lo 0 2 Z Z) (lo 1 2 Z Z) (pv 2 Z) n;exact b3C (d3B (g a f) (g b l) (g c q)) f l q s;have⟨t,ht,e⟩:=h 0 Z;have⟨a,f,m⟩:=bP1 ht e (pv 0 Z);have⟨t,ht,e⟩:=h 1 Z;have⟨b,l,n⟩:=bTX ht e (lo 0 1 Z Z) (pv 1 Z) m;have⟨t,ht,e⟩:=h 2 Z;have⟨c,q,s⟩:=bZU ht e (lo 0 2 Z Z) (lo 1 2 Z Z) (pv 2 Z) n;have⟨t,ht,e⟩:=h 3 Z;have⟨d,hd,v⟩:=b2R ht e (lo 0 3 Z Z) (lo 1 3 Z Z) (lo 2 3 Z Z) (pv 3 Z) s;exact b3U (d4B (g a f) (g b l) (g c q) (g d hd)) f l q hd v
end
def Hn.zero {k:Nat} {M:Nat->V} {c:Nat->Nat} (h:Hn k M c) {v:V} (a:Sp k M v) (hz:∀ i,i<k->v (c i)=0):v=λ_=>0 :=h.small a λi hi=>by have:=h.pos i hi; rw[hz i hi]; constructor <;> omega
def Hn.bU7:∀ {k:Nat} {M:Nat->V} {c:Nat->Nat},Hn k M c->∀ {v:V},Sp k M v->∀ j,j<k->(∀ i,i<j->v (c i)=0)->M j (c j) ∣ v (c j)
 | 0,_,_,_,_,_,j,hj,_=>Z
 | k+1,M,c,h,v,hv,j,hj,hz=>by
  obtain⟨t,u,hu,rfl⟩:=hv.first;have a:=h.a5D hu (Nat.le_refl _);cases j with
  | zero=>exact⟨t,by simp only[a,Int.zero_add]; exact Int.mul_comm _ _⟩
  | succ j =>
   have b:=hz 0 Z;have hp:=h.pos 0 Z;simp only[a,Int.zero_add]at b;have ht:t=0:=by
    rcases Int.mul_eq_zero.1 b with h2|h2
    ·exact h2
    ·omega
   subst ht;have:=Hn.bU7 h.tail hu j Z λi hi=>by have:=hz (i+1) Z; simpa using this
   simpa using this
def sm(f:Nat->Int):Nat->Int| 0=>0| n+1=>sm f n+f n
def a6I {f}:∀ {n},(∀ i,i<n->f i=0)->sm f n=0| 0,_=>rfl| n+1,h=>by rw[sm,a6I λi hi=>h i Z,h n R]; rfl
def bN7 {f j}:∀ {n},j<n->(∀ i,i<n->i≠j->f i=0)->sm f n=f j
 | 0,h,_=>Z
 | n+1,h,hz=>by
  rw[sm]
  by_cases a:j=n
  ·subst a;rw[a6I λi hi=>hz i Z Z,Int.zero_add]
  ·rw[bN7 Z λi hi=>hz i Z,hz n R (Ne.symm a),Int.add_zero]
def bW2 {f B}:∀ {n},(∀ i,i<n->(f i).natAbs<=B)->(sm f n).natAbs<=n*B
 | 0,_=>by simp[sm]
 | n+1,h=>by
  have b:=bW2 (n:=n) λi hi=>h i Z
  have a:=h n R;rw[Nat.succ_mul];show (sm f n+f n).natAbs<=_;omega
def Sp.sm {k M}{w:Nat->V}{s:Nat->Int}:∀ {n},(∀ j,j<n->Sp k M (w j))->Sp k M (λx=>Lz.sm (λj=>s j*w j x) n)| 0,_=>Sp.zero| n+1,h=>Sp.comb (s n) (Sp.sm λj a=>h j Z) (h n R)
def Hn.bXI {r W:Nat} {H:Nat->V} {p:Nat->Nat} (h:Hn r H p) (hd:Dg r H r p W):∀ i,i<r->∀ x,(H i x).natAbs<=r*W:=by
 have⟨D,w,s,hw⟩:=hd;intro i hi x;have hz:(λy=>D*H i y-Lz.sm (λj=>H i (p j)*w j y) r)=λ_=>0:=(by refine h.zero (Sp.sub (Sp.smul D (Sp.mem hi)) (Sp.sm λj a=>(hw j a).1)) λl b=>?_;rw[bN7 (f:=λj=>H i (p j)*w j (p l)) b λj a c=>by rw[(hw j a).2.2.1 l b (Ne.symm c),Int.mul_zero]];rw[(hw l b).2.1];grind);have m:=congrFun hz x;have o:D*H i x=Lz.sm (λj=>H i (p j)*w j x) r:=(by have:D*H i x-Lz.sm (λj=>H i (p j)*w j x) r=0:=m;omega);have d:(Lz.sm (λj=>H i (p j)*w j x) r).natAbs<=r*(D.natAbs*W):=(by refine bW2 λj a=>a4Y ?_ ((hw j a).2.2.2 x);have q:H j (p j) ∣ D:=(by have:=h.bU7 (hw j a).1 j a λl b=>(hw j a).2.2.1 l Z Z;rwa[(hw j a).2.1]at this);have n:=Int.natAbs_dvd_natAbs.2 q;have k:=Nat.le_of_dvd Z n;rcases Nat.lt_trichotomy i j with g|g|g;have:=h.red i j g a;omega;subst g; exact k;rw[h.low i hi _ (h.inc j i g hi)]; simp);rw[<- o,Int.natAbs_mul]at d;have e:r*(D.natAbs*W)=D.natAbs*(r*W):=zt;rw[e]at d;exact Nat.le_of_mul_le_mul_left d Z
end Go.Lz
namespace Go.PM
open Go Go.RowKit Go.Proofs Go.Lz
def bUT a n v:Zr (a+n) v=Zr a v++Zr n (λy=>v (a+y)):=by
 unfold Zr;rw[List.range_add,List.map_append,List.map_map];rfl
def b0Y:Zn 1=ByteArray.mk #[49]:=Y
def aVJ(J:Nat->Nat) (i o n:Nat) (A:List (List ByteArray)) (t:Nat):=bW ((J i,o,n),(),(n:Int),(t:Int),A,())
section
variable {o k n:Nat} {m:List (Nat×Nat×Nat)} {A:List (List ByteArray)} {J:Nat->Nat} {M:Nat->V}
def sF.ext (h:sF o k n m A J M) R:sF o k n m (A++R) J M :=
 ⟨h.ml,λi hi=>by
  have⟨pre,b,a⟩:=h.at_ i hi;grind,h.inj⟩
def sF.take (h:sF o k n m A J M){d}(hd:d<=k):sF o d n (m.take d) A J M :=⟨by rw[h.ml,<- List.map_take,List.take_range,Nat.min_eq_left hd],λi hi=>h.at_ i Z,λi j hi a=>h.inj i j Z Z⟩
def bW6(h:sF o k n m A J M) (hn:n<1048576) {i:Nat} (hi:i<k) :
  ∃ L:Int,lP () ((J i,o,n),()) A=some ((L,()),A)/\((L = -1/\∀ x,x<n->M i x=0)\/∃ x,x<n/\L=(x:Int)/\M i x≠0/\∀ y,y<x->M i y=0):=by
 have l:∀ t,t<n->PM.dG A (J i)=o+n/\PM.dZ A (J i) ((o+t)*1) ByteArray.empty=Zn (M i t):=λt ht=>⟨h.dG hi,by rw[Nat.mul_one]; exact h.dZ hi ht⟩
 have step1:∀ t,t<n->∀ b,decide (M i t=0)=b->aVJ J i o n A t=(bif b then some (.inl ((J i,o,n),(),(n:Int),((t+1:Nat):Int),A,())) else some (.inr (.inl ((t:Int),A,())))):=λt ht b u=>by
  have j:ltI (t:Int) (n:Int)=true:=ze
  have r:aE (t:Int) n=true:=zi
  have q:((t:Nat):Int).toNat=t:=oN _;have w:Nat.blt ((o+t)*1) (o+n)=true:=zk
  have v:=bP t Z;unfold aVJ;simp only[bW,j,r,q,(l t ht).1,w,(l t ht).2,vM,WS,u,v,zz];cases b <;> rfl
 by_cases hz:∀ x,x<n->M i x=0
 ·refine⟨-1,?_,.inl ⟨rfl,hz⟩⟩;have key:=aK (step:=bW) (N:=2^64) (λt=>((J i,o,n),(),(n:Int),(t:Int),A,())) n (.inr (A,())) Z (λt ht=>step1 t ht true (oT (hz t ht))) (by
   have j:ltI (n:Int) (n:Int)=false:=zf
   simp only[bW,j,oD])
  have key:dF ((J i,o,n),(),((n:Nat):Int),0,A,())=_:=key;simp only[lP,cE,key,zz]
 ·obtain⟨x,e,d,f⟩:∃ x,x<n/\M i x≠0/\∀ y,y<x->M i y=0:=by
   have⟨a,c⟩:=Classical.not_forall.1 hz;have⟨c,g⟩:=Classical.not_imp.1 c;have:∀ N a,a<N->a<n->M i a≠0->∃ x,x<n/\M i x≠0/\∀ y,y<x->M i y=0:=by
    intro N;induction N with
    | zero=>intro a h; omega
    | succ N s =>
     intro a h0 c g
     by_cases p:∀ y,y<a->M i y=0
     ·exact⟨a,c,g,p⟩
     ·have⟨y,g1⟩:=Classical.not_forall.1 p;have⟨g1,g2⟩:=Classical.not_imp.1 g1;exact s y Z Z g2
   exact this (a+1) a Z c g
  refine⟨(x:Int),?_,.inr ⟨x,e,rfl,d,f⟩⟩;have key:=aK (step:=bW) (N:=2^64) (λt=>((J i,o,n),(),(n:Int),(t:Int),A,())) x (.inl ((x:Int),A,())) Z (λt ht=>step1 t Z true (oT (f t ht))) (step1 x e false (oF d));have key:dF ((J i,o,n),(),((n:Nat):Int),0,A,())=_:=key;simp only[lP,cE,key,zz]
def bUA(hn:n<1048576) (A:List (List ByteArray)):xX () ((n:Int),()) A=some (Zr n (λ_=>0),A):=by
 have h:ltI (n:Int) 0=false:=zf
 have d:ltI (n:Int) (n:Int)=false:=zf
 have c:ltI 1048576 (n:Int)=false:=zf
 have g:((n:Nat):Int).toNat=n:=oN _;have b:=a2Y (List.replicate n 0) (by simp; omega) (λa e=>by have:=List.eq_of_mem_replicate e; omega);have f:(List.replicate n (0:Int)).map Zn=Zr n (λ_=>0):=(by unfold Zr;rw[List.map_replicate];refine List.ext_getElem R λi j k=>by simp);rw[f]at b;simp only[xX,h,d,c,g,b,zz]
def bTH(M:Nat->V) {c:Nat} (g:c<n):(List.range k).map (λi=>Zn (M i c))++(Zr n (λ_=>0)).set c (ByteArray.mk #[49])=Zr (k+n) (wide n k M c):=by
 rw[bUT];congr 1;unfold Zr;refine List.map_congr_left λi hi=>?_;have:=List.mem_range.1 hi;simp only[wide,this,if_true];refine List.ext_getElem (by simp[mD]) λi f e=>?_;rw[mD]at e;rw[List.getElem_set];have b:¬ k+i<k:=Z;by_cases a:c=i;subst a;simp only[if_true,Zr,List.getElem_map,List.getElem_range,wide,b,if_false];exact b0Y.symm;have d:¬ k+i=k+c:=Z;simp only[a,if_false,Zr,List.getElem_map,List.getElem_range,wide,b,d]
def bRF(H:k<1048576) (hn:n<1048576) (F:k+n<1048576) (h:sF o k n m A J M) :
  lX (m,(n:Int),[],(n:Int),0,A,())=some (m,(n:Int),(List.range n).map (λc=>(A.length+c,0,k+n)),A++(List.range n).map (λc=>Zr (k+n) (wide n k M c)),()):=by
 have key:=aK (step:=lY) (N:=2^64)
  (λt=>(m,(n:Int),(List.range t).map (λc=>(A.length+c,0,k+n)),(n:Int),(t:Int),A++(List.range t).map (λc=>Zr (k+n) (wide n k M c)),())) n
  (m,(n:Int),(List.range n).map (λc=>(A.length+c,0,k+n)),A++(List.range n).map (λc=>Zr (k+n) (wide n k M c)),()) Z (λt ht=>?_) ?_
 have G:A++(List.range 0).map (λc=>Zr (k+n) (wide n k M c))=A:=zr;have key:lX (m,(n:Int),[],(n:Int),0,A++(List.range 0).map (λc=>Zr (k+n) (wide n k M c)),())=_:=key;rwa[G]at key
 ·generalize E:(List.range t).map (λc=>Zr (k+n) (wide n k M c))=R;have f:=h.ext R;generalize D:A++R=B at f ⊢;have hlen:B.length=A.length+t:=by rw[<- D,<- E]; simp
  have b:=aK (step:=lK) (N:=2^64)
   (λs=>(m,(n:Int),(List.range t).map (λc=>(A.length+c,0,k+n)),(t:Int),(List.range s).map (λi=>Zn (M i t)),(n:Int),(t:Int),m,(m.length:Int),(s:Int),B,())) k
   (m,(n:Int),(List.range t).map (λc=>(A.length+c,0,k+n)),(t:Int),(List.range k).map (λi=>Zn (M i t)),(n:Int),(t:Int),B,()) Z (λs r=>?_) ?_
  ·have b:s9 (m,(n:Int),(List.range t).map (λc=>(A.length+c,0,k+n)),(t:Int),[],(n:Int),(t:Int),m,(m.length:Int),0,B,())=_:=b;have d:ltI (t:Int) (n:Int)=true:=ze
   have g:aE (t:Int) n=true:=zi
   have C:((t:Nat):Int).toNat=t:=oN _;have q:Nat.blt t n=true:=by rw[cF]; exact oT ht
   have l:(Zr n (λ_=>0)).length=n:=mD _ _;have p:Nat.ble n 1048576=true:=zm
   have u:Nat.ble ((List.range k).map (λi=>Zn (M i t))).length 1048576=true:=by rw[eL,List.length_map,List.length_range]; exact oT Z
   have j:=bTH (n:=n) (k:=k) M ht;have v:(Zr (k+n) (wide n k M t)).length=k+n:=mD _ _;have e:Nat.ble [(A.length+t,0,k+n)].length 1048576=true:=rfl;have a:Nat.ble ((List.range t).map (λc=>(A.length+c,0,k+n))).length 1048576=true:=by rw[eL,List.length_map,List.length_range]; exact oT Z
   have z:=bP t Z;have y:(List.range t).map (λc=>(A.length+c,0,k+n))++[(A.length+t,0,k+n)]=(List.range (t+1)).map (λc=>(A.length+c,0,k+n)):=by rw[List.range_succ,List.map_append]; rfl
   have w:B++[Zr (k+n) (wide n k M t)]=A++(List.range (t+1)).map (λc=>Zr (k+n) (wide n k M c)):=by rw[<- D,<- E,List.range_succ,List.map_append,List.append_assoc]; rfl
   have x:((Zr n (λ_=>0)).set t (ByteArray.mk #[49])).length=n:=(by rw[List.length_set,mD]);simp only[lY,d,b,bUA hn,l,g,C,q,x,p,u,j,v,hlen,e,a,z,y,w,zz]
  ·have d:ltI (s:Int) (k:Int)=true:=ze
   have g:aE (s:Int) k=true:=zi
   have C:((s:Nat):Int).toNat=s:=oN _;have q:aE (t:Int) n=true:=zi
   have l:((t:Nat):Int).toNat=t:=oN _;have p:Nat.blt ((o+t)*1) (o+n)=true:=zk
   have u:PM.dZ B (J s) ((o+t)*1) ByteArray.empty=Zn (M s t):=by rw[Nat.mul_one]; exact f.dZ r ht
   have j:Nat.ble [Zn (M s t)].length 1048576=true:=rfl;have v:Nat.ble ((List.range s).map (λi=>Zn (M i t))).length 1048576=true:=by rw[eL,List.length_map,List.length_range]; exact oT Z
   have e:=bP s Z;have a:(List.range s).map (λi=>Zn (M i t))++[Zn (M s t)]=(List.range (s+1)).map (λi=>Zn (M i t)):=by rw[List.range_succ,List.map_append]; rfl
   simp only[lK,h.len,d,g,C,f.get r,q,l,f.dG r,p,u,j,v,e,a,oC]
  ·have d:ltI (k:Int) (k:Int)=false:=zf
   simp only[lK,h.len,d,oD]
 ·have d:ltI (n:Int) (n:Int)=false:=zf
  simp only[lY,d,oD]
end
def Hn.split {d W p}(h:Hn d W p) k:∃ j,j<=d/\(∀ i,i<j->p i<k)/\∀ i,j<=i->i<d->k<=p i:=by
 have:∀ t,t<=d->∃ j,j<=t/\(∀ i,i<j->p i<k)/\∀ i,j<=i->i<t->k<=p i:=by
  intro t;induction t with
  | zero=>simp
  | succ t c =>
   intro ht;have⟨j,f,a,b⟩:=c Z
   by_cases l:j=t
   ·by_cases hp:p t<k
    ·exact⟨t+1,by omega,λi hi=>by
      grind,λi g1 g2=>by omega⟩
    ·exact⟨j,by omega,a,λi g1 g2=>by
      grind⟩
   ·exact⟨j,by omega,a,λi g1 g2=>by
     by_cases e:i=t
     ·subst e;have g:=b j (oM _) Z;have a2:=h.inc j i Z Z;omega
     ·exact b i g1 Z⟩
 exact this d (oM _)
section
variable {o k n d:Nat} {m:List (Nat×Nat×Nat)} {A:List (List ByteArray)} {J:Nat->Nat} {M:Nat->V}
def sF.behind (h:sF o d (k+n) m A J M){j}(p:j<=d):sF (o+k) (d-j) n ((List.range (d-j)).map λi=>(J (j+i),o+k,n)) A (λi=>J (j+i)) (λi y=>M (j+i) (k+y)) :=
 ⟨rfl,λi hi=>by
  have⟨pre,c,f⟩:=h.at_ (j+i) Z;refine⟨pre++Zr k (M (j+i)),by rw[oH,mD,c],?_⟩;rw[f,bUT,List.append_assoc],λa b g l e=>by
  have:=h.inj (j+a) (j+b) Z Z e;omega⟩
def bKR(H:k+n<1048576) (hd:d<1048576) (h:sF o d (k+n) m A J M) {p:Nat->Nat} (hH:Hn d M p) (hw:Wd d (k+n) M) {j:Nat} (I:j<=d) (C:∀ i,i<j->p i<k) (G:∀ i,j<=i->i<d->k<=p i) :
  lJ ((k:Int),(n:Int),[],m,(m.length:Int),0,A,())=some ((n:Int),(List.range (d-j)).map (λi=>(J (j+i),o+k,n)),A,()):=by
 have key:=aK (step:=gQ) (N:=2^64)
  (λt=>((k:Int),(n:Int),(List.range (t-j)).map (λi=>(J (j+i),o+k,n)),m,(m.length:Int),(t:Int),A,())) d
  ((n:Int),(List.range (d-j)).map (λi=>(J (j+i),o+k,n)),A,()) Z (λt ht=>?_) ?_
 have key:lJ ((k:Int),(n:Int),(List.range (0-j)).map (λi=>(J (j+i),o+k,n)),m,(m.length:Int),0,A,())=_:=key;rwa[Nat.zero_sub]at key
 ·have a:ltI (t:Int) (d:Int)=true:=ze
  have v:aE (t:Int) d=true:=zi
  have z:((t:Nat):Int).toNat=t:=oN _;have⟨L,y,D⟩:=bW6 h Z ht;have hp:=hH.pos t ht;have u:p t<k+n:=(by refine Classical.byContradiction λK=>?_;have:=hw t ht (p t) Z;omega);have E:L=(p t:Int):=(by rcases D with ⟨_,q3⟩|⟨x,g1,g2,g3,g4⟩;have:=q3 (p t) u; omega;rw[g2];congr 1;rcases Nat.lt_trichotomy x (p t)with g|g|g;exact absurd (hH.low t ht x g) g3;exact g;have:=g4 (p t) g; omega);subst E;have w:=bP t Z;by_cases f:t<j
  ·have b:ltI (p t:Int) (k:Int)=true:=by rw[aF]; exact oT (by have:=C t f; omega)
   have e:t+1-j=0:=Z;have l:t-j=0:=Z;simp only[gQ,h.len,a,v,z,h.get ht,y,b,w,e,l,zz]
  ·have b:ltI (p t:Int) (k:Int)=false:=by rw[aF]; exact oF (by have:=G t Z ht; omega)
   have e:ltI (k:Int) 0=false:=zf
   have l:((k:Nat):Int).toNat=k:=oN _;have B:Nat.ble k (k+n)=true:=zm
   have F:Nat.ble (k+n) (k+n)=true:=zm
   have s:k+n-k=n:=Z
   have c:Nat.ble [(J t,o+k,n)].length 1048576=true:=rfl;have r:Nat.ble ((List.range (t-j)).map (λi=>(J (j+i),o+k,n))).length 1048576=true:=by rw[eL,List.length_map,List.length_range]; exact oT Z
   have q:(List.range (t-j)).map (λi=>(J (j+i),o+k,n))++[(J t,o+k,n)]=(List.range (t+1-j)).map (λi=>(J (j+i),o+k,n)):=(by rw[show t+1-j=(t-j)+1 by omega,List.range_succ,List.map_append];have:j+(t-j)=t:=Z;simp only[List.map_cons,List.map_nil,this]);simp only[gQ,h.len,a,v,z,h.get ht,y,b,w,e,l,B,F,s,c,r,q,zz]
 ·have a:ltI (d:Int) (d:Int)=false:=zf
  simp only[gQ,h.len,a,oD]
def Wd.wide (hw:Wd k n M):Wd n (k+n) (wide n k M):=λi hi x c=>by
 have a:¬ x<k:=Z
 have b:¬ x=k+i:=Z
 simp only[Lz.wide,a,b,if_false]
def Big.wide {E}(b:Big k n M E)(d:1<=E):Big n (k+n) (wide n k M) E:=λi hi x c=>by
 simp only[Lz.wide];split
 next a=> exact b x a i hi
 grind
def a3P {W:Nat->V} {p:Nat->Nat} (hH:Hn d W p) (l:Same n (wide n k M) d W) {j:Nat} (m:j<=d) (g:∀ i,i<j->p i<k) (c:∀ i,j<=i->i<d->k<=p i) :
  Hn (d-j) (λi y=>W (j+i) (k+y)) (λi=>p (j+i)-k)/\I0 n k M (d-j) (λi y=>W (j+i) (k+y)):=by
 refine⟨⟨λa b e h=>?_,λi hi x f=>?_,λi hi=>?_,λa b e h=>?_⟩,bSO hH l m g c⟩;have g1:=c (j+a) Z Z;have g2:=hH.inc (j+a) (j+b) Z Z;show p (j+a)-k<p (j+b)-k;omega;exact hH.low (j+i) Z (k+x) (by have:x<p (j+i)-k:=f; omega);have g1:=c (j+i) Z Z;show 0<W (j+i) (k+(p (j+i)-k));rw[show k+(p (j+i)-k)=p (j+i)by omega];exact hH.pos (j+i) Z;have g1:=c (j+b) Z Z;show 0<=W (j+a) (k+(p (j+b)-k))/\W (j+a) (k+(p (j+b)-k))<W (j+b) (k+(p (j+b)-k));rw[show k+(p (j+b)-k)=p (j+b)by omega];exact hH.red (j+a) (j+b) Z Z
def bDO {E T:Nat->Nat} (R:k<1048576) (hn:n<1048576) (a:k+n<1048576) (h:sF o k n m A J M) (hw:Wd k n M) (O:Big k n M (E 0)) (q:1<=E 0) (P:Bds n (k+n) E T)
  (F:∀ r K p,r<=n->Hn r K p->I0 n k M r K->∃ u T2:Nat->Nat,Big r n K (u 0)/\Bds r n u T2) :
  ∃ z A' S K p r,cY () (m,(n:Int),()) A=some (z,A')/\sF k r n z A' S K/\r<=n/\Hn r K p/\I0 n k M r K/\Wd r n K:=by
 have D:=bRF R hn a h;have G:sF 0 n (k+n) ((List.range n).map λc=>(A.length+c,0,k+n)) (A++(List.range n).map λc=>Zr (k+n) (wide n k M c)) (λc=>A.length+c) (wide n k M) :=
  ⟨rfl,λi hi=>⟨[],rfl,by
   rw[List.getElem?_append_right Z,show A.length+i-A.length=i by omega,List.getElem?_map,List.getElem?_range hi];rfl⟩,λi j _ _ e=>by omega⟩
 have⟨m1,V,U,W,d,p,g1,g2,g3,g4,g5,g6,g7⟩:=a6C hn a G hw.wide (O.wide q) P;have⟨j,w,C,B⟩:=Hn.split g4 k;have b:=g3.take g2;have f:Wd d (k+n) W:=λi hi x g=>g6 i Z x g;have l:=bKR a Z b g4 f w C B;have⟨c1,c2⟩:=a3P g4 g5 w C B;have v:=b.behind w;have s:Wd (d-j) n (λi y=>W (j+i) (k+y)):=λi hi x g=>f (j+i) Z (k+x) Z;have⟨u,T2,I,H⟩:=F _ _ _ Z c1 c2;have⟨m2,L,Q,K,r,p2,f1,f2,f3,f4,f5,f6,f7⟩:=a6C (show d-j<1048576 by omega) hn v s I H;rw[Nat.zero_add]at f3;refine⟨m2.take r,L,Q,K,p2,r,?_,f3.take f2,by omega,f4,?_,λi hi x g=>f6 i Z x g⟩
 ·have N:aA .i64 ((k:Int)+(n:Int))=((k+n:Nat):Int):=by rw[wrap64 Z Z]; omega
  have t:=h.len;simp only[cY,D,aC,t,N,g1,nZ,l,f1]
 intro y;rw[<- f5 y];exact c2 y
end
def zV n v:(Vr n v).length=n:=by simp[Vr]
def a97 {n i} v (h:i<n):(Vr n v).getD i 0=v i:=by simp[Vr,h]
def bF4 {n v B}(h:∀ x,x<n->(v x).natAbs<=B):∀ a∈Vr n v,a.natAbs<=B:=by
 intro a b;obtain⟨x,c,rfl⟩:=List.mem_map.1 b;grind
def Mr(d n:Nat) (M:Nat->V):List (List Int):=(List.range d).map λi=>Vr n (M i)
def eO d n M:(Mr d n M).length=d:=by simp[Mr]
def a2X {d n i} M (h:i<d) z:(Mr d n M).getD i z=Vr n (M i):=by simp[Mr,h]
def a8V {d n M r}(h:r∈Mr d n M):∃ i,i<d/\r=Vr n (M i):=by
 obtain⟨i,hi,rfl⟩:=List.mem_map.1 h;grind
def bUU(r:List Int)(k:r.length<1048576)(f:∀ a∈r,a.natAbs<=1000000000):nJ (r,(),())=some (false,()):=by
 have key:=aK (step:=fT) (N:=2^64) (λt=>(r,(),(r.length:Int),(t:Int),())) r.length (.inr ()) Z (λt ht=>?_) ?_;have key:aV fT (2^64) (r,(),(r.length:Int),0,())=some (.inr ()):=key;have c:ltI (-1) 0=true:=O;simp only[nJ,AD,uJ,key,c,zz]
 ·have d:ltI (t:Int) (r.length:Int)=true:=ze
  have c:aE (t:Int) r.length=true:=zi
  have e:((t:Nat):Int).toNat=t:=oN _;have i:r.getD t 0=r[t]:=(by simp[List.getD,ht])
  have b:=f r[t] (List.getElem_mem ht);have g:ltI r[t] (-1000000000)=false:=zf
  have h:ltI 1000000000 r[t]=false:=zf
  have j:=bP t Z;simp only[fT,d,c,e,i,aPV,g,h,j,zz]
 ·have d:ltI (r.length:Int) (r.length:Int)=false:=zf
  simp only[fT,d,oD]
def a7E(rows:List (List Int)){n}(o:rows.length<=12)(hn:n<=12)(hlen:∀ r∈rows,r.length=n)(i:∀ r∈rows,∀ a∈r,a.natAbs<=1000000000):aFL (rows,())=some (0,()):=by
 have key:=aK (step:=HZ) (N:=2^64) (λt=>(rows,rows,(rows.length:Int),(t:Int),())) rows.length (.inr ()) Z (λt ht=>?_) ?_
 ·have key:aV HZ (2^64) (rows,rows,(rows.length:Int),0,())=some (.inr ()):=key;have b:ltI 12 (rows.length:Int)=false:=zf
  simp only[aFL,XB,b,key,zz]
 ·have b:ltI (t:Int) (rows.length:Int)=true:=ze
  have f:aE (t:Int) rows.length=true:=zi
  have e:((t:Nat):Int).toNat=t:=oN _;have l:rows.getD t []=rows[t]:=by simp[List.getD,ht]
  have d:rows.getD 0 []=rows[0]:=by simp[List.getD,show 0<rows.length by omega]
  have hm:=List.getElem_mem ht;have c:=List.getElem_mem (show 0<rows.length by omega);have j:ltI 12 (rows[t].length:Int)=false:=by rw[aF,hlen _ hm]; exact oF Z
  have k:aE 0 rows.length=true:=zi
  have m:eqI (rows[t].length:Int) (rows[0].length:Int)=true:=by rw[bN,hlen _ hm,hlen _ c]; exact oT rfl
  have h:=bUU rows[t] (by rw[hlen _ hm]; omega) (i _ hm);have g:=bP t Z;simp only[HZ,b,f,e,l,d,j,k,m,h,g,zz]
 ·have b:ltI (rows.length:Int) (rows.length:Int)=false:=zf
  simp only[HZ,b,oD]
def bVZ {n c:Nat} {v:V} (hn:n<1048576) (i:c<n) (hz:∀ x,x<c->v x=0) (hp:v c≠0):XD (Vr n v,())=some ((c:Int),()):=by
 have d:=zV n v;have key:=aK (step:=fO) (N:=2^64) (λt=>(Vr n v,(),(n:Int),(t:Int),())) c (.inl ((c:Int),())) Z (λt ht=>?_) ?_;have key:aV fO (2^64) (Vr n v,(),(n:Int),0,())=some (.inl ((c:Int),())):=key;simp only[XD,zY,uQ,d,key,zz]
 ·have f:ltI (t:Int) (n:Int)=true:=ze
  have b:aE (t:Int) n=true:=zi
  have a:((t:Nat):Int).toNat=t:=oN _;have e:(Vr n v).getD t 0=0:=by rw[a97 v Z]; exact hz t ht
  have h:eqI 0 0=true:=O;have g:=bP t Z;simp only[fO,d,f,b,a,e,R4,h,g,zz]
 ·have f:ltI (c:Int) (n:Int)=true:=ze
  have b:aE (c:Int) n=true:=zi
  have a:((c:Nat):Int).toNat=c:=oN _;have e:eqI ((Vr n v).getD c 0) 0=false:=by rw[a97 v i,bN]; exact oF hp
  simp only[fO,d,f,b,a,R4,e,zz]
def bYH {n c v}(hn:n<1048576)(h:c<n)(hz:∀ x,x<c->v x=0)(hp:v c≠0):EU (Zr n v,())=some ((c:Int),()):=by
 have d:=mD n v;have key:=aK (step:=dI) (N:=2^64) (λt=>(Zr n v,(),(n:Int),(t:Int),())) c (.inl ((c:Int),())) Z (λt ht=>?_) ?_;have key:aV dI (2^64) (Zr n v,(),(n:Int),0,())=some (.inl ((c:Int),())):=key;simp only[EU,qD,kY,d,key,zz]
 ·have f:ltI (t:Int) (n:Int)=true:=ze
  have b:aE (t:Int) n=true:=zi
  have a:((t:Nat):Int).toNat=t:=oN _;have e:eqS ((Zr n v).getD t ByteArray.empty) (ByteArray.mk #[48])=true:=by rw[aG4 v Z,WS]; exact oT (hz t ht)
  have g:=bP t Z;simp only[dI,d,f,b,a,vM,e,g,zz]
 ·have f:ltI (c:Int) (n:Int)=true:=ze
  have b:aE (c:Int) n=true:=zi
  have a:((c:Nat):Int).toNat=c:=oN _;have e:eqS ((Zr n v).getD c ByteArray.empty) (ByteArray.mk #[48])=false:=by rw[aG4 v h,WS]; exact oF hp
  simp only[dI,d,f,b,a,vM,e,zz]
def Hn.a29 {d n:Nat} {M:Nat->V} {p:Nat->Nat} (h:Hn d M p) (hw:∀ i,i<d->∀ x,n<=x->M i x=0) {i:Nat} (hi:i<d):p i<n:=by
 rcases oG (p i) n with g|g;exact g;have:=hw i hi _ g;have:=h.pos i hi;omega
def bUM {d n t M p}(h:Hn d M p)(hw:∀ i,i<d->∀ x,n<=x->M i x=0)(hd:d<1048576)(hn:n<1048576)(ht:t<d) :
  gI (Mr t n M,((p t:Int),Vr n (M t),()),())=some (false,()):=by
 have e:=eO t n M;have hp:=Hn.a29 h hw ht;have key:=aK (step:=dR) (N:=2^64) (λs=>(Mr t n M,((p t:Int),Vr n (M t),()),(t:Int),(s:Int),())) t (.inr ()) Z (λs f=>?_) ?_;have key:aV dR (2^64) (Mr t n M,((p t:Int),Vr n (M t),()),(t:Int),0,())=some (.inr ()):=key;have b:ltI (-1) 0=true:=O;simp only[gI,rQ,mJ,e,key,b,zz]
 ·have c:ltI (s:Int) (t:Int)=true:=ze
  have b:aE (s:Int) t=true:=zi
  have g:∀ a:Nat,((a:Nat):Int).toNat=a:=λa=>oN _
  have o:=a2X (n:=n) M f [];have k:aE (p t:Int) n=true:=zi
  have⟨r,l⟩:=h.red s t f ht;have m:ltI (M s (p t)) 0=false:=zf
  have q:ltI (M s (p t)) (M t (p t))=true:=by rw[aF]; exact oT l
  have j:=bP s Z;simp only[dR,e,c,b,g,o,U4,zV,k,a97 _ hp,m,q,j,zz]
 ·have c:ltI (t:Int) (t:Int)=false:=zf
  simp only[dR,c,oD]
def bQN {d n M p}(h:Hn d M p)(hw:∀ i,i<d->∀ x,n<=x->M i x=0)(hd:d<1048576)(hn:n<1048576):UG (Mr d n M,())=some (true,()):=by
 have m:=eO d n M;obtain⟨q,c⟩:∃ q:Nat->Int,q=λt=>if t=0 then -1 else (p (t-1):Int):=⟨_,rfl⟩;have key:=aK (step:=BX) (N:=2^64) (λt=>(Mr d n M,q t,Mr d n M,(d:Int),(t:Int),())) d (.inr ()) Z (λt ht=>?_) ?_
 ·have u:q 0 = -1:=by rw[c]; rfl
  rw[u]at key;have key:aV BX (2^64) (Mr d n M,-1,Mr d n M,(d:Int),0,())=some (.inr ()):=key;simp only[UG,QQ,m,key,zz]
 ·have hp:=Hn.a29 h hw ht;have k:ltI (t:Int) (d:Int)=true:=ze
  have r:aE (t:Int) d=true:=zi
  have o:∀ a:Nat,((a:Nat):Int).toNat=a:=λa=>oN _;have z:=a2X (n:=n) M ht [];have w:=bVZ hn hp (h.low t ht) (by have:=h.pos t ht; omega);have y:ltI (q t) (p t:Int)=true:=(by rw[aF,c];dsimp only;split;exact oT Z;have:=h.inc (t-1) t Z ht;exact oT Z)
  have A:aE (p t:Int) n=true:=zi
  have s:ltI (M t (p t)) 0=false:=by rw[aF]; exact oF (by have:=h.pos t ht; omega)
  have v:ltI (t:Int) 0=false:=zf
  have b:Nat.ble 0 t=true:=rfl;have f:Nat.ble t d=true:=zm
  have l:((Mr d n M).drop 0).take (t-0)=Mr t n M:=(by rw[List.drop_zero,Nat.sub_zero];unfold Mr;rw[<- List.map_take,List.take_range,Nat.min_eq_left Z])
  have e:=bUM h hw hd hn ht;have g:=bP t Z;have j:q (t+1)=(p t:Int):=by rw[c]; simp
  simp only[BX,m,k,r,o,z,w,y,zV,A,a97 _ hp,s,v,b,f,l,e,g,j,zz]
 ·have k:ltI (d:Int) (d:Int)=false:=zf
  simp only[BX,k,oD]
def aXT {d n:Nat} {M:Nat->V} {p:Nat->Nat} (h:Hn d M p) (hw:∀ i,i<d->∀ x,n<=x->M i x=0) (hd:d<=12) (hn:n<=12) (c:∀ i,i<d->∀ x,x<n->(M i x).natAbs<=1000000000):EY (((n:Int),Mr d n M),())=some (0,()):=by
 have hlen:∀ r∈Mr d n M,r.length=n:=λr b=>by
  obtain⟨i,_,rfl⟩:=a8V b;exact zV _ _
 have b:∀ r∈Mr d n M,∀ a∈r,a.natAbs<=1000000000:=λr b=>by
  obtain⟨i,hi,rfl⟩:=a8V b;exact bF4 (c i hi)
 have e:eqI 0 0=true:=O
 have c1:=bH3 (Mr d n M) (n:=n) (by rw[eO]; exact hd) hn hlen b;have c2:=a7E (Mr d n M) (n:=n) (by rw[eO]; exact hd) hn hlen b;simp only[EY,c1,e,aCO,c2,bQN h hw Z Z,zz]
def bJU {d n M p}(h:Hn d M p)(hw:∀ i,i<d->∀ x,n<=x->M i x=0)(hd:d<=12)(hn:n<=12)(b:∀ i,i<d->∀ x,x<n->(M i x).natAbs<=1000000000)(r:List Int)(c:r.length=n)(e:∀ a∈r,a.natAbs<=1000000000) :
  PH (((n:Int),Mr d n M),r,())=some (0,()):=by
 have g:eqI 0 0=true:=by rfl
 have f:eqI r.length n=true:=by rw[bN,c]; simp
 simp only[PH,aXT h hw hd hn b,g,A9 r Z e,f,zz]
end Go.PM
namespace Go.Lz
def bNG {E d}(h:1<=E)(hd:d<=4):fac E d<=24*(E*E*E*E):=by
 have b :=Nat.le_mul_of_pos_left E h;have a:E*E<=E*E*E:=Nat.le_mul_of_pos_right _ h;have c:E*E*E<=E*E*E*E:=Nat.le_mul_of_pos_right _ h;rcases(show d=0\/d=1\/d=2\/d=3\/d=4 by omega)with rfl|rfl|rfl|rfl|rfl <;> simp only[fac] <;> omega
def un(q:Nat):V:=λc=>if c=q then 1 else 0
def bLW b {q}:∀ {n},(q<n->dot n (un q) b=b q)/\(n<=q->dot n (un q) b=0)
 | 0=>⟨λh=>by omega,λ_=>rfl⟩
 | n+1=>by
  have a:=bLW b (q:=q) (n:=n);refine⟨λh=>?_,λh=>?_⟩
  ·show dot n (un q) b+un q n*b n=b q
   by_cases c:q=n
   ·subst c;rw[a.2 (Nat.le_refl _)];simp[un]
   ·rw[a.1 Z];have:¬ n=q:=λe=>c e.symm
    simp[un,this]
  ·show dot n (un q) b+un q n*b n=0;have:¬ n=q:=Z
   rw[a.2 Z];simp[un,this]
def bTQ {n} b (s:Nat->Int)(U:Nat->V):∀ d,dot n (λc=>sm (λj=>s j*U j c) d) b=sm (λj=>s j*dot n (U j) b) d
 | 0=>aZI b n
 | d+1=>by
  show dot n (λc=>sm (λj=>s j*U j c) d+s d*U d c) b=_;rw[aSM,bTQ b s U d];rfl
def bV0 {n k r B d W:Nat} {M K S H:Nat->V} {p:Nat->Nat} (hw:∀ i,i<k->∀ x,n<=x->M i x=0) (hH:Hn d H p) (I:Same k M d H) (hp:∀ j,j<d->p j<n) (hd:Dg k M d p W) (G:I0 n k M r K) (A:I0 n r K B S) :
  ∃ D:Int,D≠0/\∀ v,Sp B S v->Sp k M (λx=>D*v x):=by
 have⟨D,w,N,g⟩:=hd;refine⟨D,N,λv E=>?_⟩;have m:∀ {b:V},Sp k M b->∀ x,n<=x->b x=0:=λz x t=>Sp.aS8 (λj h=>hw j h x t) z;-- what the rows of the lattice are
 have comb:∀ b,Sp k M b->∀ x,D*b x=sm (λj=>b (p j)*w j x) d:=λb z x=>by
  have hz:(λy=>D*b y-sm (λj=>b (p j)*w j y) d)=λ_=>0:=by
   refine hH.zero ((I _).1 (Sp.sub (Sp.smul D z) (Sp.sm λj h=>(g j h).1))) λl q=>?_
   rw[bN7 (f:=λj=>b (p j)*w j (p l)) q λj h u=>by rw[(g j h).2.2.1 l q (Ne.symm u),Int.mul_zero]];rw[(g l q).2.1];grind
  have:=congrFun hz x;have:D*b x-sm (λj=>b (p j)*w j x) d=0:=this;omega
 have main:∀ x,D*v x=sm (λj=>v (p j)*w j x) d:=λx=>by
  by_cases t:x<n
  ·-- a row of the kernel
   have C:∀ b:V,dot n (λc=>sm (λj=>-(w j x)*un (p j) c) d+D*un x c) b=D*b x-sm (λj=>b (p j)*w j x) d:=λb=>by
    rw[aSM,bTQ,(bLW b).1 t];have:sm (λj=>-(w j x)*dot n (un (p j)) b) d = -(sm (λj=>b (p j)*w j x) d):=by
     have:∀ e,e<=d->sm (λj=>-(w j x)*dot n (un (p j)) b) e = -(sm (λj=>b (p j)*w j x) e):=by
      intro e
      induction e with
      | zero=>exact λ_=>rfl
      | succ e L =>
       intro he;rw[sm,sm,L Z,(bLW b).1 (hp e Z)];grind
     exact this d (Nat.le_refl _)
    rw[this];omega
   have O:Ker n k M (λc=>sm (λj=>-(w j x)*un (p j) c) d+D*un x c):=by
    refine⟨λc P=>?_,λi hi=>?_⟩
    ·have J:¬ c=x:=Z
     show sm (λj=>-(w j x)*un (p j) c) d+D*un x c=0;rw[a6I λj h=>by
      have:=hp j h;have F:¬ c=p j:=Z
      simp[un,F]]
     simp[un,J]
    ·rw[C,comb _ (Sp.mem hi) x]; omega
   have o:=(A v).1 E;have:=o.span ((G _).2 O);rw[TR,C]at this;omega
  ·have g1:=((A v).1 E).1 x Z;rw[g1,a6I λj h=>by rw[m (g j h).1 x Z,Int.mul_zero],Int.mul_zero]
 have:=Sp.sm (k:=k) (M:=M) (w:=w) (s:=λj=>v (p j)) (n:=d) λj h=>(g j h).1;refine cast (congrArg _ ?_) this;funext x;exact(main x).symm
end Go.Lz
namespace Go.PM
open Go Go.RowKit Go.Proofs Go.Lz
def dg(D:Nat):Nat->Nat| 0=>D| d+1=>6*dg D d+2
def b2L D {a b}(h:a<=b):dg D a<=dg D b:=by
 induction h with
 | refl=>simp;| step _ ih=>rw[dg]; omega
def b0K {D k n}(h:∀ d,d<k->d<n->10*dg D d+4<=400000):Bds k n (λd=>10^dg D d) (λd=>10^(5*dg D d+1)):=by
 have i:∀ a:Nat,(10^a)^5=10^(5*a):=λa=>by rw[<- Nat.pow_mul,Nat.mul_comm]
 refine⟨λd hd c=>⟨Nat.pow_pos O,Nat.pow_le_pow_right O Z,λ_=>?_,?_⟩,λd hd _=>?_⟩;show 9*(10^dg D d)^5<=10^(5*dg D d+1);rw[i,Nat.pow_succ];omega;have b:(10^(5*dg D d+1)+1:Nat)<10^(5*dg D d+1+1):=(by rw[Nat.pow_succ 10 (5*dg D d+1)];have:0<10^(5*dg D d+1):=Nat.pow_pos O;omega);have f:=xL (u:=10^(5*dg D d+1)+1) (k:=5*dg D d+1) b;have:=h d hd c;have e:DP=400000:=rfl;show 2*Lib.nDigits (10^(5*dg D d+1)+1)<=DP;omega
 ·show 10^dg D d+(10^dg D d+1)*10^(5*dg D d+1)<=10^(6*dg D d+2);generalize l:dg D d=a;have b:(10^(5*a+1):Nat)=10*10^(5*a):=by rw[Nat.pow_succ]; omega
  have f:(10^(6*a+2):Nat)=100*(10^a*10^(5*a)):=by rw[<- Nat.pow_add,show a+5*a=6*a by omega,Nat.pow_add]; omega
  have j:(10^a:Nat)<=10^a*10^(5*a):=Nat.le_mul_of_pos_right _ (Nat.pow_pos O);have m:(10^(5*a):Nat)<=10^a*10^(5*a):=Nat.le_mul_of_pos_left _ (Nat.pow_pos O);have g:(10^a+1)*(10*10^(5*a))=10*(10^a*10^(5*a))+10*10^(5*a):=W;rw[b,f,g];omega
def bMI {D k n}(a:k<=4\/n<=4)(e:D<=154):Bds k n (λd=>10^dg D d) (λd=>10^(5*dg D d+1)):=b0K λd hd hn=>by
 have c:=b2L D (show d<=3 by omega);have b:dg D 3=6*(6*(6*D+2)+2)+2:=rfl;omega
def bC6 {k n D:Nat} {M:Nat->V} (f:k<=4\/n<=4) (h:k<1048576) (hn:n<1048576) (hw:Wd k n M) (g:Big k n M (10^D)) (l:D<=154):∃ d H p,d<=k/\Hn d H p/\Same k M d H/\Wd d n H:=by
 have b:sF 0 k n ((List.range k).map λc=>(c,0,n)) ((List.range k).map λc=>Zr n (M c)) (λc=>c) M :=
  ⟨rfl,λi hi=>⟨[],rfl,by rw[List.getElem?_map,List.getElem?_range hi]; rfl⟩,λi j _ _ e=>e⟩
 have⟨m,A',o,H,d,p,_,g2,g3,g4,g5,g6,g7⟩:=a6C Z hn b hw (E:=λd=>10^dg D d) (T:=λd=>10^(5*dg D d+1)) g (bMI f l);exact⟨d,H,p,g2,g4,g5,λi hi x a=>g6 i Z x a⟩
def Hn.wR {d n H p}(h:Hn d H p)(hw:Wd d n H):d<=n/\∀ j,j<d->p j<n:=by
 have hp:∀ j,j<d->p j<n:=λj a=>Hn.a29 h hw a
 have:∀ j,j<d->j<=p j:=by
  intro j;induction j with
  | zero=>simp;| succ j b=>intro a; have:=h.inc j (j+1) R a; omega
 grind
def a1O {k n E D r:Nat} {M K:Nat->V} {p:Nat->Nat} (hn:n<=4) (w:k<1048000) (hw:Wd k n M) (m:Big k n M E) (c:1<=E) (t:E<=10^D) (a:D<=154) (hH:Hn r K p) (h:I0 n k M r K) :
  ∀ i,i<r->∀ x,(K i x).natAbs<=4*(24*(E*E*E*E)):=by
 have e:=m.wide (k:=k) (M:=M) c;have⟨d,W,q,g1,g2,g3,g4⟩:=bC6 (k:=n) (n:=k+n) (M:=wide n k M) (.inl hn) Z Z hw.wide (λi hi x g=>oR (e i hi x g) t) a;have⟨j,s,o,l⟩:=Hn.split g2 k;have⟨c1,c2⟩:=a3P g2 g3 s o l;have⟨y,_,f⟩:=Hn.unique hH c1 λv=>(h v).trans (c2 v).symm
 have b:=(bHA (k:=n) (M:=wide n k M) (E:=E) Z g2 (λj u=>⟨1,by decide,by
  have:=(g3 _).2 (Sp.mem u);refine cast (oZ _ ?_) this
  funext x; simp⟩) (e.all hw.wide)).mono λv=>(g3 v).1
 have hle:=Hn.bXI g2 b;intro i hi x;rw[f i hi];refine oR (hle (j+i) Z (k+x)) (Nat.mul_le_mul Z (bNG c Z))
def bR9 {k n E D r b:Nat} {M K S:Nat->V} {p2:Nat->Nat} (A:k<=4) (hn:n<=4) (hw:Wd k n M) (o:Big k n M E) (w:1<=E) (C:E<=10^D) (q:D<=154) (t:I0 n k M r K) (l:Hn b S p2) (a:I0 n r K b S) :
  ∀ i,i<b->∀ x,(S i x).natAbs<=4*(24*(E*E*E*E)):=by
 have⟨d,H,p,g1,g2,g3,g4⟩:=bC6 (.inl A) Z Z hw (λi hi x e=>oR (o i hi x e) C) q;have B:=(Hn.wR g2 g4);have s:=bHA (k:=k) (M:=M) (E:=E) Z g2 (λj f=>⟨1,by decide,by
  have:=(g3 _).2 (Sp.mem f);refine cast (oZ _ ?_) this
  funext x; simp⟩) (o.all hw)
 have⟨y,z,m⟩:=bV0 hw g2 g3 B.2 s t a;have g:Wd b n S:=λi hi x e=>a.width hi x e
 have a2:=Hn.wR l g;have h:=(bHA (k:=k) (M:=M) (E:=E) Z l (λj f=>⟨y,z,m _ (Sp.mem f)⟩) (o.all hw)).mono (k':=b) (M':=S) λv u=>by
  refine(a v).2 ⟨λc F=>Sp.aS8 (λj f=>hw j f c F) u,λx e=>?_⟩;rw[TR];exact((t _).1 (Sp.mem e)).span u
 have hle:=Hn.bXI l h;intro i hi x;refine oR (hle i hi x) (Nat.mul_le_mul Z (bNG w Z))
def bY9 {d n M}(hw:Wd d n M){i}(hi:i<d):aDR (Mr d n M) i=M i:=by
 unfold aDR;rw[a2X M hi];exact aTR λx a=>hw i hi x a
def sF.congr {o k n m A J M M'}(h:sF o k n m A J M)(e:∀ i,i<k->M i=M' i):sF o k n m A J M' :=⟨h.ml,λi hi=>by rw[<- e i hi]; exact h.at_ i hi,h.inj⟩
def aWK {d n M}(hd:d<=12)(hn:n<=12)(hw:Wd d n M)(f:Big d n M 1000000000):∃ m A,gV () (Mr d n M,()) []=some (m,A)/\sF 0 d n m A (λi=>i) M:=by
 have hlen:∀ r∈Mr d n M,r.length=n:=λr b=>by
  obtain⟨i,hi,rfl⟩:=a8V b;exact zV _ _
 have⟨m,A,g,c⟩:=bAX (Mr d n M) (by rw[eO]; omega) Z hlen λr b a h=>by
  obtain⟨i,hi,rfl⟩:=a8V b;have:=bF4 (λx e=>f i hi x e) a h;omega
 rw[eO]at c;exact⟨m,A,g,c.congr λi hi=>bY9 hw hi⟩
section
variable {d n:Nat} {B:Nat->V}
def p9:(1000000000:Nat)=10^9:=O
def p38:4*(24*((10^9)*(10^9)*(10^9)*(10^9)))<=10^38:=R
def b2J:4*(24*((10^38)*(10^38)*(10^38)*(10^38)))<=10^154:=R
def aW0 {m:List (Nat×Nat×Nat)} {A:List (List ByteArray)} {J:Nat->Nat} (hd:d<=4) (hn:n<=4) (hw:Wd d n B) (f:Big d n B (10^9)) (h:sF 0 d n m A J B) :
  ∃ a A' c K p r,cY () (m,(n:Int),()) A=some (a,A')/\sF d r n a A' c K/\r<=n/\Hn r K p/\I0 n d B r K/\Wd r n K/\Big r n K (10^38):=by
 have e:=λ(r:Nat) (K:Nat->V) (p:Nat->Nat) (hH:Hn r K p) (b:I0 n d B r K)=>a1O (E:=10^9) (D:=9) hn Z hw f O (oM _) O hH b
 have⟨a,A',c,K,p,r,g1,g2,g3,g4,g5,g6⟩:=bDO (E:=λd=>10^dg 9 d) (T:=λd=>10^(5*dg 9 d+1)) (show d<1048576 by omega) (show n<1048576 by omega) Z h hw f (show 1<=10^dg 9 0 from Nat.pow_pos O) (bMI (.inl hn) O) λr K p g hH b =>
  ⟨λd=>10^dg 38 d,λd=>10^(5*dg 38 d+1),λi hi x _=>oR (e r K p hH b i hi x) p38,bMI (.inl Z) O⟩
 exact⟨a,A',c,K,p,r,g1,g2,g3,g4,g5,g6,λi hi x _=>oR (e r K p g4 g5 i hi x) p38⟩
def a9O {o:Nat} {m:List (Nat×Nat×Nat)} {A:List (List ByteArray)} {J:Nat->Nat} (hd:d<=4) (hn:n<=4) (hw:Wd d n B) (f:Big d n B (10^38)) (h:sF o d n m A J B) :
  ∃ a A' c K p r,cY () (m,(n:Int),()) A=some (a,A')/\sF d r n a A' c K/\r<=n/\Hn r K p/\I0 n d B r K/\Wd r n K/\Big r n K (10^154):=by
 have e:=λ(r:Nat) (K:Nat->V) (p:Nat->Nat) (hH:Hn r K p) (b:I0 n d B r K)=>a1O (E:=10^38) (D:=38) hn Z hw f (Nat.pow_pos O) (oM _) O hH b
 have⟨a,A',c,K,p,r,g1,g2,g3,g4,g5,g6⟩:=bDO (E:=λd=>10^dg 38 d) (T:=λd=>10^(5*dg 38 d+1)) (show d<1048576 by omega) (show n<1048576 by omega) Z h hw f (show 1<=10^dg 38 0 from Nat.pow_pos O) (bMI (.inl hn) O) λr K p g hH b =>
  ⟨λd=>10^dg 154 d,λd=>10^(5*dg 154 d+1),λi hi x _=>oR (e r K p hH b i hi x) b2J,bMI (.inl Z) O⟩
 exact⟨a,A',c,K,p,r,g1,g2,g3,g4,g5,g6,λi hi x _=>oR (e r K p g4 g5 i hi x) b2J⟩
def aSJ {q:Nat->Nat} (hH:Hn d B q) (hn:n<=4) (hw:Wd d n B) (b:Big d n B 1000000000) {K:Nat->V} {p:Nat->Nat} {r:Nat} (g:Hn r K p) (f:I0 n d B r K) (ok:∀ i,i<r->∀ x,x<n->(K i x).natAbs<=1000000000) :
  vQ (((n:Int),Mr d n B),())=some (((n:Int),Mr r n K),0,()):=by
 have hd:=(Hn.wR hH hw).1;have⟨m,A,h,a2⟩:=aWK Z Z hw b;have⟨o,A',t,l,p',s,g1,g2,g3,g4,g5,g6,g7⟩:=aW0 Z hn hw (by rw[<- p9]; exact b) a2;have⟨j,_,e⟩:=Hn.unique g g4 λv=>(f v).trans (g5 v).symm;subst j;have a:=g2.congr (M':=K) λi hi=>(e i hi).symm;have c:=a7O a (oM _) Z Z ok (n:Int);rw[List.take_of_length_le (by rw[a.len]; exact oM _)]at c;have k:eqI 0 0=true:=O;simp only[vQ,aXT hH hw Z Z b,k,h,g1,c,zz];rfl
def a38 {q:Nat->Nat} (hH:Hn d B q) (hn:n<=4) (hw:Wd d n B) (c:Big d n B 1000000000) {K:Nat->V} {r:Nat} (l:I0 n d B r K) {S:Nat->V} {s:Nat->Nat} {t:Nat} (j:Hn t S s) (e:I0 n r K t S) (ok:∀ i,i<t->∀ x,x<n->(S i x).natAbs<=1000000000) :
  CB (((n:Int),Mr d n B),())=some (((n:Int),Mr t n S),0,()):=by
 have hd:=(Hn.wR hH hw).1;have⟨m,A,y,a2⟩:=aWK Z Z hw c;have⟨G,A',L,k,p',g,g1,g2,g3,g4,g5,g6,g7⟩:=aW0 Z hn hw (by rw[<- p9]; exact c) a2;have⟨m2,F,J,S',p2,E,z,p,H,C,h,D,I⟩:=a9O Z hn g6 g7 g2;have a:Same g k r K:=λv=>(g5 v).trans (l v).symm;have⟨o,_,w⟩:=Hn.unique j C λv=>(e v).trans ((Ker.same a).symm.trans (h v).symm);subst o;have b:=p.congr (M':=S) λi hi=>(w i hi).symm;have f:=a7O b (oM _) Z Z ok (n:Int);rw[List.take_of_length_le (by rw[b.len]; exact oM _)]at f;have u:eqI 0 0=true:=O;simp only[CB,aXT hH hw Z Z c,u,y,g1,z,f,zz];rfl
end
open Tryz
set_option maxHeartbeats 4000000
abbrev CY:zb:=[(0,.list TyE),(1,.list TyE),(12,zd),(13,zd)]
abbrev NV:zc:=[(.ret,[(4,.bool)]),(.exit 0,[])]
def cD:zp CY NV:=λ(c,d,b,a,())=>bif ltI a b then za (aE a c.length)<|za (aE a d.length)<|bif !(eqI (c.getD a.toNat 0) (d.getD a.toNat 0)) then some (.inr (.inl (false,())))else some (.inl (c,d,b,(aA .i64 (a+1)),()))else some (.inr (.inr ((()))))
def kN:zq CY NV:=aV cD (2^64)
def eC:zo [.list TyE,.list TyE] [.bool]:=λ(a,b,())=>bif !(eqI (a.length:Int) (b.length:Int)) then some (false,())else aB (kN (a,b,(a.length:Int),0,())) λd=>mN d (λc=>some (c.1,())) λe=>some (true,())
abbrev aIT:Ent:=⟨64,_,_,eC⟩
def NZ:Ent.OK tP aIT:=oU (aS oW) func64 4 (lp:=kN) rfl
def kJ:zo [.list TyE,.list TyE] [.bool]:=λ(a,b,())=>aB (eC (a,b,())) λc=>some (c.1,())
abbrev aWV:Ent:=⟨17,_,_,kJ⟩
def D9:Ent.OK tP aWV:=oI (aS (oV NZ oW)) func17
abbrev eD:zb:=[(1,.list TyD),(2,.fn 17),(15,.list TyD),(16,zd),(17,zd)]
abbrev jY:zc:=[(.ret,[(6,.bool)]),(.exit 0,[])]
def bD:zp eD jY:=λ(d,f,b,c,a,())=>bif ltI a c then za (aE a b.length)<|za (aE a d.length)<|aB (kJ ((b.getD a.toNat []),(d.getD a.toNat []),())) λe=>bif e.1 then some (.inl (d,(),b,c,(aA .i64 (a+1)),()))else some (.inr (.inl (false,())))else some (.inr (.inr ((()))))
def cL:zq eD jY:=aV bD (2^64)
def bH:zo [.list TyD,.list TyD,.fn 17] [.bool]:=λ(a,b,f,())=>bif !(eqI (a.length:Int) (b.length:Int)) then some (false,())else aB (cL (b,(),a,(a.length:Int),0,())) λc=>mN c (λd=>some (d.1,())) λe=>some (true,())
abbrev BF:Ent:=⟨97,_,_,bH⟩
def zO:Ent.OK tP BF:=oU (aS (oV D9 oW)) func97 4 (lp:=cL) rfl
def Q2:zo [.agg TyH,.agg TyH] [.bool]:=λ(a,b,())=>bif eqI a.1 b.1 then aB (bH (a.2,b.2,(),())) λc=>some (c.1,())else some (false,())
abbrev bAP:Ent:=⟨54,_,_,Q2⟩
def a0B:Ent.OK tP bAP:=oI (aS (oV zO oW)) func54
def S5:zo [.list TyE,.list TyE] [.bool]:=λ(a,b,())=>aB (eC (a,b,())) λc=>some (c.1,())
abbrev aUG:Ent:=⟨126,_,_,S5⟩
def aPF:Ent.OK tP aUG:=oI (aS (oV NZ oW)) func126
abbrev eE:zb:=[(1,.list TyD),(2,.fn 126),(15,.list TyD),(16,zd),(17,zd)]
abbrev jX:zc:=[(.ret,[(6,.bool)]),(.exit 0,[])]
def bC:zp eE jX:=λ(d,f,b,c,a,())=>bif ltI a c then za (aE a b.length)<|za (aE a d.length)<|aB (S5 ((b.getD a.toNat []),(d.getD a.toNat []),())) λe=>bif e.1 then some (.inl (d,(),b,c,(aA .i64 (a+1)),()))else some (.inr (.inl (false,())))else some (.inr (.inr ((()))))
def cK:zq eE jX:=aV bC (2^64)
def bI:zo [.list TyD,.list TyD,.fn 126] [.bool]:=λ(a,b,f,())=>bif !(eqI (a.length:Int) (b.length:Int)) then some (false,())else aB (cK (b,(),a,(a.length:Int),0,())) λc=>mN c (λd=>some (d.1,())) λe=>some (true,())
abbrev BQ:Ent:=⟨97,_,_,bI⟩
def zJ:Ent.OK tP BQ:=oU (aS (oV aPF oW)) func97 4 (lp:=cK) rfl
def B0:zo [.list TyD,.list TyD] [.bool]:=λ(a,b,())=>aB (bI (a,b,(),())) λc=>some (c.1,())
abbrev aZK:Ent:=⟨82,_,_,B0⟩
def aBY:Ent.OK tP aZK:=oI (aS (oV zJ oW)) func82
abbrev WU:zb:=[(0,zd),(3,zd)]
abbrev aKG:zc:=[(.ret,[(2,.bool)]),(.exit 0,[])]
def aUI:zp WU aKG:=λ(b,a,())=>bif !(ltI b (aA .i64 (a*a))) then bif eqI a 0 then none else bif eqI (b.tmod a) 0 then some (.inr (.inl (false,())))else some (.inl (b,(aA .i64 (a+1)),()))else some (.inr (.inr ((()))))
def aD8:zq WU aKG:=aV aUI (2^64)
def aSN:zo [zd] [.bool]:=λ(a,())=>bif ltI a 2 then some (false,())else bif ltI 97 a then some (false,())else aB (aD8 (a,2,())) λb=>mN b (λc=>some (c.1,())) λd=>some (true,())
abbrev bAD:Ent:=⟨153,_,_,aSN⟩
def aX7:Ent.OK tP bAD:=oU (aS oW) func153 4 (lp:=aD8) rfl
abbrev aDH:zb:=[(0,.list TyE),(13,.list TyE),(14,zd),(15,zd)]
abbrev aQB:zc:=[(.ret,[(2,zd)]),(.exit 1,[])]
def aZQ:zp aDH aQB:=λ(d,b,c,a,())=>bif ltI a c then za (aE a b.length)<|aB (aSN ((b.getD a.toNat 0),())) λe=>bif e.1 then bif ltI 0 a then za (aE (aA .i64 (a-1)) d.length)<|bif !(ltI (d.getD ((aA .i64 (a-1)).toNat) 0) (b.getD a.toNat 0)) then some (.inr (.inl (6,())))else some (.inl (d,b,c,(aA .i64 (a+1)),()))else some (.inl (d,b,c,(aA .i64 (a+1)),()))else some (.inr (.inl (25,())))else some (.inr (.inr ((()))))
def aJ1:zq aDH aQB:=aV aZQ (2^64)
def BD:zo [.list TyE] [zd]:=λ(a,())=>bif eqI (a.length:Int) 0 then some (13,())else bif ltI 6 (a.length:Int) then some (4,())else aB (aJ1 (a,a,(a.length:Int),0,())) λb=>mN b (λc=>some (c.1,())) λd=>some (0,())
abbrev a0K:Ent:=⟨114,_,_,BD⟩
def aDX:Ent.OK tP a0K:=oU (aS (oV aX7 oW)) func114 6 (lp:=aJ1) rfl
def FK:zo [.agg TyG] [zd]:=λ(a,())=>aB (BD (a.1,())) λb=>bif !(eqI b.1 0) then some (b.1,())else aB (EY (((a.1.length:Int),a.2.1),())) λd=>bif !(eqI d.1 0) then some (d.1,())else aB (CB (((a.1.length:Int),a.2.1),())) λe=>bif !(eqI e.2.1 0) then some (7,())else aB (Q2 (e.1,((a.1.length:Int),a.2.1),())) λg=>bif g.1 then aB (vQ (((a.1.length:Int),a.2.1),())) λc=>bif !(eqI c.2.1 0) then some (14,())else aB (B0 (c.1.2,a.2.2,())) λf=>bif f.1 then some (0,())else some (14,())else some (7,())
abbrev aXE:Ent:=⟨98,_,_,FK⟩
def YY:Ent.OK tP aXE:=oI (aS (oV V5 (oV PW (oV a0B (oV aBQ (oV aDX (oV aBY oW))))))) func98
abbrev OQ:zb:=[(2,.box 36 TyG),(14,.list TyD),(15,zd),(16,zd)]
abbrev YT:zc:=[(.ret,[(4,zd)]),(.exit 0,[])]
def KV:zp OQ YT:=λ(e,b,c,a,())=>bif ltI a c then za (aE a b.length)<|aB (kH ((b.getD a.toNat []),())) λd=>bif !(eqI d.1 0) then some (.inr (.inl (d.1,())))else bif !(eqI ((b.getD a.toNat []).length:Int) (e.1.length:Int)) then some (.inr (.inl (5,())))else some (.inl (e,b,c,(aA .i64 (a+1)),()))else some (.inr (.inr ((()))))
def KR:zq OQ YT:=aV KV (2^64)
def M7:zo [.agg TyG,.list TyD] [zd]:=λ(b,c,())=>aB (FK (b,())) λa=>bif !(eqI a.1 0) then some (a.1,())else aB (KR (b,c,(c.length:Int),0,())) λd=>mN d (λe=>some (e.1,())) λf=>some (0,())
abbrev aWR:Ent:=⟨101,_,_,M7⟩
def aQR:Ent.OK tP aWR:=oU (aS (oV xF (oV YY oW))) func101 5 (lp:=KR) rfl
abbrev rW:zb:=[(1,.list TyE),(5,.own 167 .str),(7,.list TyE),(8,.str),(12,.list TyD),(13,zd),(14,zd),(18,.list TyE),(19,zd),(20,zd)]
abbrev yA:zc:=[(.exit 2,[(1,.list TyE),(5,.own 167 .str),(8,.str),(12,.list TyD),(13,zd),(14,zd)])]
def uE:zp rW yA:=λ(h,i,g,j,f,e,c,b,d,a,())=>bif ltI a d then za (aE a b.length)<|aB (pA ((b.getD a.toNat 0),())) λk=>za (aE a g.length)<|aB (pA ((g.getD a.toNat 0),())) λl=>aB (ZN (k.1,l.1,())) λn=>aB (aIG (j,n.1,())) λm=>some (.inl (h,i,g,m.1,f,e,c,b,d,(aA .i64 (a+1)),()))else some (.inr ((h,i,j,f,e,c,())))
def uI:zq rW yA:=aV uE (2^64)
abbrev rX:zb:=[(1,.list TyE),(5,.own 167 .str),(12,.list TyD),(13,zd),(14,zd)]
abbrev xT:zc:=[(.exit 0,[(5,.own 167 .str)])]
def uM:zp rX xT:=λ(e,f,c,d,b,())=>bif ltI b d then za (aE b c.length)<|aB (uI (e,f,(c.getD b.toNat []),(ByteArray.mk #[48]),c,d,b,e,(e.length:Int),0,())) λa=>za (Nat.ble [a.2.2.1].length 1048576)<|za (Nat.ble a.2.1.length 1048576)<|some (.inl (a.1,(a.2.1++[a.2.2.1]),a.2.2.2.1,a.2.2.2.2.1,(aA .i64 (a.2.2.2.2.2.1+1)),()))else some (.inr ((f,())))
def A7:zq rX xT:=aV uM (2^64)
def KO:zo [.agg TyG,.list TyE] [.list .str]:=λ(b,c,())=>aB (A7 (c,[],b.2.2,(b.2.2.length:Int),0,())) λa=>some (a.1,())
def aD9:Code:=bY f102
abbrev S9:Env:=B1 [a9Y,aOT,a1U]
def NH:dN tP S9:=aS ⟨aU9,aK7,RZ,trivial⟩
def zL:Code:=dC aD9 0
def O4:Code:=dC zL 0
def QA(id:Nat):Option cI:=bif Nat.beq id 7 then some ⟨rW,yA,uI⟩ else bif Nat.beq id 3 then some ⟨rX,xT,A7⟩ else none
def aIX:∀ x,dL tP S9 42 (aP f102) QA O4 rW yA x=uE x:=λ_=>Y
def aLL:cJ tP 42 O4 ⟨rW,yA,uI⟩:=cC NH.callee aQ.mixed _ (aO (l:=[]) Y trivial) aIX
def aJH:∀ x,dL tP S9 42 (aP f102) QA zL rX xT x=uM x:=λ_=>Y
def aO1:bA zL=[O4]:=Y
def aKO:cJ tP 42 zL ⟨rX,xT,A7⟩:=cC NH.callee aQ.mixed _ (aO aO1 ⟨cB (i:=7) Y rfl aLL,trivial⟩) aJH
abbrev aUC:Ent:=⟨102,_,_,KO⟩
def aO3:Ent.OK tP aUC:=W4 aQ NH func102 (c:=aD9) Y (keep:=aP f102) (lt:=QA) (aO (l:=[zL]) Y ⟨cB (i:=3) Y rfl aKO,trivial⟩) (λ_=>by kernel_rfl)
def QC:zo [.int .u8] [.list TyE]:=λ(a,())=>bif eqI ([[2,3,5],[2,3,5,7],[2,3],[2,3,7],[2,5,7],[3,5,7],[2,3,5,11],[2],[2,3,7,13],[3,5,7,13]].length:Int) 0 then none else za (aE ((IntKind.wrap .i64 a).tmod ([[2,3,5],[2,3,5,7],[2,3],[2,3,7],[2,5,7],[3,5,7],[2,3,5,11],[2],[2,3,7,13],[3,5,7,13]].length:Int)) [[2,3,5],[2,3,5,7],[2,3],[2,3,7],[2,5,7],[3,5,7],[2,3,5,11],[2],[2,3,7,13],[3,5,7,13]].length)<|some (([[2,3,5],[2,3,5,7],[2,3],[2,3,7],[2,5,7],[3,5,7],[2,3,5,11],[2],[2,3,7,13],[3,5,7,13]].getD (((IntKind.wrap .i64 a).tmod ([[2,3,5],[2,3,5,7],[2,3],[2,3,7],[2,5,7],[3,5,7],[2,3,5,11],[2],[2,3,7,13],[3,5,7,13]].length:Int)).toNat) []),())
abbrev aSO:Ent:=⟨75,_,_,QC⟩
def aMB:Ent.OK tP aSO:=oI (aS oW) func75
abbrev HI:zb:=[(0,.list TyE),(3,.box 69 TyI),(5,.own 3 TyE),(6,zd)]
abbrev SP:zc:=[(.exit 0,[(5,.own 3 TyE)])]
def wN:zp HI SP:=λ(d,a,c,b,())=>bif ltI b (d.length:Int) then bif ltI b 4 then bif eqI b 0 then za (Nat.ble [((IntKind.wrap .i64 a.1).tmod 10)].length 1048576)<|za (Nat.ble c.length 1048576)<|some (.inl (d,a,(c++[((IntKind.wrap .i64 a.1).tmod 10)]),(aA .i64 (b+1)),()))else bif eqI b 1 then za (Nat.ble [((IntKind.wrap .i64 a.2.1).tmod 10)].length 1048576)<|za (Nat.ble c.length 1048576)<|some (.inl (d,a,(c++[((IntKind.wrap .i64 a.2.1).tmod 10)]),(aA .i64 (b+1)),()))else bif eqI b 2 then za (Nat.ble [((IntKind.wrap .i64 a.2.2.1).tmod 10)].length 1048576)<|za (Nat.ble c.length 1048576)<|some (.inl (d,a,(c++[((IntKind.wrap .i64 a.2.2.1).tmod 10)]),(aA .i64 (b+1)),()))else za (eqI b 3)<|za (Nat.ble [((IntKind.wrap .i64 a.2.2.2).tmod 10)].length 1048576)<|za (Nat.ble c.length 1048576)<|some (.inl (d,a,(c++[((IntKind.wrap .i64 a.2.2.2).tmod 10)]),(aA .i64 (b+1)),()))else some (.inr ((c,())))else some (.inr ((c,())))
def DW:zq HI SP:=aV wN (2^64)
def mI:zo [.list TyE,.agg TyI] [.list TyE]:=λ(a,b,())=>aB (DW (a,b,[],0,())) λc=>some (c.1,())
abbrev MK:Ent:=⟨28,_,_,mI⟩
def HG:Ent.OK tP MK:=oU (aS oW) func28 3 (lp:=DW) rfl
def C9:zo [.list TyE,.list TyD,.bool] [.agg TyG,zd]:=λ(a,f,g,())=>aB (BD (a,())) λe=>bif !(eqI e.1 0) then some (([],([],[])),e.1,())else aB (MI ((a.length:Int),f,())) λb=>bif !(eqI b.2.1 0) then some (([],([],[])),b.2.1,())else aB (CB (b.1,())) λd=>aB (vQ (b.1,())) λc=>bif !(eqI d.2.1 0) then some (([],([],[])),4,())else bif !(eqI c.2.1 0) then some (([],([],[])),4,())else bif g then some ((a,(c.1.2,d.1.2)),0,())else some ((a,(d.1.2,c.1.2)),0,())
abbrev aT5:Ent:=⟨76,_,_,C9⟩
def aOI:Ent.OK tP aT5:=oI (aS (oV V5 (oV aSE (oV aBQ (oV aDX oW))))) func76
abbrev O6:zb:=[(1,.box 24 TyP),(2,.box 36 TyG),(3,.list TyE),(4,.own 29 TyD),(5,zd)]
abbrev YZ:zc:=[(.exit 0,[(1,.box 24 TyP),(2,.box 36 TyG),(3,.list TyE),(4,.own 29 TyD)])]
def B4:zp O6 YZ:=λ(a,e,c,d,b,())=>bif ltI b (a.2.1.length:Int) then bif ltI b 3 then za (aE b a.2.1.length)<|aB (mI (c,((a.2.1.getD b.toNat (0,(0,(0,0)))).1,((a.2.1.getD b.toNat (0,(0,(0,0)))).2.1,((a.2.1.getD b.toNat (0,(0,(0,0)))).2.2.1,(a.2.1.getD b.toNat (0,(0,(0,0)))).2.2.2))),())) λf=>za (Nat.ble [f.1].length 1048576)<|za (Nat.ble d.length 1048576)<|some (.inl (a,e,c,(d++[f.1]),(aA .i64 (b+1)),()))else some (.inr ((a,e,c,d,())))else some (.inr ((a,e,c,d,())))
def LP:zq O6 YZ:=aV B4 (2^64)
def vF:zo [.agg TyP] [.agg TyG]:=λ(b,())=>aB (QC (b.1,())) λd=>aB (LP (b,([],([],[])),d.1,[],0,())) λa=>aB (C9 (a.2.2.1,a.2.2.2.1,a.1.2.2,())) λc=>some (c.1,())
abbrev UN:Ent:=⟨26,_,_,vF⟩
def YP:Ent.OK tP UN:=oU (aS (oV HG (oV aMB (oV aOI oW)))) func26 4 (lp:=LP) rfl
def FM:zo [.agg TyP] [.bool]:=λ(a,())=>some (!(ltI 3 (a.2.1.length:Int)),())
abbrev aGD:Ent:=⟨25,_,_,FM⟩
def YR:Ent.OK tP aGD:=oI (aS oW) func25
def aHY {α:Type} z:∀ {a b:List α},a.length=b.length->a≠b->∃ x,x<a.length/\(∀ y,y<x->a.getD y z=b.getD y z)/\a.getD x z≠b.getD x z
 | [],[],_,h=>absurd rfl h
 | [],_::_,h,_=>by simp at h
 | _::_,[],h,_=>by simp at h
 | s::a,t::b,hl,h=>by
  by_cases e:s=t
  ·subst e;obtain⟨x,h1,h2,h3⟩:=aHY z (by simpa using hl) (λe=>h (by rw[e]));refine⟨x+1,by simpa using h1,λy hy=>?_,by grind⟩;cases y with
   | zero=>rfl
   | succ y=>grind
  ·exact⟨0,by simp,λy hy=>by omega,by simpa using e⟩
def aTL(a b:List Int)(p:a.length<1048576):eC (a,b,())=some (decide (a=b),()):=by
 by_cases g:a.length=b.length
 ·have d:eqI (a.length:Int) (b.length:Int)=true:=zg
  have step:∀ t,t<a.length->∀ c,decide (a.getD t 0=b.getD t 0)=c->cD (a,b,(a.length:Int),(t:Int),())=(bif c then some (.inl (a,b,(a.length:Int),((t+1:Nat):Int),())) else some (.inr (.inl (false,())))):=λt ht c o=>by
   have f:ltI (t:Int) (a.length:Int)=true:=ze
   have i:aE (t:Int) a.length=true:=zi
   have h:aE (t:Int) b.length=true:=zi
   have n:((t:Nat):Int).toNat=t:=oN _;have m:=bP t Z;simp only[cD,f,i,h,n,m,oC,bN,o];cases c <;> rfl
  by_cases he:a=b
  ·subst he;have key:=aK (step:=cD) (N:=2^64) (λt=>(a,a,(a.length:Int),(t:Int),())) a.length (.inr ()) Z (λt ht=>step t ht true R) (by
    have f:ltI (a.length:Int) (a.length:Int)=false:=zf
    simp only[cD,f,oD])
   have key:kN (a,a,(a.length:Int),0,())=_:=key;simp only[eC,d,key,decide_true,zz]
  have⟨x,j,k,l⟩:=aHY 0 g he;have key:=aK (step:=cD) (N:=2^64) (λt=>(a,b,(a.length:Int),(t:Int),())) x (.inl (false,())) Z (λt ht=>step t Z true (oT (k t ht))) (step x j false (oF l));have key:kN (a,b,(a.length:Int),0,())=_:=key;simp only[eC,d,key,oF he,zz]
 ·have d:eqI (a.length:Int) (b.length:Int)=false:=zh
  have he:¬ a=b:=λe=>g (by rw[e]);simp only[eC,d,oF he,zz]
def bKJ(a b:List (List Int))(u:a.length<1048576)(m:∀ r∈a,r.length<1048576):bH (a,b,(),())=some (decide (a=b),()):=by
 by_cases g:a.length=b.length
 ·have d:eqI (a.length:Int) (b.length:Int)=true:=zg
  have step:∀ t,t<a.length->∀ c,decide (a.getD t []=b.getD t [])=c->bD (b,(),a,(a.length:Int),(t:Int),())=(bif c then some (.inl (b,(),a,(a.length:Int),((t+1:Nat):Int),())) else some (.inr (.inl (false,())))):=λt ht c s=>by
   have f:ltI (t:Int) (a.length:Int)=true:=ze
   have i:aE (t:Int) a.length=true:=zi
   have h:aE (t:Int) b.length=true:=zi
   have p:((t:Nat):Int).toNat=t:=oN _;have n:=bP t Z;have o:(a.getD t []).length<1048576:=by
    have:a.getD t []=a[t]:=by simp[List.getD,ht]
    rw[this]; exact m _ (List.getElem_mem ht)
   have q:=aTL (a.getD t []) (b.getD t []) o;simp only[bD,f,i,h,p,n,kJ,q,s,zz]
  by_cases he:a=b
  ·subst he;have key:=aK (step:=bD) (N:=2^64) (λt=>(a,(),a,(a.length:Int),(t:Int),())) a.length (.inr ()) Z (λt ht=>step t ht true R) (by
    have f:ltI (a.length:Int) (a.length:Int)=false:=zf
    simp only[bD,f,oD])
   have key:cL (a,(),a,(a.length:Int),0,())=_:=key;simp only[bH,d,key,decide_true,zz]
  have⟨x,j,k,l⟩:=aHY [] g he;have key:=aK (step:=bD) (N:=2^64) (λt=>(b,(),a,(a.length:Int),(t:Int),())) x (.inl (false,())) Z (λt ht=>step t Z true (oT (k t ht))) (step x j false (oF l));have key:cL (b,(),a,(a.length:Int),0,())=_:=key;simp only[bH,d,key,oF he,zz]
 ·have d:eqI (a.length:Int) (b.length:Int)=false:=zh
  have he:¬ a=b:=λe=>g (by rw[e]);simp only[bH,d,oF he,zz]
def bKM(a b:List (List Int))(u:a.length<1048576)(m:∀ r∈a,r.length<1048576):bI (a,b,(),())=some (decide (a=b),()):=by
 by_cases g:a.length=b.length
 ·have d:eqI (a.length:Int) (b.length:Int)=true:=zg
  have step:∀ t,t<a.length->∀ c,decide (a.getD t []=b.getD t [])=c->bC (b,(),a,(a.length:Int),(t:Int),())=(bif c then some (.inl (b,(),a,(a.length:Int),((t+1:Nat):Int),())) else some (.inr (.inl (false,())))):=λt ht c s=>by
   have f:ltI (t:Int) (a.length:Int)=true:=ze
   have i:aE (t:Int) a.length=true:=zi
   have h:aE (t:Int) b.length=true:=zi
   have p:((t:Nat):Int).toNat=t:=oN _;have n:=bP t Z;have o:(a.getD t []).length<1048576:=by
    have:a.getD t []=a[t]:=by simp[List.getD,ht]
    rw[this]; exact m _ (List.getElem_mem ht)
   have q:=aTL (a.getD t []) (b.getD t []) o;simp only[bC,f,i,h,p,n,S5,q,s,zz]
  by_cases he:a=b
  ·subst he;have key:=aK (step:=bC) (N:=2^64) (λt=>(a,(),a,(a.length:Int),(t:Int),())) a.length (.inr ()) Z (λt ht=>step t ht true R) (by
    have f:ltI (a.length:Int) (a.length:Int)=false:=zf
    simp only[bC,f,oD])
   have key:cK (a,(),a,(a.length:Int),0,())=_:=key;simp only[bI,d,key,decide_true,zz]
  have⟨x,j,k,l⟩:=aHY [] g he;have key:=aK (step:=bC) (N:=2^64) (λt=>(b,(),a,(a.length:Int),(t:Int),())) x (.inl (false,())) Z (λt ht=>step t Z true (oT (k t ht))) (step x j false (oF l));have key:cK (b,(),a,(a.length:Int),0,())=_:=key;simp only[bI,d,key,oF he,zz]
 ·have d:eqI (a.length:Int) (b.length:Int)=false:=zh
  have he:¬ a=b:=λe=>g (by rw[e]);simp only[bI,d,oF he,zz]
def bBU(n c:Int)(a b:List (List Int))(f:a.length<1048576)(e:∀ r∈a,r.length<1048576):Q2 ((n,a),(c,b),())=some (decide (n=c)&&decide (a=b),()):=by
 by_cases h:n=c
 ·subst h;have d:eqI n n=true:=by rw[bN]; simp
  simp only[Q2,d,bKJ a b f e,decide_true,Bool.true_and,zz]
 ·have d:eqI n c=false:=by rw[bN]; grind
  simp only[Q2,d,oD,h,decide_false,Bool.false_and]
def bFO(a b:List (List Int))(d:a.length<1048576)(c:∀ r∈a,r.length<1048576):B0 (a,b,())=some (decide (a=b),()):=by simp only[B0,bKM a b d c,aC]
end Go.PM
namespace Go.Lz
def I0.back {n m k k2 A K K2}(e:∀ i,i<m->∀ c,n<=c->A i c=0)(b:I0 n m A k K)(d:I0 n k K k2 K2):I0 n k2 K2 k K:=by
 intro y;rw[b];constructor;intro g;refine⟨g.1,λx a=>?_⟩;have:=((d _).1 (Sp.mem a));rw[TR];exact this.span ((b y).2 g);rintro⟨g1,g2⟩;refine⟨g1,λx a=>?_⟩;have :=(d _).2 ⟨e x a,λz hz=>by rw[TR]; exact((b _).1 (Sp.mem hz)).2 x a⟩;exact Ker.span ⟨g1,g2⟩ this
def I0.of_same {n m m' k A A' K}(h:Same m A m' A')(a:I0 n m A k K):I0 n m' A' k K:=λy=>(a y).trans (Ker.same h)
end Go.Lz
namespace Go.PM
open Go Go.RowKit Go.Proofs Go.Lz
structure RT (ps:List Int) (n d r:Nat) (C K:Nat->V):Prop where
 pr:BD (ps,())=some (0,())
 len:ps.length=n
 n4:n<=4
 hc:∃ q,Hn d C q
 hk:∃ p,Hn r K p
 wc:Wd d n C
 wk:Wd r n K
 bc:Big d n C 1000000000
 bk:Big r n K 1000000000
 ker:I0 n d C r K
 ker2:I0 n r K d C
def bFT {d n M}(hn:n<=4):∀ r∈Mr d n M,r.length<1048576:=λr a=>by
 obtain⟨i,_,rfl⟩:=a8V a;rw[zV]; omega
def RT.check {ps n d r C K}(h:RT ps n d r C K):FK ((ps,(Mr d n C,Mr r n K)),())=some (0,()):=by
 have⟨q,hc⟩:=h.hc;have⟨p,hk⟩:=h.hk;have n4:=h.n4;have d4:=(Hn.wR hc h.wc).1;have g:=(Hn.wR hk h.wk).1;have f:eqI 0 0=true:=by rfl
 have e:ps.length=n:=by rw[h.len]
 have s1:=a38 hc n4 h.wc h.bc h.ker hc h.ker2 h.bc;have s2:=aSJ hc n4 h.wc h.bc hk h.ker h.bk;have c:=aXT hc h.wc Z Z h.bc;have a:=bBU n n (Mr d n C) (Mr d n C) (by rw[eO]; omega) (bFT n4);have b:=bFO (Mr r n K) (Mr r n K) (by rw[eO]; omega) (bFT n4);simp only[decide_true,Bool.and_self]at a b;simp only[FK,h.pr,f,e,c,s1,a,s2,b,zz]
def bTD {ps:List Int} {n:Nat} (hp:BD (ps,())=some (0,())) (u:ps.length=n) (hn:n<=4) (rows:List (List Int)) (R:rows.length<=4) (hlen:∀ r∈rows,r.length=n) (U:∀ r∈rows,∀ a∈r,a.natAbs<=10) (c:Bool) :
  ∃ d r C K,C9 (ps,rows,c,())=some ((ps,(Mr d n C,Mr r n K)),0,())/\RT ps n d r C K/\Big r n K 960000/\Big d n C 960000:=by
 have f:∀ i,i<rows.length->∃ r,r∈rows/\aDR rows i=eK r:=λi hi=>⟨rows[i],List.getElem_mem hi,by unfold aDR; simp[List.getD,hi]⟩
 have hw:Wd rows.length n (aDR rows):=λi hi x e=>by
  have⟨r,b,g⟩:=f i hi;rw[g]; unfold eK;have:=hlen r b;simp[List.getD,List.getElem?_eq_none (show r.length<=x by omega)]
 have B:Big rows.length n (aDR rows) 10:=λi hi x e=>by
  have⟨r,b,g⟩:=f i hi;rw[g]; unfold eK;have u:=hlen r b;have:r.getD x 0=r[x]' zN:=by simp[List.getD,show x<r.length by omega]
  rw[this];exact U r b _ (List.getElem_mem _)
 have z:4*(24*(10*10*10*10))<=1000000000:=zZ
 have⟨d,M,q,g1,g2,g3,g4,g5,g6⟩:=of_eq rows (n:=n) zN zN hlen (E:=λd=>10^dg 1 d) (T:=λd=>10^(5*dg 1 d+1)) U (show 10^dg 1 0<=1000000000 by decide) (bMI (.inl R) zZ) λd H p hd hH L X i hi x e=>by
  have I:=(bHA (k:=rows.length) (M:=aDR rows) (E:=10) zN hH (λj Y=>⟨1,by decide,by
   have:=(L _).2 (Sp.mem Y);refine cast (oZ _ ?_) this
   funext x; simp⟩) (B.all hw)).mono λv=>(L v).1
  exact oR (oR (Hn.bXI hH I i hi x) (Nat.mul_le_mul zN (bNG zZ zN))) z
 have hd:=(Hn.wR g3 g5).1;have⟨m,A,a1,a2⟩:=aWK zN zN g5 g6;have⟨m',A',J',K,p,r,k1,W,k3,w,y,G,V⟩:=aW0 zN hn g5 (by rw[<- p9]; exact g6) a2;have⟨m2,A2,J2,S,s,t,c1,c2,c3,c4,c5,N,Z⟩:=a9O zN hn G V W;have O:I0 n rows.length (aDR rows) r K:=y.of_same g4.symm;have h:Big r n K 960000:=λi hi x e=>a1O (E:=10) (D:=1) hn zN hw B zZ zZ zZ w O i hi x
 have l:Big t n S 960000:=λi hi x e=>bR9 (E:=10) (D:=1) R hn hw B zZ zZ zZ O c4 c5 i hi x
 have F:Big r n K 1000000000:=λi hi x e=>oR (h i hi x e) zZ
 have J:Big t n S 1000000000:=λi hi x e=>oR (l i hi x e) zZ
 have s1:=a38 g3 hn g5 g6 y c4 c5 J;have s2:=aSJ g3 hn g5 g6 w y F;have back:=I0.back g5 y c5;have Q:eqI 0 0=true:=zZ
 have P:((ps.length:Nat):Int)=(n:Int):=by rw[u]
 have o:MI ((n:Int),rows,())=some (((n:Int),Mr d n M),0,()):=g1;cases c with
 | false =>
  refine⟨t,r,S,K,?_,⟨hp,u,hn,⟨s,c4⟩,⟨p,w⟩,N,G,J,F,back,c5⟩,h,l⟩;simp only[C9,hp,Q,P,o,s1,s2,zz]
 | true =>
  refine⟨r,t,K,S,?_,⟨hp,u,hn,⟨p,w⟩,⟨s,c4⟩,G,N,F,J,c5,back⟩,l,h⟩;simp only[C9,hp,Q,P,o,s1,s2,zz]
def L12:List (List Int):=[[2,3,5],[2,3,5,7],[2,3],[2,3,7],[2,5,7],[3,5,7],[2,3,5,11],[2],[2,3,7,13],[3,5,7,13]]
def b07:∀ i,i<10->BD (L12.getD i [],())=some (0,())/\(L12.getD i []).length<=4:=by
 intro i hi;rcases(show i=0\/i=1\/i=2\/i=3\/i=4\/i=5\/i=6\/i=7\/i=8\/i=9 by omega)with rfl|rfl|rfl|rfl|rfl|rfl|rfl|rfl|rfl|rfl;all_goals exact⟨by rfl,by decide⟩
def bS6(v:Int)(a:0<=v)(d:v<256):QC (v,())=some (L12.getD (v%10).toNat [],()):=by
 have g:IntKind.wrap .i64 v=v:=aAM Z Z;have c:v.tmod 10=v%10:=Int.tmod_eq_emod_of_nonneg a;have b:aE (v%10) 10=true:=by rw[aL]; grind
 have f:eqI 10 0=false:=O
 have e:L12.length=10:=O
 show (bif eqI L12.length 0 then none else bif aE ((IntKind.wrap .i64 v).tmod (L12.length:Int)) L12.length then some ((L12.getD (((IntKind.wrap .i64 v).tmod L12.length).toNat) []),()) else none)=_;grind
def aBV(t:Int×Int×Int×Int):Nat->Int| 0=>t.1| 1=>t.2.1| 2=>t.2.2.1| _=>t.2.2.2
def I8(t:Int×Int×Int×Int):Prop:=∀ i,i<4->-128<=aBV t i/\aBV t i<128
def aJ2(ps:List Int)(k:ps.length<=4) t (ht:I8 t):mI (ps,t,())=some ((List.range ps.length).map (λi=>(aBV t i).tmod 10),()):=by
 have w0:IntKind.wrap .i64 t.1=t.1:=aAM (by have:=ht 0 Z; simp only[aBV]at this; omega) (by have:=ht 0 Z; simp only[aBV]at this; omega);have h:IntKind.wrap .i64 t.2.1=t.2.1:=aAM (by have:=ht 1 Z; simp only[aBV]at this; omega) (by have:=ht 1 Z; simp only[aBV]at this; omega);have j:IntKind.wrap .i64 t.2.2.1=t.2.2.1:=aAM (by have:=ht 2 Z; simp only[aBV]at this; omega) (by have:=ht 2 Z; simp only[aBV]at this; omega);have d:IntKind.wrap .i64 t.2.2.2=t.2.2.2:=aAM (by have:=ht 3 Z; simp only[aBV]at this; omega) (by have:=ht 3 Z; simp only[aBV]at this; omega);have key:=aK (step:=wN) (N:=2^64) (λs=>(ps,(t.1,(t.2.1,(t.2.2.1,t.2.2.2))),(List.range s).map (λi=>(aBV t i).tmod 10),(s:Int),())) ps.length ((List.range ps.length).map (λi=>(aBV t i).tmod 10),()) Z (λs l=>?_) ?_;have key:DW (ps,(t.1,(t.2.1,(t.2.2.1,t.2.2.2))),[],0,())=_:=key;simp only[mI,key,aC]
 ·have a:ltI (s:Int) (ps.length:Int)=true:=ze
  have c:ltI (s:Int) 4=true:=ze
  have b:=bP s Z;have g:∀ x:Int,Nat.ble [x].length 1048576=true:=λ_=>rfl
  have e:Nat.ble ((List.range s).map (λi=>(aBV t i).tmod 10)).length 1048576=true:=by rw[eL,List.length_map,List.length_range]; exact oT Z
  have f:(List.range (s+1)).map (λi=>(aBV t i).tmod 10)=(List.range s).map (λi=>(aBV t i).tmod 10)++[(aBV t s).tmod 10]:=by rw[List.range_succ,List.map_append]; rfl
  simp only[wN,a,c,oC,g,e,w0,h,j,d,b,f];rcases(show s=0\/s=1\/s=2\/s=3 by omega)with rfl|rfl|rfl|rfl <;> rfl
 ·have a:ltI (ps.length:Int) (ps.length:Int)=false:=zf
  simp only[wN,a,oD]
def bEB(v:Int) (A:0<=v) (n:v<256) (rows:List (Int×Int×Int×Int)) (E:rows.length<=3) (c:∀ t∈rows,I8 t) (b:Bool) :
  ∃ d r C K,vF ((v,(rows,b)),())=some ((L12.getD (v%10).toNat [],(Mr d (L12.getD (v%10).toNat []).length C,Mr r (L12.getD (v%10).toNat []).length K)),())/\RT (L12.getD (v%10).toNat []) (L12.getD (v%10).toNat []).length d r C K/\Big r (L12.getD (v%10).toNat []).length K 960000/\Big d (L12.getD (v%10).toNat []).length C 960000:=by
 have⟨hp,f⟩:=b07 (v%10).toNat Z;have k:=bS6 v A n;generalize L12.getD (v%10).toNat []=ps at hp f k ⊢;have key:=aK (step:=B4) (N:=2^64) (λs=>((v,(rows,b)),([],([],[])),ps,(rows.take s).map (λt=>(List.range ps.length).map (λi=>(aBV t i).tmod 10)),(s:Int),())) rows.length
  ((v,(rows,b)),([],([],[])),ps,rows.map (λt=>(List.range ps.length).map (λi=>(aBV t i).tmod 10)),()) Z (λs g=>?_) ?_
 ·have key:LP ((v,(rows,b)),([],([],[])),ps,[],0,())=_:=key;have⟨d,r,C,K,D,y⟩:=bTD hp rfl f (rows.map (λt=>(List.range ps.length).map (λi=>(aBV t i).tmod 10))) (by rw[List.length_map]; omega) (λr c=>by
   obtain⟨t,_,rfl⟩:=List.mem_map.1 c;simp) (λr c a B=>by
   obtain⟨t,_,rfl⟩:=List.mem_map.1 c;obtain⟨i,_,rfl⟩:=List.mem_map.1 B;rw[Int.natAbs_tmod];have:=Nat.mod_lt (aBV t i).natAbs (show 0<(10:Int).natAbs by decide);have e:(10:Int).natAbs=10:=rfl;omega) b
  refine⟨d,r,C,K,?_,y⟩;simp only[vF,k,aC,key,D]
 ·have h:ltI (s:Int) (rows.length:Int)=true:=ze
  have l:ltI (s:Int) 3=true:=ze
  have z:=bP s Z;have q:aE (s:Int) rows.length=true:=zi
  have o:((s:Nat):Int).toNat=s:=oN _;have p:rows.getD s (0,0,0,0)=rows[s]:=by simp[List.getD,g]
  have u:=aJ2 ps f rows[s] (c _ (List.getElem_mem g));have m:∀ x:List Int,Nat.ble [x].length 1048576=true:=λ_=>rfl
  have w:Nat.ble ((rows.take s).map (λt=>(List.range ps.length).map (λi=>(aBV t i).tmod 10))).length 1048576=true:=by rw[eL,List.length_map,List.length_take]; exact oT Z
  have j:(rows.take (s+1)).map (λt=>(List.range ps.length).map (λi=>(aBV t i).tmod 10))=(rows.take s).map (λt=>(List.range ps.length).map (λi=>(aBV t i).tmod 10))++[(List.range ps.length).map (λi=>(aBV rows[s] i).tmod 10)]:=by rw[List.take_succ_eq_append_getElem g,List.map_append]; rfl
  simp only[B4,h,l,q,o,p,u,m,w,z,j,zz]
 ·have h:ltI (rows.length:Int) (rows.length:Int)=false:=zf
  simp only[B4,h,oD,List.take_length]
def bUW {n:Nat} {u v:V} {q:Int} (hn:n<1048576) (ok:a7N n u v q):aBW (t:=.str) lM (Zr n u) (Zn q,Zr n v,())=some (Zr n λx=>u x-q*v x):=by
 have g:=mD n u;have main:lM () ((0,0,n),Zn q,Zr n v,()) [Zr n u]=some ((),[Zr n λx=>u x-q*v x]):=by
  unfold lM;simp only[WS];by_cases f:q=0
  ·subst f;simp only[decide_true,oC];have:Zr n (λx=>u x-0*v x)=Zr n u:=aAV λi _=>R
   rw[this]
  ·have key:=aK (step:=mE) (N:=2^64)
    (λt=>((0,0,n),Zn q,Zr n v,(n:Int),(t:Int),[Zr n λx=>if x<t then u x-q*v x else u x],())) n ([Zr n λx=>u x-q*v x],()) Z (λt ht=>?_) ?_
   ·have h:Zr n (λx=>if x<0 then u x-q*v x else u x)=Zr n u:=aAV λi _=>R
    simp only[h]at key;have key:aV mE (2^64) ((0,0,n),Zn q,Zr n v,(n:Int),0,[Zr n u],())=_:=key;simp only[f,decide_false,zE,mD,key,zz]
   ·have b:ltI (t:Int) (n:Int)=true:=ze
    have k:aE (t:Int) n=true:=zi
    have j:(0+t)*1=t:=Z;have e:((t:Nat):Int).toNat=t:=oN _;have o:dG [Zr n λx=>if x<t then u x-q*v x else u x] 0=n:=(by show (Zr n _).length=n;exact mD _ _)
    have p:Nat.blt t n=true:=by rw[cF]; simpa using ht
    have r:dZ [Zr n λx=>if x<t then u x-q*v x else u x] 0 t ByteArray.empty=Zn (u t):=(by show (Zr n _).getD t _=_;rw[aG4 _ ht]; simp);have l:DQ [Zr n λx=>if x<t then u x-q*v x else u x] 0 t (Zn (u t-q*v t))=[Zr n λx=>if x<t+1 then u x-q*v x else u x]:=(by show [(Zr n _).set t _]=_;rw[bL6 u (λx=>u x-q*v x) t ht]);have m1:=aWN q (v t) (ok.mul t ht);have m2:=a94 (u t) (q*v t) (ok.sub t ht) (by rw[Int.natAbs_mul]; exact oR (a4D _ _) (ok.mul t ht));have c:=bP t Z;simp only[mE,b,k,e,j,p,o,r,mD,aG4 v ht,m1,m2,l,c,zz]
   ·have b:ltI (n:Int) (n:Int)=false:=zf
    have:Zr n (λx=>if x<n then u x-q*v x else u x)=Zr n λx=>u x-q*v x:=aAV λi hi=>by simp[hi]
    simp only[mE,b,oD,this]
 have b:Nat.beq (Zr n λx=>u x-q*v x).length (Zr n u).length=true:=by
  have d:∀ a:Nat,Nat.beq a a=true:=λa=>by
   induction a with
   | zero=>rfl
   | succ a m=>exact m
  rw[mD,mD];exact d n
 unfold aBW;rw[g,main];simp only[g,mD]at b ⊢;rw[b]; rfl
def red(M:Nat->V) (p:Nat->Nat):Nat->V->V| 0,u=>u| t+1,u=>λx=>red M p t u x-(red M p t u (p t)).fdiv (M t (p t))*M t x
section
variable {d n:Nat} {M:Nat->V} {p:Nat->Nat}
def bTS(hw:∀ i,i<d->∀ x,n<=x->M i x=0){u}(hu:∀ x,n<=x->u x=0):∀ t,t<=d->∀ x,n<=x->red M p t u x=0| 0,_,x,hx=>hu x hx| t+1,ht,x,hx=>by simp only[red,bTS hw hu t Z x hx,hw t Z x hx,Int.mul_zero,Int.sub_zero]
structure Rds (d n:Nat) (M:Nat->V) (B:Nat) (U:Nat->Nat):Prop where
 row:∀ i,i<d->∀ x,x<n->(M i x).natAbs<=B
 up:∀ t,t<d->U t+(U t+1)*B<=U (t+1)
 fit:∀ t,t<d->Lib.nDigits (U t+1)+Lib.nDigits B<=DP
def bO6 {B U}(h:Hn d M p)(hw:∀ i,i<d->∀ x,n<=x->M i x=0)(a:Rds d n M B U){u}(hu:∀ x,x<n->(u x).natAbs<=U 0):∀ t,t<=d->∀ x,x<n->(red M p t u x).natAbs<=U t
 | 0,_,x,hx=>hu x hx
 | t+1,ht,x,hx=>by
  have c:=bO6 h hw a hu t Z;have b:=h.pos t Z;have hp:=Hn.a29 h hw (show t<d by omega);have e:=aZR (c (p t) hp) (show M t (p t)≠0 by omega);have k:((red M p t u (p t)).fdiv (M t (p t))*M t x).natAbs=((red M p t u (p t)).fdiv (M t (p t))).natAbs*(M t x).natAbs:=Int.natAbs_mul _ _;have f :=Nat.mul_le_mul e (a.row t Z x hx);have j:=a.up t Z;have g:=c x hx
  simp only[red];omega
end
def bOB(r:List Int)(c:r.length<=1048576)(b:∀ a∈r,-9223372036854775808<=a/\a<9223372036854775808):LH (r,())=some (r.map Zn,()):=by
 have d:ltI r.length 0=false:=by rfl
 have e:ltI 1048576 r.length=false:=by rw[aF]; grind
 have key:OY ([],r,r.length,0,())=some (r.map Zn,()):=a3X r c b;unfold LH;simp only[d,e,List.replicate_zero,key,zz]
def bQU n v:(Vr n v).map Zn=Zr n v:=by simp[Vr,Zr]
section
variable {d n:Nat} {M:Nat->V} {p:Nat->Nat}
def bD7(h:Hn d M p)(hw:∀ i,i<d->∀ x,n<=x->M i x=0)(hn:n<1048576)(b:∀ i,i<d->∀ x,x<n->(M i x).natAbs<=1000000000):∀ l:List Nat,(∀ i∈l,i<d) ->
  bAJ (l.map λi=>Vr n (M i))=some (l.map λi=>((p i:Int),Zr n (M i),()))
 | [],_=>rfl
 | i::l,hl=>by
  have hi:=hl i R;have c:=bOB (Vr n (M i)) (by rw[zV]; omega) (λa g=>by have:=bF4 (b i hi) a g; omega);rw[bQU]at c;have f:=bYH hn (Hn.a29 h hw hi) (h.low i hi) (by have:=h.pos i hi; omega);have e:=bD7 h hw hn b l (λj k=>hl j W);simp only[List.map_cons,bAJ,c,aC,f,e]
def bM3(h:Hn d M p)(hw:∀ i,i<d->∀ x,n<=x->M i x=0)(hn:n<1048576)(hd:d<1048576)(a:∀ i,i<d->∀ x,x<n->(M i x).natAbs<=1000000000) :
  aYN (((n:Int),Mr d n M),())=some ((List.range d).map λi=>((p i:Int),Zr n (M i),())):=by
 have b:Nat.ble (Mr d n M).length 1048576=true:=by rw[eL,eO]; grind
 simp only[aYN,b];exact bD7 h hw hn a (List.range d) λi hi=>List.mem_range.1 hi
def a3I {B:Nat} {U:Nat->Nat} (h:Hn d M p) (hw:∀ i,i<d->∀ x,n<=x->M i x=0) (hn:n<1048576) (hd:d<1048576) (b:Rds d n M B U) {u:V} (hu:∀ x,x<n->(u x).natAbs<=U 0) (c:TZ [(.prod (.int .i64) (.list (.list (.int .i64))))]):∀ (j t:Nat),t+j=d->∀ (q:List ByteArray),q.length=t ->
  ∃ k,I6 nE (bN2 dB gF) ((List.range' t j).map λi=>((p i:Int),Zr n (M i),())) (Zr n (red M p t u),q,c,())=some (Zr n (red M p d u),k,())
 | 0,t,ht,q,_=>by
  have:t=d:=Z
  subst this;exact⟨q,rfl⟩
 | j+1,t,ht,q,hq=>by
  have a:t<d:=Z
  have s:=h.pos t a;have hp:=Hn.a29 h hw a;have l:=bO6 h hw b hu t Z;have f:=b.fit t a;have G:DP=400000:=rfl;have g1:Lib.nDigits (red M p t u (p t)).natAbs<=399999:=by
   have e:=vC (show (red M p t u (p t)).natAbs<=U t+1 from Nat.le_succ_of_le (l (p t) hp));have r:=nDigits_pos B;omega
  have g2:Lib.nDigits (M t (p t)).natAbs<=399999:=by
   have e:=vC (b.row t a (p t) hp);have r:=nDigits_pos (U t+1);omega
  have E:((p t:Nat):Int).toNat=p t:=oN _;have D:aE (p t:Int) n=true:=zi
  have w:Nat.blt (p t) n=true:=by rw[cF]; simpa using hp
  have F:=aK0 (red M p t u (p t)) (M t (p t)) Z Z (show M t (p t)≠0 by omega);have g:=aZR (l (p t) hp) (show M t (p t)≠0 by omega);have o:=bUW (n:=n) (u:=red M p t u) (v:=M t) (q:=(red M p t u (p t)).fdiv (M t (p t))) hn ⟨λi hi=>by
    have e:=vC g;have r:=vC (b.row t a i hi);omega,λi hi=>by
    have e:=vC (show (red M p t u i).natAbs<=U t+1 from Nat.le_succ_of_le (l i hi));omega⟩
  have y:Nat.ble [Zn ((red M p t u (p t)).fdiv (M t (p t)))].length 1048576=true:=rfl;have z:Nat.ble q.length 1048576=true:=by rw[eL,hq]; exact oT Z
  obtain⟨c1,⟨⟩⟩:=c;have⟨k,m⟩:=a3I h hw hn hd b hu ((c1.1,c1.2),()) j (t+1) Z (q++[Zn ((red M p t u (p t)).fdiv (M t (p t)))]) (by simp[hq]);refine⟨k,?_⟩;rw[List.range'_succ,List.map_cons,I6];have A:nE (Zr n (red M p t u),q,(c1,()),()) ((p t:Int),Zr n (M t),())=some (.inl (Zr n (red M p (t+1) u),q++[Zn ((red M p t u (p t)).fdiv (M t (p t)))],((c1.1,c1.2),()),())):=by
   have C:(Zr n λx=>red M p t u x-(red M p t u (p t)).fdiv (M t (p t))*M t x)=Zr n (red M p (t+1) u):=rfl;rw[C]at o;simp only[nE,mD,E,D,w,aG4 _ hp,F,o,y,z,zz]
  rw[A];exact m
def bQY {B U}(h:Hn d M p)(hw:∀ i,i<d->∀ x,n<=x->M i x=0)(hn:n<=12)(hd:d<=12)(f:∀ i,i<d->∀ x,x<n->(M i x).natAbs<=1000000000)(k:Rds d n M B U)(r:List Int)(j:r.length=n)(s:∀ a∈r,a.natAbs<=U 0)(t:U 0<=1000000000) :
  ∃ q,wF (((n:Int),Mr d n M),r,())=some (Zr n (red M p d (eK r)),q,()):=by
 have hu:∀ x,x<n->(eK r x).natAbs<=U 0:=λx m=>by
  unfold eK;grind
 have c:=a2Y r Z (λa o=>by grind);have g:r.map Zn=Zr n (eK r):=by rw[<- j,bPB]
 rw[g]at c;have⟨q,b⟩:=a3I h hw Z Z k hu (((n:Int),Mr d n M),()) d 0 Z [] rfl;rw[<- List.range_eq_range']at b;refine⟨q,?_⟩;have e:=bM3 h hw Z Z f;have l:nG (Zr n (eK r),[],(((n:Int),Mr d n M),()),())=some (Zr n (red M p d (eK r)),q,()):=by
  unfold nG a2H;simp only[DY,e];exact b
 simp only[wF,c,aC,LK,l]
def short_list {v:V} (hn:n<1048576) (ok:∀ x,x<n->(v x).natAbs<=1000000000):KF (Zr n v,())=some (Vr n v,0,()):=by
 have key:=aK (step:=uP) (N:=2^64) (λt=>(Vr t v,Zr n v,(n:Int),(t:Int),())) n (.inr (Vr n v,())) Z (λt ht=>?_) ?_
 ·have a:ltI (n:Int) 0=false:=zf
  have c:ltI 1048576 (n:Int)=false:=zf
  have key:aV uP (2^64) ([],Zr n v,(n:Int),0,())=_:=key;unfold KF JT;simp only[mD,a,c,List.replicate_zero,key,zz]
 ·have l:=ok t ht;have a:ltI (t:Int) (n:Int)=true:=ze
  have c:aE (t:Int) n=true:=zi
  have h:((t:Nat):Int).toNat=t:=oN _;have j:=aRB (v t) (by have:=xL (u:=(v t).natAbs) (k:=17) Z; omega);have i:ltI 1000000000 (v t)=false:=zf
  have b:ltI (v t) (-1000000000)=false:=zf
  have e:Nat.ble [v t].length 1048576=true:=rfl;have g:Nat.ble (Vr t v).length 1048576=true:=by rw[eL,zV]; exact oT Z
  have f:=bP t Z;have d:Vr t v++[v t]=Vr (t+1) v:=by unfold Vr; rw[List.range_succ,List.map_append]; rfl
  simp only[uP,mD,a,c,h,aG4 v ht,j,i,b,e,g,f,d,zz]
 ·have a:ltI (n:Int) (n:Int)=false:=zf
  simp only[uP,a,oD]
end
def bOU {a b E F}:∀ {n},(∀ x,x<n->(a x).natAbs<=E)->(∀ x,x<n->(b x).natAbs<=F)->(dot n a b).natAbs<=n*(E*F)
 | 0,_,_=>by simp[dot]
 | n+1,ha,hb=>by
  have e:=bOU (n:=n) (λx c=>ha x Z) (λx c=>hb x Z);have d:=a4Y (ha n R) (hb n R);rw[Nat.succ_mul];show (dot n a b+a n*b n).natAbs<=_;omega
section
variable {n r:Nat} {K:Nat->V}
def bR6(hn:n<=12)(H:r<=12)(ps:List Int)(C:List (List Int))(x:List Int)(F:x.length=n)(B:∀ a∈x,a.natAbs<=1000000000)(hw:Wd r n K)(q:Big r n K 1000000000) :
  KO ((ps,(C,Mr r n K)),x,())=some ((List.range r).map (λi=>Zn (dot n (eK x) (K i))),()):=by
 have f:∀ t,t<n->(eK x t).natAbs<=1000000000:=λt ht=>by
  unfold eK;have:x.getD t 0=x[t]' Z:=by simp[List.getD,show t<x.length by omega]
  rw[this];exact B _ (List.getElem_mem _)
 have inner:∀ i,i<r->∀ (v5:List ByteArray) (v12:List (List Int)) (c d:Int),uI (x,v5,Vr n (K i),ByteArray.mk #[48],v12,c,d,x,(x.length:Int),0,())=some (x,v5,Zn (dot n (eK x) (K i)),v12,c,d,()):=λi hi v5 v12 c d=>by
  have key:=aK (step:=uE) (N:=2^64) (λt=>(x,v5,Vr n (K i),Zn (dot t (eK x) (K i)),v12,c,d,x,(x.length:Int),(t:Int),())) n (x,v5,Zn (dot n (eK x) (K i)),v12,c,d,()) Z (λt ht=>?_) ?_
  ·have z:Zn (dot 0 (eK x) (K i))=ByteArray.mk #[48]:=by
    show Zn 0=_
    kernel_rfl
   have key:uI (x,v5,Vr n (K i),Zn (dot 0 (eK x) (K i)),v12,c,d,x,(x.length:Int),0,())=_:=key;rwa[z]at key
  ·have e:ltI (t:Int) (x.length:Int)=true:=ze
   have g:aE (t:Int) x.length=true:=zi
   have o:((t:Nat):Int).toNat=t:=oN _;have l:aE (t:Int) n=true:=zi
   have E:=f t ht;have D:=q i hi t ht;have G:=bOU (n:=t) (a:=eK x) (b:=K i) (λy A=>f y Z) (λy A=>q i hi y Z);have I:=a4Y E D;have h:pA (x.getD t 0,())=some (Zn (eK x t),()):=FC _ (by have:x.getD t 0=eK x t:=rfl; omega) (by have:x.getD t 0=eK x t:=rfl; omega);have j:pA ((Vr n (K i)).getD t 0,())=some (Zn (K i t),()):=by rw[a97 _ ht]; exact FC _ Z Z
   have d1:=xL (u:=(eK x t).natAbs) (k:=9) Z;have d2:=xL (u:=(K i t).natAbs) (k:=9) Z;have m:=aWN (eK x t) (K i t) Z;have d3:=xL (u:=(dot t (eK x) (K i)).natAbs) (k:=20) Z;have d4:=xL (u:=(eK x t*K i t).natAbs) (k:=20) Z;have v:=a73 (dot t (eK x) (K i)) (eK x t*K i t) Z Z;have w:=bP t Z;have p:dot t (eK x) (K i)+eK x t*K i t=dot (t+1) (eK x) (K i):=rfl
   simp only[uE,e,g,o,h,zV,l,j,m,v,w,p,zz]
  ·have e:ltI (n:Int) (x.length:Int)=false:=zf
   simp only[uE,e,oD]
 have key:=aK (step:=uM) (N:=2^64) (λt=>(x,(List.range t).map (λi=>Zn (dot n (eK x) (K i))),Mr r n K,((Mr r n K).length:Int),(t:Int),())) r ((List.range r).map (λi=>Zn (dot n (eK x) (K i))),()) Z (λt ht=>?_) ?_;have key:A7 (x,[],Mr r n K,((Mr r n K).length:Int),0,())=_:=key;simp only[KO,key,aC]
 ·have e:ltI (t:Int) (r:Int)=true:=ze
  have g:aE (t:Int) r=true:=zi
  have o:((t:Nat):Int).toNat=t:=oN _;have l:∀ s:ByteArray,Nat.ble [s].length 1048576=true:=λ_=>rfl
  have h:Nat.ble ((List.range t).map (λi=>Zn (dot n (eK x) (K i)))).length 1048576=true:=by rw[eL,List.length_map,List.length_range]; exact oT Z
  have j:=bP t Z;have m:(List.range (t+1)).map (λi=>Zn (dot n (eK x) (K i)))=(List.range t).map (λi=>Zn (dot n (eK x) (K i)))++[Zn (dot n (eK x) (K t))]:=by rw[List.range_succ,List.map_append]; rfl
  simp only[uM,eO,e,g,o,a2X K ht,inner t ht,l,h,j,m,zz]
 ·have e:ltI (r:Int) (r:Int)=false:=zf
  simp only[uM,eO,e,oD]
end
open Tryz
set_option maxHeartbeats 4000000
abbrev MV:zb:=[(7,.own 3 TyE),(21,.list .str),(22,zd),(23,zd)]
abbrev WY:zc:=[(.ret,[(4,.list TyE),(5,zd)]),(.exit 0,[(7,.own 3 TyE)])]
def AZ:zp MV WY:=λ(e,b,d,a,())=>bif ltI a d then za (aE a b.length)<|aB (IF ((b.getD a.toNat ByteArray.empty),())) λc=>bif c.2.1 then bif ltI 1000000000 c.1 then some (.inr (.inl ([],4,())))else bif ltI c.1 (-1000000000) then some (.inr (.inl ([],4,())))else za (Nat.ble [c.1].length 1048576)<|za (Nat.ble e.length 1048576)<|some (.inl ((e++[c.1]),b,d,(aA .i64 (a+1)),()))else some (.inr (.inl ([],4,())))else some (.inr (.inr ((e,()))))
def JH:zq MV WY:=aV AZ (2^64)
def gW:zo [.agg TyG,.list TyE] [.list TyE,zd]:=λ(a,d,())=>aB (M7 (a,[d],())) λb=>bif !(eqI b.1 0) then some ([],b.1,())else aB (KO (a,d,())) λc=>aB (JH ([],c.1,(c.1.length:Int),0,())) λf=>mN f (λe=>some (e.1,e.2.1,())) λg=>some (g.1,0,())
def aBG:WA tP 56 _ _ gW:=oU (aS (oV aQR (oV aO3 (oV aDL oW)))) func56 6 (lp:=JH) rfl
abbrev aD7:Ent:=⟨56,_,_,gW⟩
def DU:Ent.OK tP aD7:=aBG
def QW:zo [zd] [.bool]:=λ(a,())=>some (!(eqI a a),())
abbrev a99:Ent:=⟨152,_,_,QW⟩
def a0M:Ent.OK tP a99:=oI (aS oW) func152
def R1:zo [zd,zd] [zd]:=λ(a,b,())=>aB (QW (a,())) λd=>aB (QW (b,())) λc=>bif d.1 then bif c.1 then some (0,())else some ((-1),())else bif c.1 then some (1,())else bif ltI a b then some ((-1),())else bif ltI b a then some (1,())else some (0,())
abbrev a2V:Ent:=⟨113,_,_,R1⟩
def aUH:Ent.OK tP a2V:=oI (aS (oV a0M oW)) func113
abbrev AJ:zb:=[(0,.list TyE),(1,.list TyE),(9,.list TyE),(10,zd),(11,zd)]
abbrev LI:zc:=[(.ret,[(4,zd)]),(.exit 0,[(0,.list TyE),(1,.list TyE)])]
def pR:zp AJ LI:=λ(e,c,d,b,a,())=>bif ltI a b then za (aE a d.length)<|bif !(ltI a (c.length:Int)) then some (.inr (.inl (1,())))else za (aE a c.length)<|aB (R1 ((d.getD a.toNat 0),(c.getD a.toNat 0),())) λf=>bif !(eqI f.1 0) then some (.inr (.inl (f.1,())))else some (.inl (e,c,d,b,(aA .i64 (a+1)),()))else some (.inr (.inr ((e,c,()))))
def xW:zq AJ LI:=aV pR (2^64)
def wU:zo [.list TyE,.list TyE] [zd]:=λ(a,e,())=>aB (xW (a,e,a,(a.length:Int),0,())) λc=>mN c (λd=>some (d.1,())) λb=>bif ltI (b.1.length:Int) (b.2.1.length:Int) then some ((-1),())else some (0,())
abbrev aEG:Ent:=⟨67,_,_,wU⟩
def Z0:Ent.OK tP aEG:=oU (aS (oV aUH oW)) func67 2 (lp:=xW) rfl
def XM:zo [.list TyE,.list TyE] [zd]:=λ(a,b,())=>aB (wU (a,b,())) λc=>some (c.1,())
abbrev bER:Ent:=⟨19,_,_,XM⟩
def aP9:Ent.OK tP bER:=oI (aS (oV Z0 oW)) func19
def aAN:zo [zd] [.bool]:=λ(a,())=>some (!(eqI a 0),())
abbrev bBC:Ent:=⟨117,_,_,aAN⟩
def a1A:Ent.OK tP bBC:=oI (aS oW) func117
abbrev wZ:zb:=[(0,.list TyE),(1,.fn 117),(7,zd),(8,zd)]
abbrev GL:zc:=[(.ret,[(4,zd)]),(.exit 0,[])]
def eB:zp wZ GL:=λ(b,e,c,a,())=>bif ltI a c then za (aE a b.length)<|aB (aAN ((b.getD a.toNat 0),())) λd=>bif d.1 then some (.inr (.inl (a,())))else some (.inl (b,(),c,(aA .i64 (a+1)),()))else some (.inr (.inr ((()))))
def lC:zq wZ GL:=aV eB (2^64)
def rR:zo [.list TyE,.fn 117] [zd]:=λ(a,e,())=>aB (lC (a,(),(a.length:Int),0,())) λb=>mN b (λc=>some (c.1,())) λd=>some ((-1),())
abbrev ZX:Ent:=⟨106,_,_,rR⟩
def WI:Ent.OK tP ZX:=oU (aS (oV a1A oW)) func106 2 (lp:=lC) rfl
def nP:zo [.list TyE,.fn 117] [.bool]:=λ(a,c,())=>aB (rR (a,(),())) λb=>some (!(ltI b.1 0),())
abbrev V7:Ent:=⟨60,_,_,nP⟩
def SZ:Ent.OK tP V7:=oI (aS (oV WI oW)) func60
def RG:zo [.list TyE] [.bool]:=λ(a,())=>aB (nP (a,(),())) λb=>bif b.1 then some (false,())else some (true,())
abbrev bIM:Ent:=⟨71,_,_,RG⟩
def aR1:Ent.OK tP bIM:=oI (aS (oV SZ oW)) func71
def a7S:zo [zd] [zd]:=λ(a,())=>some ((if a<(IntKind.wrap .i64 (0-a)) then (IntKind.wrap .i64 (0-a)) else a),())
abbrev bTV:Ent:=⟨63,_,_,a7S⟩
def bKV:Ent.OK tP bTV:=oI (aS oW) func63
abbrev aR8:zb:=[(5,zd),(13,.list TyE),(14,zd),(15,zd)]
abbrev a3M:zc:=[(.exit 0,[(5,zd)])]
def aAS:zp aR8 a3M:=λ(d,b,c,a,())=>bif ltI a c then bif aE a b.length then aB (a7S ((b.getD a.toNat 0),())) λe=>some (.inl ((if d<e.1 then e.1 else d),b,c,(aA .i64 (a+1)),())) else none else some (.inr ((d,())))
def aKY:zq aR8 a3M:=aV aAS (2^64)
def W9:zo [.list TyE] [zd,zd]:=λ(a,())=>aB (kH (a,())) λb=>bif !(eqI b.1 0) then some (0,b.1,())else aB (aKY (0,a,(a.length:Int),0,())) λc=>some (c.1,0,())
abbrev bKE:Ent:=⟨16,_,_,W9⟩
def bJL:Ent.OK tP bKE:=oU (aS (oV xF (oV bKV oW))) func16 6 (lp:=aKY) rfl
def aTI:zo [.list TyE,.list TyE] [zd]:=λ(a,b,())=>aB (kH (a,())) λd=>bif !(eqI d.1 0) then some (d.1,())else aB (kH (b,())) λc=>bif !(eqI c.1 0) then some (c.1,())else bif !(eqI (a.length:Int) (b.length:Int)) then some (5,())else some (0,())
abbrev bCR:Ent:=⟨73,_,_,aTI⟩
def bGU:Ent.OK tP bCR:=oI (aS (oV xF oW)) func73
def aAZ:zo [.list TyE] [.list TyE,zd]:=λ(a,())=>aB (kH (a,())) λb=>bif !(eqI b.1 0) then some ([],b.1,())else some (a,0,())
abbrev a4C:Ent:=⟨72,_,_,aAZ⟩
def aS3:Ent.OK tP a4C:=oI (aS (oV xF oW)) func72
abbrev EI:zb:=[(0,.val),(2,.ptr TyD),(6,.list TyE),(7,zd),(8,zd)]
abbrev LL:zc:=[(.exit 0,[])]
def EL(x:Shape.den EI):Option (List (Value×aM [zd,zd])×(Shape.den EI⊕AQ LL)):=match x with|(d,b,c,e,a,())=>bif ltI a e then za (aE a c.length)<|za (aE a b.length)<|outs [(d,((c.getD a.toNat 0),(b.getD a.toNat 0),()))] (some ([],.inl (d,b,c,e,(aA .i64 (a+1)),())))else some ([],.inr ((())))
def M5(x:Shape.den EI):Option (List (Value×aM [.int .i64,.int .i64])×AQ LL):=YL EL (2^64) x
def aLZ(b:Value)(x:TZ [TyD,TyD]):Option (List (Value×aM [zd,zd])):=match x with|(a,c,())=>bI3 (a3D (M5 (b,c,a,(a.length:Int),0,())) λd=>some ([],()))
def aAJ:Code:=bY f118
abbrev aLN:Env:=RP [] []
def aMM:dN tP aLN:=jH trivial trivial
def N7:Code:=inLoop (QF aAJ 0)
def aGJ(id:Nat):Option cI:=none
def aHT(id:Nat):Option (aLI (Value×aM [zd,zd])):=bif Nat.beq id 1 then some ⟨EI,LL,M5⟩ else none
def aUK:bM N7=1:=Y
theorem a07:dV N7=[]:=Y
theorem aT9:∀ x,bHJ tP aLN 22 (aP f118) aGJ [.int .i64,.int .i64] aHT N7 EI LL x=EL x:=λ_=>Y
theorem aXB:bC5 tP 22 [.int .i64,.int .i64] N7 ⟨EI,LL,M5⟩:=a9X aMM.callee aQ.mixed _ (aML a07 trivial) aT9
def aYL:dV aAJ=[.loop N7]:=Y
def a1V:∀ v0 x,bQB tP aLN f118 (aP f118) aGJ [.int .i64,.int .i64] aHT aAJ [TyD,TyD] v0 x=aLZ v0 x:=by
 rintro v0 ⟨v1,v2,⟨⟩⟩;kernel_rfl
def a13 {f:TZ [TyD,TyD]->Option (List (aM [zd,zd]))}(h:∀ yv x all,f x=some all->aLZ yv x=some (all.map λe=>(yv,e))):aOQ tP 118 [TyD,TyD] [.int .i64,.int .i64] f:=bGG aQ aMM func118 (c:=aAJ) Y Y (keep:=aP f118) (lt:=aGJ) (li:=aHT) (aML aYL ⟨a9V aUK rfl rfl aXB,trivial⟩) (λyv x all a=>(a1V yv x).trans (h yv x all a))
abbrev AH:zb:=[(0,.list TyE),(15,.list TyD),(16,zd),(17,zd),(26,.list TyE),(27,zd),(28,zd)]
abbrev EM:zc:=[(.ret,[(4,zd)]),(.exit 2,[(0,.list TyE),(15,.list TyD),(16,zd),(17,zd)])]
def fU:zp AH EM:=λ(g,d,c,e,b,f,a,())=>bif ltI a f then za (aE a b.length)<|bif ltI 1000 (b.getD a.toNat 0) then some (.inr (.inl (4,())))else bif ltI (b.getD a.toNat 0) (-1000) then some (.inr (.inl (4,())))else some (.inl (g,d,c,e,b,f,(aA .i64 (a+1)),()))else some (.inr (.inr ((g,d,c,e,()))))
def lH:zq AH EM:=aV fU (2^64)
abbrev AG:zb:=[(0,.list TyE),(15,.list TyD),(16,zd),(17,zd)]
abbrev FP:zc:=[(.ret,[(4,zd)]),(.exit 0,[])]
def fQ:zp AG FP:=λ(e,b,c,a,())=>bif ltI a c then za (aE a b.length)<|bif !(eqI ((b.getD a.toNat []).length:Int) (e.length:Int)) then some (.inr (.inl (5,())))else aB (lH (e,b,c,a,(b.getD a.toNat []),((b.getD a.toNat []).length:Int),0,())) λf=>mN f (λg=>some (.inr (.inl (g.1,())))) λd=>some (.inl (d.1,d.2.1,d.2.2.1,(aA .i64 (d.2.2.2.1+1)),()))else some (.inr (.inr ((()))))
def lR:zq AG FP:=aV fQ (2^64)
def rK:zo [.list TyE,.list TyD] [zd]:=λ(a,c,())=>aB (BD (a,())) λb=>bif !(eqI b.1 0) then some (b.1,())else aB (lR (a,c,(c.length:Int),0,())) λe=>mN e (λf=>some (f.1,())) λd=>some (0,())
def aP4:Code:=bY f69
abbrev aC9:Env:=B1 [a0K]
def UP:dN tP aC9:=aS ⟨aDX,trivial⟩
def IQ:Code:=dC aP4 0
def WW:Code:=dC IQ 0
def ZK(id:Nat):Option cI:=bif Nat.beq id 10 then some ⟨AH,EM,lH⟩ else bif Nat.beq id 5 then some ⟨AG,FP,lR⟩ else none
def aQX:∀ x,dL tP aC9 40 (aP f69) ZK WW AH EM x=fU x:=λ_=>Y
def aSB:cJ tP 40 WW ⟨AH,EM,lH⟩:=cC UP.callee aQ.mixed _ (aO (l:=[]) Y trivial) aQX
def aQU:∀ x,dL tP aC9 40 (aP f69) ZK IQ AG FP x=fQ x:=λ_=>Y
def aWG:bA IQ=[WW]:=Y
def aS0:cJ tP 40 IQ ⟨AG,FP,lR⟩:=cC UP.callee aQ.mixed _ (aO aWG ⟨cB (i:=10) Y rfl aSB,trivial⟩) aQU
def aMR:WA tP 69 _ _ rK:=W4 aQ UP func69 (c:=aP4) Y (keep:=aP f69) (lt:=ZK) (aO (l:=[IQ]) Y ⟨cB (i:=5) Y rfl aS0,trivial⟩) (λ_=>by kernel_rfl)
abbrev aP2:Ent:=⟨69,_,_,rK⟩
def UU:Ent.OK tP aP2:=aMR
abbrev PC:zb:=[(1,.box 27 TyK),(3,zd)]
abbrev YN:zc:=[(.ret,[(2,.bool)]),(.exit 0,[(1,.box 27 TyK)])]
def vO:zp PC YN:=λ(a,b,())=>bif ltI b (a.2.2.1.length:Int) then za (aE b a.2.2.1.length)<|bif ltI 4 ((a.2.2.1.getD b.toNat []).length:Int) then some (.inr (.inl (false,())))else some (.inl (a,(aA .i64 (b+1)),()))else some (.inr (.inr ((a,()))))
def CI:zq PC YN:=aV vO (2^64)
def dU:zo [.agg TyK] [.bool]:=λ(b,())=>aB (CI (b,0,())) λe=>mN e (λc=>some (c.1,())) λa=>aB (FM (a.1.1,())) λd=>bif d.1 then bif !(ltI 9 (a.1.2.1.length:Int)) then some (!(ltI 4 (a.1.2.2.1.length:Int)),())else some (false,())else some (false,())
abbrev MP:Ent:=⟨13,_,_,dU⟩
def zR:Ent.OK tP MP:=oU (aS (oV YR oW)) func13 2 (lp:=CI) rfl
abbrev O9:zb:=[(1,.box 36 TyG),(3,zd)]
abbrev YU:zc:=[(.ret,[(2,.bool)]),(.exit 0,[])]
def kX:zp O9 YU:=λ(b,a,())=>bif ltI a (b.2.2.length:Int) then za (aE a b.2.2.length)<|za (aE 0 (b.2.2.getD a.toNat []).length)<|bif !(eqI ((b.2.2.getD a.toNat []).getD 0 0) 0) then some (.inr (.inl (false,())))else some (.inl (b,(aA .i64 (a+1)),()))else some (.inr (.inr ((()))))
def B2:zq O9 YU:=aV kX (2^64)
def AA:zo [.agg TyG] [.bool]:=λ(a,())=>aB (B2 (a,0,())) λb=>mN b (λc=>some (c.1,())) λd=>some (true,())
abbrev U7:Ent:=⟨30,_,_,AA⟩
def YX:Ent.OK tP U7:=oU (aS oW) func30 2 (lp:=B2) rfl
def lV:zo [.agg TyG,.list TyE] [.list TyE]:=λ(a,b,())=>aB (gW (a,b,())) λc=>some (c.1,())
abbrev P9:Ent:=⟨32,_,_,lV⟩
def LS:Ent.OK tP P9:=oI (aS (oV DU oW)) func32
abbrev MM:zb:=[(1,.list TyE),(2,.box 38 TyM),(5,zd)]
abbrev W3:zc:=[(.ret,[(4,zd)]),(.exit 0,[])]
def tW:zp MM W3:=λ(c,b,a,())=>bif ltI a (b.2.length:Int) then za (aE a b.2.length)<|aB (kJ ((b.2.getD a.toNat []),c,())) λd=>bif d.1 then some (.inr (.inl (a,())))else some (.inl (c,b,(aA .i64 (a+1)),()))else some (.inr (.inr ((()))))
def A0:zq MM W3:=aV tW (2^64)
def yN:zo [.agg TyM,.list TyE] [zd]:=λ(a,d,())=>aB (A0 (d,a,0,())) λb=>mN b (λc=>some (c.1,())) λe=>some ((-1),())
abbrev KU:zb:=[(0,.list TyD),(1,.list TyE),(5,zd)]
abbrev V0:zc:=[(.exit 0,[(0,.list TyD),(1,.list TyE),(5,zd)])]
def sS:zp KU V0:=λ(a,c,b,())=>bif ltI b (a.length:Int) then za (aE b a.length)<|aB (XM ((a.getD b.toNat []),c,())) λd=>bif ltI d.1 0 then some (.inl (a,c,(aA .i64 (b+1)),()))else some (.inr ((a,c,b,())))else some (.inr ((a,c,b,())))
def GV:zq KU V0:=aV sS (2^64)
def fR:zo [.list TyD,.list TyE] [.list TyD]:=λ(b,c,())=>aB (GV (b,c,0,())) λa=>bif ltI a.2.2.1 (a.1.length:Int) then za (aE a.2.2.1 a.1.length)<|aB (kJ ((a.1.getD a.2.2.1.toNat []),a.2.1,())) λd=>bif d.1 then some (a.1,())else za (!(ltI a.2.2.1 0))<|za (!(ltI a.2.2.1 0))<|za (Nat.ble 0 a.2.2.1.toNat)<|za (Nat.ble a.2.2.1.toNat a.2.2.1.toNat)<|za (Nat.ble a.2.2.1.toNat a.1.length)<|za (!(ltI a.2.2.1 0))<|za (Nat.ble a.2.2.1.toNat a.1.length)<|za (Nat.ble a.1.length a.1.length)<|za (Nat.ble ((a.1.drop a.2.2.1.toNat).take (a.1.length-a.2.2.1.toNat)).length 1048576)<|za (Nat.ble [a.2.1].length 1048576)<|za (Nat.ble ([a.2.1]++((a.1.drop a.2.2.1.toNat).take (a.1.length-a.2.2.1.toNat))).length 1048576)<|za (Nat.ble ((a.1.drop 0).take (a.2.2.1.toNat-0)).length 1048576)<|za ((Nat.beq (a.2.2.1.toNat-0) 0||Nat.blt (a.2.2.1.toNat-0) (((a.1.drop 0).take (a.2.2.1.toNat-0)).length+([a.2.1]++((a.1.drop a.2.2.1.toNat).take (a.1.length-a.2.2.1.toNat))).length)))<|some ((((a.1.drop 0).take (a.2.2.1.toNat-0))++([a.2.1]++((a.1.drop a.2.2.1.toNat).take (a.1.length-a.2.2.1.toNat)))),())else za (!(ltI a.2.2.1 0))<|za (!(ltI a.2.2.1 0))<|za (Nat.ble 0 a.2.2.1.toNat)<|za (Nat.ble a.2.2.1.toNat a.2.2.1.toNat)<|za (Nat.ble a.2.2.1.toNat a.1.length)<|za (!(ltI a.2.2.1 0))<|za (Nat.ble a.2.2.1.toNat a.1.length)<|za (Nat.ble a.1.length a.1.length)<|za (Nat.ble ((a.1.drop a.2.2.1.toNat).take (a.1.length-a.2.2.1.toNat)).length 1048576)<|za (Nat.ble [a.2.1].length 1048576)<|za (Nat.ble ([a.2.1]++((a.1.drop a.2.2.1.toNat).take (a.1.length-a.2.2.1.toNat))).length 1048576)<|za (Nat.ble ((a.1.drop 0).take (a.2.2.1.toNat-0)).length 1048576)<|za ((Nat.beq (a.2.2.1.toNat-0) 0||Nat.blt (a.2.2.1.toNat-0) (((a.1.drop 0).take (a.2.2.1.toNat-0)).length+([a.2.1]++((a.1.drop a.2.2.1.toNat).take (a.1.length-a.2.2.1.toNat))).length)))<|some ((((a.1.drop 0).take (a.2.2.1.toNat-0))++([a.2.1]++((a.1.drop a.2.2.1.toNat).take (a.1.length-a.2.2.1.toNat)))),())
abbrev RF:Ent:=⟨31,_,_,fR⟩
def K7:Ent.OK tP RF:=oU (aS (oV aP9 (oV D9 oW))) func31 2 (lp:=GV) rfl
section
variable {ps:List Int} {n d r:Nat} {C K:Nat->V}
def bXL(h:RT ps n d r C K)(x:List Int)(g:x.length=n)(e:∀ a∈x,a.natAbs<=1000000000):M7 ((ps,(Mr d n C,Mr r n K)),[x],())=some (0,()):=by
 have n4:=h.n4;have b:eqI 0 0=true:=O
 have c1:=A9 x Z e;have j:eqI ((x.length:Nat):Int) ((ps.length:Nat):Int)=true:=by rw[bN]; exact oT (by rw[g,h.len])
 have key:=aK (step:=KV) (N:=2^64) (λt=>((ps,(Mr d n C,Mr r n K)),[x],1,(t:Int),())) 1 (.inr ()) Z (λt ht=>?_) ?_;have key:KR ((ps,(Mr d n C,Mr r n K)),[x],([x].length:Int),0,())=_:=key;simp only[M7,h.check,b,key,zz];obtain rfl:t=0:=Z;have f:ltI ((0:Nat):Int) 1=true:=O;have c:=bP 0 Z;simp only[KV,f,oC,c];show (bif aE ((0:Nat):Int) 1 then aB (kH (x,())) _ else none)=_;have i:aE ((0:Nat):Int) 1=true:=O;simp only[i,c1,b,zz];grind;rfl
def tmp(n r:Nat) (K:Nat->V) (x:List Int):List Int:=Vr r λi=>dot n (eK x) (K i)
def aM9(h:RT ps n d r C K) x (g:x.length=n)(f:∀ a∈x,a.natAbs<=1000000000)(hd:∀ i,i<r->(dot n (eK x) (K i)).natAbs<=1000000000) :
  gW ((ps,(Mr d n C,Mr r n K)),x,())=some (tmp n r K x,0,()):=by
 have n4:=h.n4;have⟨p,hk⟩:=h.hk;have y:=(Hn.wR hk h.wk).1;have w:eqI 0 0=true:=O
 have t1:=bR6 Z Z ps (Mr d n C) x g f h.wk h.bk;generalize hz:(List.range r).map (λi=>Zn (dot n (eK x) (K i)))=zs at t1;have b:zs.length=r:=by rw[<- hz]; simp
 have key:=aK (step:=AZ) (N:=2^64) (λt=>((List.range t).map (λi=>dot n (eK x) (K i)),zs,(r:Int),(t:Int),())) r (.inr (tmp n r K x,())) Z (λt ht=>?_) ?_
 ·have key:JH ([],zs,(zs.length:Int),0,())=some (.inr (tmp n r K x,())):=by rw[b]; exact key
  simp only[gW,bXL h x g f,w,t1,key,zz]
 ·have e:ltI (t:Int) (r:Int)=true:=ze
  have j:aE (t:Int) zs.length=true:=zi
  have s:zs.getD ((t:Int)).toNat ByteArray.empty=Zn (dot n (eK x) (K t)):=by rw[<- hz]; simp[List.getD,ht]
  have z:=hd t ht;have o:=aRB (dot n (eK x) (K t)) (by have:=xL (u:=(dot n (eK x) (K t)).natAbs) (k:=17) Z; omega);have q:ltI 1000000000 (dot n (eK x) (K t))=false:=zf
  have v:ltI (dot n (eK x) (K t)) (-1000000000)=false:=zf
  have l:Nat.ble [dot n (eK x) (K t)].length 1048576=true:=rfl;have m:Nat.ble ((List.range t).map (λi=>dot n (eK x) (K i))).length 1048576=true:=Nat.ble_eq_true_of_le (by simp; omega);have c:=bP t Z;simp only[AZ,e,j,s,o,q,v,l,m,c,zz];rw[List.range_succ,List.map_append]; rfl
 ·have e:ltI (r:Int) (r:Int)=false:=zf
  simp only[AZ,e,oD]; rfl
end
def H9:zo [zd] [zd]:=λ(a,())=>bif ltI a 0 then some ((IntKind.wrap .i64 (0-a)),())else some (a,())
abbrev aJN:Ent:=⟨111,_,_,H9⟩
def aSU:Ent.OK tP aJN:=oI (aS oW) func111
abbrev pB:zb:=[(0,.list TyD),(1,zd),(5,.own 29 TyD),(6,zd)]
abbrev uH:zc:=[(.exit 0,[(5,.own 29 TyD)])]
def RS:zp pB uH:=λ(b,a,d,c,())=>bif ltI c (b.length:Int) then za (!(ltI a 0))<|za (!(ltI a a))<|za (!(ltI 1048576 a))<|za (aE c b.length)<|za (Nat.blt 0 ((List.replicate a.toNat (0:Ty.den TyE)).length))<|za (Nat.ble (0+(List.replicate a.toNat (0:Ty.den TyE)).length) (List.replicate a.toNat (0:Ty.den TyE)).length)<|za (Nat.ble (b.getD c.toNat []).length ((List.replicate a.toNat (0:Ty.den TyE)).length))<|za (Nat.ble [(spl (List.replicate a.toNat (0:Ty.den TyE)) 0 (b.getD c.toNat []))].length 1048576)<|za (Nat.ble d.length 1048576)<|some (.inl (b,a,(d++[(spl (List.replicate a.toNat (0:Ty.den TyE)) 0 (b.getD c.toNat []))]),(aA .i64 (c+1)),()))else some (.inr ((d,())))
def EO:zq pB uH:=aV RS (2^64)
def F9(x:aM [.list TyD,zd]):Option (List (List Int)):=match x with|(a,b,())=>aB (EO (a,b,[],0,())) λc=>some c.1
def GD:Code:=bY f110
abbrev OS:Env:=B1 []
def T5:dN tP OS:=aS trivial
def L2:Code:=dC GD 0
def NB(id:Nat):Option cI:=bif Nat.beq id 3 then some ⟨pB,uH,EO⟩ else none
def aFN:∀ x,dL tP OS 27 (aP f110) NB L2 pB uH x=RS x:=λ_=>Y
def aH1:cJ tP 27 L2 ⟨pB,uH,EO⟩:=cC T5.callee aQ.mixed _ (aO (l:=[]) Y trivial) aFN
def aIQ:bA GD=[L2]:=Y
def aLD:∀ x,bDW tP OS f110 (aP f110) NB GD [.list TyD,.int .i64] 4 29 TyD x=F9 x:=λ_=>Y
def aOP:aYH tP 110 [.list TyD,.int .i64] 29 TyD F9:=a6M aQ T5 func110 (c:=GD) Y (keep:=aP f110) (lt:=NB) (t:=4) Y (aO aIQ ⟨cB (i:=3) Y rfl aH1,trivial⟩) aLD
abbrev YW:Shr:=(110,bMW [.list TyD,.int .i64] 29 TyD F9)
def aKQ:sT tP YW:=aY4 aOP
abbrev r8:zb:=[(0,.list TyD),(1,zd),(2,zd),(6,zd)]
abbrev yD:zc:=[(.exit 0,[(0,.list TyD),(1,zd),(2,zd)])]
def T6:zp r8 yD:=λ(a,b,d,c,())=>za (aE b a.length)<|bif ltI c ((a.getD b.toNat []).length:Int) then za (aE b a.length)<|za (aE b a.length)<|za (aE c (a.getD b.toNat []).length)<|za (aE c (a.getD b.toNat []).length)<|none else some (.inr ((a,b,d,())))
def JE:zq r8 yD:=aV T6 (2^64)
abbrev rU:zb:=[(0,.list TyD),(1,zd),(2,zd),(7,zd)]
abbrev xU:zc:=[(.exit 2,[])]
def TS:zp rU xU:=λ(a,c,d,b,())=>bif ltI b c then za (aE b a.length)<|za (aE c a.length)<|za (aE b a.length)<|za (aE d (a.getD b.toNat []).length)<|za (aE c a.length)<|za (aE d (a.getD c.toNat []).length)<|none else some (.inr ((())))
def BC:zq rU xU:=aV TS (2^64)
def TK:zo [.list TyD,zd,zd] []:=λ(a,b,c,())=>za (aE b a.length)<|za (aE c (a.getD b.toNat []).length)<|bif ltI ((a.getD b.toNat []).getD c.toNat 0) 0 then aB (JE (a,b,c,0,())) λd=>aB (BC (d.1,d.2.1,d.2.2.1,0,())) λf=>some (())else aB (BC (a,b,c,0,())) λe=>some (())
def DB:Code:=bY f112
abbrev KE:Env:=B1 []
def NK:dN tP KE:=aS trivial
def O2:Code:=inLoop (QF DB 0)
def OZ:Code:=inLoop (QF DB 1)
def IA(id:Nat):Option cI:=bif Nat.beq id 2 then some ⟨r8,yD,JE⟩ else bif Nat.beq id 6 then some ⟨rU,xU,BC⟩ else none
def HY(id:Nat):Option cI:=none
def aIN:∀ x,TD tP KE 68 (xD f112) IA HY false [] O2 r8 yD x=T6 x:=λ_=>Y
def aLP:H7 tP 68 false [] (.loop O2) ⟨r8,yD,JE⟩:=FI NK.callee aQ.mixed _ (nK (l:=[]) Y trivial) aIN
def aIY:∀ x,TD tP KE 68 (xD f112) IA HY false [] OZ rU xU x=TS x:=λ_=>Y
def aLH:H7 tP 68 false [] (.loop OZ) ⟨rU,xU,BC⟩:=FI NK.callee aQ.mixed _ (nK (l:=[]) Y trivial) aIY
def aM1:dV DB=[.loop O2,.loop OZ]:=Y
def aPH:∀ x,a0L tP KE f112 (xD f112) IA HY DB [.list TyD,.int .i64,.int .i64] [] x=TK x:=λ_=>Y
abbrev aD0:Ent:=⟨112,_,_,TK⟩
def aN6:Ent.OK tP aD0:=aJK aQ NK func112 (c:=DB) Y (keep:=xD f112) (lt:=IA) (rt:=HY) (nK aM1 ⟨E7 (i:=2) Y rfl aLP,E7 (i:=6) Y rfl aLH,trivial⟩) aPH
abbrev pE:zb:=[(1,zd),(5,.own 29 TyD),(6,zd),(7,zd),(8,zd),(9,.bool),(10,zd)]
abbrev tX:zc:=[(.exit 4,[(1,zd),(5,.own 29 TyD),(6,zd),(7,zd),(8,zd),(9,.bool)])]
def P1:zp pE tX:=λ(e,b,f,c,d,g,a,())=>bif ltI a (b.length:Int) then za (aE a b.length)<|za (Nat.blt a.toNat b.length)<|za (aE c (b.getD a.toNat []).length)<|bif eqI ((b.getD a.toNat []).getD c.toNat 0) 0 then some (.inl (e,b,f,c,d,g,(aA .i64 (a+1)),()))else bif g then bif ltI d 0 then some (.inl (e,b,f,c,a,true,(aA .i64 (a+1)),()))else za (aE a b.length)<|za (Nat.blt a.toNat b.length)<|za (aE c (b.getD a.toNat []).length)<|aB (H9 (((b.getD a.toNat []).getD c.toNat 0),())) λh=>za (aE d b.length)<|za (Nat.blt d.toNat b.length)<|za (aE c (b.getD d.toNat []).length)<|aB (H9 (((b.getD d.toNat []).getD c.toNat 0),())) λk=>bif ltI h.1 k.1 then some (.inl (e,b,f,c,a,true,(aA .i64 (a+1)),()))else some (.inl (e,b,f,c,d,true,(aA .i64 (a+1)),()))else bif ltI d 0 then some (.inl (e,b,f,c,a,!(ltI d 0),(aA .i64 (a+1)),()))else za (aE a b.length)<|za (Nat.blt a.toNat b.length)<|za (aE c (b.getD a.toNat []).length)<|aB (H9 (((b.getD a.toNat []).getD c.toNat 0),())) λi=>za (aE d b.length)<|za (Nat.blt d.toNat b.length)<|za (aE c (b.getD d.toNat []).length)<|aB (H9 (((b.getD d.toNat []).getD c.toNat 0),())) λj=>bif ltI i.1 j.1 then some (.inl (e,b,f,c,a,!(ltI d 0),(aA .i64 (a+1)),()))else some (.inl (e,b,f,c,d,!(ltI d 0),(aA .i64 (a+1)),()))else some (.inr ((e,b,f,c,d,g,())))
def FR:zq pE tX:=aV P1 (2^64)
abbrev pF:zb:=[(1,zd),(5,.own 29 TyD),(6,zd),(7,zd),(11,zd)]
abbrev uD:zc:=[(.exit 6,[(1,zd),(5,.own 29 TyD),(6,zd),(7,zd)])]
def QR:zp pF uD:=λ(e,a,c,d,b,())=>bif ltI b (a.length:Int) then za (aE b a.length)<|za (Nat.blt b.toNat a.length)<|za (aE c a.length)<|za (Nat.blt c.toNat a.length)<|za (aE b a.length)<|za (Nat.blt b.toNat a.length)<|za (aE d (a.getD b.toNat []).length)<|za (aE c a.length)<|za (Nat.blt c.toNat a.length)<|za (aE d (a.getD c.toNat []).length)<|za (eqI ((a.getD c.toNat []).getD d.toNat 0) 0)<|none else some (.inr ((e,a,c,d,())))
def EP:zq pF uD:=aV QR (2^64)
abbrev pG:zb:=[(1,zd),(5,.own 29 TyD),(6,zd),(7,zd)]
abbrev tY:zc:=[(.exit 2,[(1,zd),(5,.own 29 TyD),(6,zd),(7,zd)])]
def RO:zp pG tY:=λ(g,e,c,f,())=>aB (FR (g,e,c,f,(-1),false,c,())) λa=>bif ltI a.2.2.2.2.1 0 then some (.inr ((a.1,a.2.1,a.2.2.1,a.2.2.2.1,())))else za (aE a.2.2.2.2.1 a.2.1.length)<|za (Nat.blt a.2.2.2.2.1.toNat a.2.1.length)<|za (aE a.2.2.1 a.2.1.length)<|za (Nat.blt a.2.2.1.toNat a.2.1.length)<|za (aE a.2.2.1 a.2.1.length)<|za (Nat.blt a.2.2.1.toNat a.2.1.length)<|za (aE a.2.2.2.2.1 (a.2.1.set a.2.2.1.toNat (a.2.1.getD a.2.2.2.2.1.toNat [])).length)<|za (Nat.blt a.2.2.2.2.1.toNat (a.2.1.set a.2.2.1.toNat (a.2.1.getD a.2.2.2.2.1.toNat [])).length)<|bif a.2.2.2.2.2.1 then aB (EP (a.1,((a.2.1.set a.2.2.1.toNat (a.2.1.getD a.2.2.2.2.1.toNat [])).set a.2.2.2.2.1.toNat (a.2.1.getD a.2.2.1.toNat [])),a.2.2.1,a.2.2.2.1,(aA .i64 (a.2.2.1+1)),())) λb=>some (.inl (b.1,b.2.1,b.2.2.1,b.2.2.2.1,()))else aB (TK (((a.2.1.set a.2.2.1.toNat (a.2.1.getD a.2.2.2.2.1.toNat [])).set a.2.2.2.2.1.toNat (a.2.1.getD a.2.2.1.toNat [])),a.2.2.1,a.2.2.2.1,())) λd=>some (.inr ((a.1,((a.2.1.set a.2.2.1.toNat (a.2.1.getD a.2.2.2.2.1.toNat [])).set a.2.2.2.2.1.toNat (a.2.1.getD a.2.2.1.toNat [])),(aA .i64 (a.2.2.1+1)),a.2.2.2.1,())))
def FX:zq pG tY:=aV RO (2^64)
abbrev n8:zb:=[(1,zd),(5,.own 29 TyD),(6,zd),(7,zd)]
abbrev uN:zc:=[(.exit 0,[(5,.own 29 TyD),(6,zd)])]
def Q0:zp n8 uN:=λ(e,b,c,d,())=>bif ltI d e then bif ltI c (b.length:Int) then aB (FX (e,b,c,d,())) λa=>some (.inl (a.1,a.2.1,a.2.2.1,(aA .i64 (a.2.2.2.1+1)),()))else some (.inr ((b,c,())))else some (.inr ((b,c,())))
def FB:zq n8 uN:=aV Q0 (2^64)
def pJ:zo [.list TyD,zd] [.list TyD]:=λ(c,b,())=>aB (F9 (c,b,())) λd=>aB (FB (b,d,0,0,())) λa=>za (!(ltI a.2.1 0))<|za (Nat.ble 0 a.2.1.toNat)<|za (Nat.ble a.2.1.toNat a.1.length)<|za (Nat.blt 0 a.1.length)<|some (((a.1.drop 0).take (a.2.1.toNat-0)),())
def F7:Code:=bY f66
abbrev tJ:Env:=RP [aJN,aD0] [YW]
def uG:dN tP tJ:=jH ⟨aSU,aN6,trivial⟩ ⟨aKQ,trivial⟩
def wH:Code:=inLoop (QF F7 0)
def qE:Code:=inLoop (QF wH 0)
def LR:Code:=inLoop (QF qE 0)
def L6:Code:=inLoop (QF qE 1)
def rY(id:Nat):Option cI:=bif Nat.beq id 9 then some ⟨pE,tX,FR⟩ else bif Nat.beq id 21 then some ⟨pF,uD,EP⟩ else bif Nat.beq id 6 then some ⟨pG,tY,FX⟩ else bif Nat.beq id 4 then some ⟨n8,uN,FB⟩ else none
def r6(id:Nat):Option cI:=none
def aE6:∀ x,TD tP tJ 127 (xD f66) rY r6 false [] LR pE tX x=P1 x:=λ_=>Y
def aGQ:H7 tP 127 false [] (.loop LR) ⟨pE,tX,FR⟩:=FI uG.callee aQ.mixed _ (nK (l:=[]) Y trivial) aE6
def aFC:∀ x,TD tP tJ 127 (xD f66) rY r6 false [] L6 pF uD x=QR x:=λ_=>Y
def aG9:H7 tP 127 false [] (.loop L6) ⟨pF,uD,EP⟩:=FI uG.callee aQ.mixed _ (nK (l:=[]) Y trivial) aFC
def aLC:dV qE=[.loop LR,.loop L6]:=Y
def aFF:∀ x,TD tP tJ 127 (xD f66) rY r6 false [] qE pG tY x=RO x:=λ_=>Y
def aH5:H7 tP 127 false [] (.loop qE) ⟨pG,tY,FX⟩:=FI uG.callee aQ.mixed _ (nK aLC ⟨E7 (i:=9) Y rfl aGQ,E7 (i:=21) Y rfl aG9,trivial⟩) aFF
def aK6:dV wH=[.loop qE]:=Y
def aE3:∀ x,TD tP tJ 127 (xD f66) rY r6 false [] wH n8 uN x=Q0 x:=λ_=>Y
def aHJ:H7 tP 127 false [] (.loop wH) ⟨n8,uN,FB⟩:=FI uG.callee aQ.mixed _ (nK aK6 ⟨E7 (i:=6) Y rfl aH5,trivial⟩) aE3
def aI6:dV F7=[.loop wH]:=Y
def aLQ:∀ x,a0L tP tJ f66 (xD f66) rY r6 F7 [.list TyD,.int .i64] [.list TyD] x=pJ x:=λ_=>Y
abbrev aQH:Ent:=⟨66,_,_,pJ⟩
def aLA:Ent.OK tP aQH:=aJK aQ uG func66 (c:=F7) Y (keep:=xD f66) (lt:=rY) (rt:=r6) (nK aI6 ⟨E7 (i:=4) Y rfl aHJ,trivial⟩) aLQ
abbrev O1:zb:=[(0,.list TyE),(3,zd)]
abbrev YO:zc:=[(.ret,[(2,zd)]),(.exit 0,[(0,.list TyE)])]
def aND:zp O1 YO:=λ(a,b,())=>bif ltI b (a.length:Int) then za (aE b a.length)<|bif !(eqI (a.getD b.toNat 0) 0) then some (.inr (.inl (b,())))else some (.inl (a,(aA .i64 (b+1)),()))else some (.inr (.inr ((a,()))))
def VN:zq O1 YO:=aV aND (2^64)
def aFZ:zo [.list TyE] [zd]:=λ(a,())=>aB (VN (a,0,())) λc=>mN c (λd=>some (d.1,())) λb=>some ((b.1.length:Int),())
abbrev aGB:Ent:=⟨107,_,_,aFZ⟩
def aQQ:Ent.OK tP aGB:=oU (aS oW) func107 2 (lp:=VN) rfl
def yK:zo [zd,zd] [zd]:=λ(b,a,())=>bif eqI a 0 then none else bif eqI a 0 then none else bif ltI (b.tmod a) 0 then some ((aA .i64 ((aA .i64 (b.tdiv a))-1)),())else some ((aA .i64 (b.tdiv a)),())
abbrev aDY:Ent:=⟨109,_,_,yK⟩
def aPP:Ent.OK tP aDY:=oI (aS oW) func109
abbrev qH:zb:=[(0,.hnd 1),(1,.list TyE),(2,zd),(6,zd),(100000,.ar 3 TyE)]
abbrev vR:zc:=[(.exit 0,[(100000,.ar 3 TyE)])]
def SS:zp qH vR:=λ(a,c,d,b,u00,())=>bif ltI b ((a.2.2:Nat):Int) then za (aE b a.2.2)<|za (Nat.blt ((a.2.1+b.toNat)*1) (dG u00 a.1))<|za (aE b c.length)<|za (aE b a.2.2)<|za (Nat.blt ((a.2.1+b.toNat)*1) (dG u00 a.1))<|some (.inl ((a.1,a.2.1,a.2.2),c,d,(aA .i64 (b+1)),(DQ u00 a.1 ((a.2.1+b.toNat)*1) (aA .i64 ((dZ u00 a.1 ((a.2.1+b.toNat)*1) 0)-(aA .i64 (d*(c.getD b.toNat 0)))))),()))else some (.inr ((u00,())))
def HN:zq qH vR:=aV SS (2^64)
def qR(u0:Unit)(x:aM [.hnd 1,.list TyE,zd])(A:List (List Int)):Option ((aM [])×List (List Int)):=match x with|(a,b,c,())=>aB (HN ((a.1,a.2.1,a.2.2),b,c,0,A,())) λd=>some ((()),d.1)
def IY:Code:=bY f108
abbrev QP:Env:=B1 []
def VV:dN tP QP:=aS trivial
def MY:Code:=dC IY 0
def O7(id:Nat):Option cI:=bif Nat.beq id 1 then some ⟨qH,vR,HN⟩ else none
def aF4:∀ x,dL tP QP 25 (aP f108) O7 MY qH vR x=SS x:=λ_=>Y
def aIP:cJ tP 25 MY ⟨qH,vR,HN⟩:=cC VV.callee aQ.mixed _ (aO (l:=[]) Y trivial) aF4
def aK8:bA IY=[MY]:=Y
def aMH:∀ l x A,SQ tP QP f108 (aP f108) O7 IY 3 TyE .none [.hnd 1,.list TyE,.int .i64] (.data []) l x A=qR l x A:=by
 rintro u0 ⟨v0,v1,v2,⟨⟩⟩ A;kernel_rfl
def aQE:Z6 tP 108 3 TyE .none [.hnd 1,.list TyE,.int .i64] (.data []) qR:=I7 aQ VV func108 (c:=IY) Y (keep:=aP f108) (lt:=O7) (by rfl) (aO aK8 ⟨cB (i:=1) Y rfl aIP,trivial⟩) aMH
def aOO:bDJ tP 108 3 TyE [.list TyE,.int .i64] (aBW qR):=aTT aQE (by rfl) (by rfl)
abbrev Y4:Shr:=(108,aGA 1 (bND 3 TyE [.list TyE,.int .i64] (aBW qR)))
def aLF:sT tP Y4:=yZ (a5X aOO)
abbrev FE:zb:=[(0,.list TyD),(5,.own 3 TyE),(6,zd)]
abbrev QH:zc:=[(.exit 0,[(5,.own 3 TyE)])]
def CX:zp FE QH:=λ(a,c,b,())=>bif ltI b (a.length:Int) then za (aE b a.length)<|aB (aFZ ((a.getD b.toNat []),())) λd=>za (aE b a.length)<|za (aE d.1 c.length)<|za (Nat.blt d.1.toNat c.length)<|za (aE b a.length)<|za (aE d.1 (a.getD b.toNat []).length)<|aB (yK ((c.getD d.1.toNat 0),((a.getD b.toNat []).getD d.1.toNat 0),())) λe=>aB (aBW (t:=TyE) qR c ((a.getD b.toNat []),e.1,())) λf=>some (.inl (a,f,(aA .i64 (b+1)),()))else some (.inr ((c,())))
def CU:zq FE QH:=aV CX (2^64)
def vZ:zo [.list TyD,.list TyE] [.list TyE]:=λ(c,a,())=>za (Nat.ble a.length 1048576)<|aB (CU (c,a,0,())) λb=>some (b.1,())
abbrev aMS:Env:=RP [aDY,aGB] [Y4]
def aHH:dN tP aMS:=jH ⟨aPP,aQQ,trivial⟩ ⟨aLF,trivial⟩
abbrev aMA:Ent:=⟨65,_,_,vZ⟩
def aGE:Ent.OK tP aMA:=oU aHH func65 3 (lp:=CU) rfl
abbrev ML:zb:=[(1,.list TyE),(2,.box 36 TyG),(5,.own 3 TyE),(6,zd)]
abbrev XL:zc:=[(.exit 0,[(1,.list TyE),(5,.own 3 TyE)])]
def AW:zp ML XL:=λ(d,a,c,b,())=>bif ltI b (a.2.2.length:Int) then za (aE b a.2.2.length)<|za (aE 0 (a.2.2.getD b.toNat []).length)<|za (Nat.ble [((a.2.2.getD b.toNat []).getD 0 0)].length 1048576)<|za (Nat.ble c.length 1048576)<|some (.inl (d,a,(c++[((a.2.2.getD b.toNat []).getD 0 0)]),(aA .i64 (b+1)),()))else some (.inr ((d,c,())))
def JZ:zq ML XL:=aV AW (2^64)
def eH:zo [.agg TyG,.list TyE] [.list TyE]:=λ(b,e,())=>aB (JZ (e,b,[],0,())) λa=>aB (pJ ([a.2.1],(a.2.1.length:Int),())) λc=>aB (vZ (c.1,a.1,())) λd=>some (d.1,())
abbrev S1:Ent:=⟨18,_,_,eH⟩
def M3:Ent.OK tP S1:=oU (aS (oV aLA (oV aGE oW))) func18 3 (lp:=JZ) rfl
end Go.PM
