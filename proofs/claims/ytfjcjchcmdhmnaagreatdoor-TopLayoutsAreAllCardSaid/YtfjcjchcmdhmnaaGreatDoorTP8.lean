/- Texts of one proof, joined (8). -/
import Derived.Lib.AtoiAllCases
import Derived.Test.YtfjcjchcmdhmnaaGreatDoorTP7
set_option linter.unusedSimpArgs false
set_option linter.unusedVariables false
set_option maxRecDepth 100000
noncomputable section
namespace Go.PM
open Go Go.RowKit Go.Proofs Go.Lz
abbrev lO:Nat:=18
def Zr(n:Nat) (v:V):List ByteArray:=(List.range n).map λi=>Zn (v i)
theorem iV(n:Nat)(v:V):(Zr n v).length=n:=by simp[Zr]
theorem AM {n i:Nat}(v:V)(h:i<n)(d:ByteArray):(Zr n v).getD i d=Zn (v i):=by simp[Zr,List.getD,h]
theorem wH {n:Nat}{u v:V}(h:∀ i,i<n->u i=v i):Zr n u=Zr n v:=by
 unfold Zr;refine List.map_congr_left λi hi=>?_
 rw[h i (List.mem_range.1 hi)]
theorem aFD {n:Nat}(u v:V)(t:Nat)(h:t<n):(Zr n λx=>if x<t then v x else u x).set t (Zn (v t))=Zr n λx=>if x<t+1 then v x else u x:=by
 refine List.ext_getElem? λi=>?_
 simp only[Zr,List.getElem?_set,List.length_map,List.length_range,List.getElem?_map]
 by_cases e:t=i
 ·subst e;simp[h]
 ·rw[if_neg e]
  by_cases hi:i<n
  ·simp only[List.getElem?_range hi,Option.map_some]
   congr 2
   by_cases h1:i<t
   ·rw[if_pos h1,if_pos (by omega)]
   ·rw[if_neg h1,if_neg (by omega)]
  ·have h1:(List.range n)[i]?=none:=by simp; omega
   rw[h1]; rfl
theorem J6 {α:Type}(A:List α)(j:Nat)(x d:α)(h:j<A.length):(A.set j x).getD j d=x:=by simp[List.getD,h]
theorem getD_set_ne {α:Type}(A:List α){j k:Nat}(x d:α)(h:j≠k):(A.set j x).getD k d=A.getD k d:=by simp[List.getD,List.getElem?_set_ne h]
theorem NL {α:Type}{A:List α}{j:Nat}{x:α}(d:α)(h:A[j]?=some x):A.getD j d=x:=by simp[List.getD,h]
structure S9 (n:Nat) (u v:V) (q:Int):Prop where
 mul:∀ i,i<n->Lib.nDigits q.natAbs+Lib.nDigits (v i).natAbs<=lO
 sub:∀ i,i<n->Lib.nDigits (u i).natAbs<=lO
theorem QZ(a b:Nat):Lib.nDigits (a*b)<=Lib.nDigits a+Lib.nDigits b:=by
 have h1:=jQ a;have h2:=jQ b;have p1:=nDigits_pos a;have p2:=nDigits_pos b;have h4:a*b<10^Lib.nDigits a*10^Lib.nDigits b:=Nat.mul_lt_mul'' h1 h2;rw[<- Nat.pow_add]at h4;obtain⟨k,hk⟩:∃ k,Lib.nDigits a+Lib.nDigits b=k+1:=⟨Lib.nDigits a+Lib.nDigits b-1,by omega⟩;rw[hk]at h4 ⊢;exact jH h4
theorem GV {α:Type}{pre l:List α}{o t:Nat}(h:pre.length=o)(d:α):(pre++l).getD (o+t) d=l.getD t d:=by
 subst h;simp[List.getD,List.getElem?_append_right (Nat.le_add_right _ _)]
theorem aIG {α:Type}{pre l:List α}{o t:Nat}(h:pre.length=o)(x:α):(pre++l).set (o+t) x=pre++l.set t x:=by
 subst h;rw[List.set_append_right _ _ (Nat.le_add_right _ _)]
 congr 2
 omega
theorem aK0 {A:List (List ByteArray)}{J K o n:Nat}{u v:V}{q:Int}{pre pre':List ByteArray}(hn:n<1048576)(hne:J≠K)(hp:pre.length=o)(hp':pre'.length=o)(hJ:A[J]?=some (pre++Zr n u))(hK:A[K]?=some (pre'++Zr n v))(ok:S9 n u v q) :
  iZ ((J,o,n),Zn q,(K,o,n),(n:Int),0,A,())=some (A.set J (pre++Zr n λx=>u x-q*v x),()):=by
 have hJl:J<A.length:=(oO.1 hJ).1;have key:=c7 (step:=fW) (N:=2^64)
  (λt=>((J,o,n),Zn q,(K,o,n),(n:Int),(t:Int),A.set J (pre++Zr n λx=>if x<t then u x-q*v x else u x),())) n (A.set J (pre++Zr n λx=>u x-q*v x),()) (by omega) (λt ht=>?_) ?_
 ·have h0:(A.set J (pre++Zr n λx=>if x<0 then u x-q*v x else u x))=A:=by
   have:Zr n (λx=>if x<0 then u x-q*v x else u x)=Zr n u:=wH λi _=>by simp
   rw[this];refine List.ext_getElem? λi=>?_
   by_cases e:J=i
   ·subst e; rw[List.getElem?_set_self hJl,hJ]
   ·rw[List.getElem?_set_ne e]
  simp only[h0]at key;exact key
 ·have hg:(A.set J (pre++Zr n λx=>if x<t then u x-q*v x else u x)).getD J []=pre++Zr n λx=>if x<t then u x-q*v x else u x:=J6 _ _ _ _ hJl
  have hk:(A.set J (pre++Zr n λx=>if x<t then u x-q*v x else u x)).getD K []=pre'++Zr n v:=by rw[getD_set_ne _ _ _ hne]; exact NL _ hK
  have e1:ltI (t:Int) (n:Int)=true:=by rw[aI]; simp; omega
  have e2:aN (t:Int) n=true:=by rw[aX]; simp; omega
  have e3:(o+((t:Nat):Int).toNat)*1=o+t:=by simp
  have e4:dF (A.set J (pre++Zr n λx=>if x<t then u x-q*v x else u x)) J=o+n:=by rw[dF,hg,oH,iV,hp]
  have e5:dF (A.set J (pre++Zr n λx=>if x<t then u x-q*v x else u x)) K=o+n:=by rw[dF,hk,oH,iV,hp']
  have e6:Nat.blt (o+t) (o+n)=true:=by rw[cE]; simpa using ht
  have e7:fG (A.set J (pre++Zr n λx=>if x<t then u x-q*v x else u x)) J (o+t) ByteArray.empty=Zn (u t):=by rw[fG,hg,GV hp,AM _ ht]; simp
  have e8:fG (A.set J (pre++Zr n λx=>if x<t then u x-q*v x else u x)) K (o+t) ByteArray.empty=Zn (v t):=by rw[fG,hk,GV hp',AM _ ht]
  have e9:vM (A.set J (pre++Zr n λx=>if x<t then u x-q*v x else u x)) J (o+t) (Zn (u t-q*v t))=A.set J (pre++Zr n λx=>if x<t+1 then u x-q*v x else u x):=by
   rw[vM,hg,List.set_set,aIG hp];exact oZ (λl=>A.set J (pre++l)) (aFD u (λx=>u x-q*v x) t ht)
  have m1:=XD q (v t) (ok.mul t ht);have m2:=W9 (u t) (q*v t) (ok.sub t ht) (by rw[Int.natAbs_mul]; exact oR (QZ _ _) (ok.mul t ht));have e10:=c8 t (by omega);simp only[fW,e1,oC,e2,e3,e5,e6,e4,e7,e8,m1,aC,m2,e9,e10]
 ·have e1:ltI (n:Int) (n:Int)=false:=by rw[aI]; simp
  simp only[fW,e1,oD];have:Zr n (λx=>if x<n then u x-q*v x else u x)=Zr n λx=>u x-q*v x:=wH λi hi=>by simp[hi]
  rw[this]
theorem aDK {α:Type}{A:List α}{J:Nat}{x:α}(h:A[J]?=some x):A.set J x=A:=by
 refine List.ext_getElem? λi=>?_
 by_cases e:J=i
 ·subst e; rw[List.getElem?_set_self (oO.1 h).1,h]
 ·rw[List.getElem?_set_ne e]
theorem aSA {A:List (List ByteArray)} {J K o n:Nat} {u v:V} {q:Int} {pre pre':List ByteArray} (hn:n<1048576) (hne:J≠K) (hp:pre.length=o) (hp':pre'.length=o) (hJ:A[J]?=some (pre++Zr n u)) (hK:A[K]?=some (pre'++Zr n v)) (ok:S9 n u v q) :
  cX () ((J,o,n),Zn q,(K,o,n),()) A=some ((),A.set J (pre++Zr n λx=>u x-q*v x)):=by
 unfold cX;simp only[vY]
 by_cases hq:q=0
 ·subst hq;simp only[decide_true,oC];have:Zr n (λx=>u x-0*v x)=Zr n u:=wH λi _=>by simp
  rw[this,aDK hJ]
 ·simp only[hq,decide_false,oD,aK0 hn hne hp hp' hJ hK ok,aC]
theorem negate_eq {A:List (List ByteArray)} {J o n:Nat} {u:V} {pre:List ByteArray} (hn:n<1048576) (hp:pre.length=o) (hJ:A[J]?=some (pre++Zr n u)) (ok:∀ i,i<n->Lib.nDigits (u i).natAbs<=lO) :
  b8 () ((J,o,n),()) A=some ((),A.set J (pre++Zr n λx=>-(u x))):=by
 have hJl:J<A.length:=(oO.1 hJ).1;have key:=c7 (step:=eY) (N:=2^64)
  (λt=>((J,o,n),(J,o,n),(n:Int),(t:Int),A.set J (pre++Zr n λx=>if x<t then -(u x) else u x),())) n (A.set J (pre++Zr n λx=>-(u x)),()) (by omega) (λt ht=>?_) ?_
 ·have h0:(A.set J (pre++Zr n λx=>if x<0 then -(u x) else u x))=A:=by
   have:Zr n (λx=>if x<0 then -(u x) else u x)=Zr n u:=wH λi _=>by simp
   rw[this,aDK hJ]
  simp only[h0]at key;unfold b8 gZ;have e0:((0:Nat):Int)=0:=rfl;rw[e0]at key;simp only[key,aC]
 ·have hg:(A.set J (pre++Zr n λx=>if x<t then -(u x) else u x)).getD J []=pre++Zr n λx=>if x<t then -(u x) else u x:=J6 _ _ _ _ hJl
  have e1:ltI (t:Int) (n:Int)=true:=by rw[aI]; simp; omega
  have e2:aN (t:Int) n=true:=by rw[aX]; simp; omega
  have e3:(o+((t:Nat):Int).toNat)*1=o+t:=by simp
  have e4:dF (A.set J (pre++Zr n λx=>if x<t then -(u x) else u x)) J=o+n:=by rw[dF,hg,oH,iV,hp]
  have e6:Nat.blt (o+t) (o+n)=true:=by rw[cE]; simpa using ht
  have e7:fG (A.set J (pre++Zr n λx=>if x<t then -(u x) else u x)) J (o+t) ByteArray.empty=Zn (u t):=by rw[fG,hg,GV hp,AM _ ht]; simp
  have e9:vM (A.set J (pre++Zr n λx=>if x<t then -(u x) else u x)) J (o+t) (Zn (-(u t)))=A.set J (pre++Zr n λx=>if x<t+1 then -(u x) else u x):=by
   rw[vM,hg,List.set_set,aIG hp];exact oZ (λl=>A.set J (pre++l)) (aFD u (λx=>-(u x)) t ht)
  have m1:=WV (u t) (Nat.lt_of_le_of_lt (ok t ht) (by decide));have e10:=c8 t (by omega);simp only[eY,e1,oC,e2,e3,e6,e4,e7,m1,aC,e9,e10]
 ·have e1:ltI (n:Int) (n:Int)=false:=by rw[aI]; simp
  simp only[eY,e1,oD];have:Zr n (λx=>if x<n then -(u x) else u x)=Zr n λx=>-(u x):=wH λi hi=>by simp[hi]
  rw[this]
theorem P6 {σ τ:Type} {step:σ->Option (σ⊕τ)} {N:Nat} (m:Nat) (I:Nat->σ->Prop) (Q:τ->Prop) (hN:m<N) (x:σ) (h0:I 0 x) (h:∀ t x,t<m->I t x->∃ y,step x=some (.inl y)/\I (t+1) y) (he:∀ x,I m x->∃ z,step x=some (.inr z)/\Q z) :
  ∃ z,bF step N x=some z/\Q z:=by
 have key:∀ (j t:Nat) (x:σ) (N:Nat),t+j=m->j<N->I t x->∃ z,bF step N x=some z/\Q z:=by
  intro j
  induction j with
  | zero =>
   intro t x N ht hN hI;have:t=m:=by omega
   subst this;obtain⟨N,rfl⟩:∃ M,N=M+1:=⟨N-1,by omega⟩;obtain⟨z,h1,h2⟩:=he x hI;exact⟨z,by rw[bD,h1],h2⟩
  | succ j ih =>
   intro t x N ht hN hI;obtain⟨N,rfl⟩:∃ M,N=M+1:=⟨N-1,by omega⟩;obtain⟨y,h1,h2⟩:=h t x (by omega) hI;obtain⟨z,h3,h4⟩:=ih (t+1) y N (by omega) (by omega) h2;exact⟨z,by rw[bD,h1]; exact h3,h4⟩
 exact key m 0 x N (by omega) hN h0
structure lZ (o k n:Nat) (m:List (Nat×Nat×Nat)) (A:List (List ByteArray)) (J:Nat->Nat) (M:Nat->V):Prop where
 ml:m=(List.range k).map λi=>(J i,o,n)
 at_:∀ i,i<k->∃ pre:List ByteArray,pre.length=o/\A[J i]?=some (pre++Zr n (M i))
 inj:∀ i j,i<k->j<k->J i=J j->i=j
section
variable {o k n:Nat} {m:List (Nat×Nat×Nat)} {A:List (List ByteArray)} {J:Nat->Nat} {M:Nat->V}
theorem lZ.len (h:lZ o k n m A J M):m.length=k:=by rw[h.ml]; simp
theorem lZ.get (h:lZ o k n m A J M){i:Nat}(hi:i<k):m.getD i (0,0,0)=(J i,o,n):=by rw[h.ml]; simp[List.getD,hi]
theorem lZ.dF (h:lZ o k n m A J M){i:Nat}(hi:i<k):dF A (J i)=o+n:=by
 obtain⟨pre,h1,h2⟩:=h.at_ i hi;rw[PM.dF,NL _ h2,oH,iV,h1]
theorem lZ.fG (h:lZ o k n m A J M){i c:Nat}(hi:i<k)(hc:c<n):fG A (J i) (o+c) ByteArray.empty=Zn (M i c):=by
 obtain⟨pre,h1,h2⟩:=h.at_ i hi;rw[PM.fG,NL _ h2,GV h1,AM _ hc]
theorem lZ.OG (h:lZ o k n m A J M){i:Nat}(hi:i<k)(r:V){pre:List ByteArray}(hp:pre.length=o):lZ o k n m (A.set (J i) (pre++Zr n r)) J (up M i r) where
 ml:=h.ml
 at_:=λj hj=>by
  by_cases e:j=i
  ·subst e;obtain⟨pre',h1,h2⟩:=h.at_ j hj;exact⟨pre,hp,by rw[List.getElem?_set_self (oO.1 h2).1,B8]⟩
  ·obtain⟨pre',h1,h2⟩:=h.at_ j hj;exact⟨pre',h1,by rw[List.getElem?_set_ne (λe'=>e (h.inj i j hi hj e').symm),uL _ _ e]; exact h2⟩
 inj:=h.inj
theorem lZ.less (h:lZ o k n m A J M)(hn:n<1048576){i d:Nat}(hi:i<k)(hd:d<k)(hne:i≠d)(q:Int)(ok:S9 n (M i) (M d) q) :
  ∃ A',cX () ((J i,o,n),Zn q,(J d,o,n),()) A=some ((),A')/\lZ o k n m A' J (up M i λx=>M i x-q*M d x):=by
 obtain⟨pre,h1,h2⟩:=h.at_ i hi;obtain⟨pre',h3,h4⟩:=h.at_ d hd;exact⟨_,aSA hn (λe=>hne (h.inj i d hi hd e)) h1 h3 h2 h4 ok,h.OG hi _ h1⟩
theorem lZ.neg (h:lZ o k n m A J M)(hn:n<1048576){i:Nat}(hi:i<k)(ok:∀ x,x<n->Lib.nDigits (M i x).natAbs<=lO) :
  ∃ A',b8 () ((J i,o,n),()) A=some ((),A')/\lZ o k n m A' J (up M i λx=>-(M i x)):=by
 obtain⟨pre,h1,h2⟩:=h.at_ i hi;exact⟨_,negate_eq hn h1 h2 ok,h.OG hi _ h1⟩
theorem lZ.swap (h:lZ o k n m A J M){a b:Nat}(ha:a<k)(hb:b<k):lZ o k n ((m.set a (J b,o,n)).set b (J a,o,n)) A (λi=>if i=a then J b else if i=b then J a else J i) (swp M a b) where
 ml:=by
  refine List.ext_getElem? λi=>?_
  have hl:=h.len;rw[List.getElem?_map]
  by_cases e1:i=b
  ·subst e1;rw[List.getElem?_set_self (by simp; omega),List.getElem?_range hb]
   by_cases e2:i=a
   ·subst e2; simp
   ·simp[e2]
  ·rw[List.getElem?_set_ne (Ne.symm e1)]
   by_cases e2:i=a
   ·subst e2;rw[List.getElem?_set_self (by omega),List.getElem?_range ha];simp
   ·rw[List.getElem?_set_ne (Ne.symm e2),h.ml,List.getElem?_map]
    by_cases hi:i<k
    ·rw[List.getElem?_range hi];simp[e1,e2]
    ·have:(List.range k)[i]?=none:=by simp; omega
     rw[this]; rfl
 at_:=λi hi=>by
  by_cases e1:i=a
  ·subst e1;simp only[if_true,swp];exact h.at_ b hb
  ·by_cases e2:i=b
   ·subst e2;simp only[e1,if_false,if_true,swp];exact h.at_ a ha
   ·simp only[e1,e2,if_false,swp];exact h.at_ i hi
 inj:=λi j hi hj e=>by
  have key:∀ i,i<k->(if i=a then J b else if i=b then J a else J i)=J (if i=a then b else if i=b then a else i):=λi _=>by
   by_cases e1:i=a
   ·simp[e1]
   ·by_cases e2:i=b
    ·subst e2; simp[e1]
    ·simp[e1,e2]
  simp only[key i hi,key j hj]at e;have lt:∀ i,i<k->(if i=a then b else if i=b then a else i)<k:=λi hi=>by
   split
   ·exact hb
   ·split
    ·exact ha
    ·exact hi
  have:=h.inj _ _ (lt i hi) (lt j hj) e
  by_cases e1:i=a <;> by_cases e2:j=a <;> by_cases e3:i=b <;> by_cases e4:j=b <;> simp_all <;> omega
end
def atv:Option Nat->Int
 | none=>-1
 | some a=>a
structure aMI (M:Nat->V) (c d t:Nat) (r:Option Nat):Prop where
 none:r=Option.none->∀ i,d<=i->i<d+t->M i c=0
 some:∀ a,r=Option.some a->d<=a/\a<d+t/\M a c≠0/\∀ i,d<=i->i<d+t->M i c≠0->(M a c).natAbs<=(M i c).natAbs
def Cm(k n:Nat) (M:Nat->V):Prop:=∀ i,i<k->∀ x,x<n->Lib.nDigits (M i x).natAbs<=lO
theorem aDF {o k n:Nat}{m:List (Nat×Nat×Nat)}{A:List (List ByteArray)}{J:Nat->Nat}{M:Nat->V}(h:lZ o k n m A J M)(hk:k<1048576)(hc:Cm k n M){c d:Nat}(hcn:c<n)(hd:d<=k)(cols:Int) :
  ∃ r,eP (m,cols,(d:Int),(c:Int),-1,(d:Int),A,())=some (m,cols,(d:Int),(c:Int),atv r,A,())/\aMI M c d (k-d) r:=by
 have:=P6 (step:=bK) (N:=2^64) (k-d)
  (λt x=>∃ r,x=(m,cols,(d:Int),(c:Int),atv r,((d+t:Nat):Int),A,())/\aMI M c d t r)
  (λz=>∃ r,z=(m,cols,(d:Int),(c:Int),atv r,A,())/\aMI M c d (k-d) r) (by omega) (m,cols,(d:Int),(c:Int),-1,(d:Int),A,())
  ⟨none,rfl,⟨λ_ i h1 h2=>by omega,λa ha=>by cases ha⟩⟩ ?_ ?_
 ·obtain⟨z,h1,r,rfl,h2⟩:=this;exact⟨r,h1,h2⟩
 ·rintro t x ht ⟨r,rfl,hr⟩;have hi:d+t<k:=by omega
  have e1:ltI ((d+t:Nat):Int) (m.length:Int)=true:=by rw[aI,h.len]; simp; omega
  have e2:aN ((d+t:Nat):Int) m.length=true:=by rw[aX,h.len]; simp; omega
  have e3:(((d+t:Nat):Int)).toNat=d+t:=oN _;have e4:Nat.blt (d+t) m.length=true:=by rw[cE,h.len]; simpa using hi
  have e5:aN (c:Int) n=true:=by rw[aX]; simp; omega
  have e6:(o+((c:Nat):Int).toNat)*1=o+c:=by simp
  have e7:Nat.blt (o+c) (o+n)=true:=by rw[cE]; simpa using hcn
  have e8:=c8 (d+t) (by omega);have e9:=h.get hi;have e10:=h.dF hi;have e11:=h.fG hi hcn
  by_cases hz:M (d+t) c=0
  ·refine⟨_,?_,r,rfl,⟨λhr0 i h1 h2=>?_,λa ha=>?_⟩⟩
   ·have e12:eqS (Zn (M (d+t) c)) (ByteArray.mk #[48])=true:=by rw[vY]; simp[hz]
    simp only[bK,e1,e2,e3,e4,e9,e5,e6,e10,e7,e11,e12,e8,oC,Bool.not_true,oD];rfl
   ·by_cases e:i=d+t
    ·subst e; exact hz
    ·exact hr.none hr0 i h1 (by omega)
   ·obtain⟨q1,q2,q3,q4⟩:=hr.some a ha;refine⟨q1,by omega,q3,λi h1 h2 h3=>?_⟩
    by_cases e:i=d+t
    ·subst e; exact absurd hz h3
    ·exact q4 i h1 (by omega) h3
  ·have e12:eqS (Zn (M (d+t) c)) (ByteArray.mk #[48])=false:=by rw[vY]; simp[hz]
   cases r with
   | none =>
    have e13:ltI (atv none) 0=true:=by decide
    refine⟨_,?_,some (d+t),rfl,⟨λhr0=>by (cases hr0),λa ha=>?_⟩⟩
    ·simp only[bK,e1,e2,e3,e4,e9,e5,e6,e10,e7,e11,e12,e8,oC,Bool.not_false,e13];rfl
    ·obtain rfl:=oB ha;refine⟨by omega,by omega,hz,λi h1 h2 h3=>?_⟩
     by_cases e:i=d+t
     ·subst e; exact oM _
     ·exact absurd (hr.none rfl i h1 (by omega)) h3
   | some a =>
    obtain⟨q1,q2,q3,q4⟩:=hr.some a rfl;have ha:a<k:=by omega
    have e13:ltI (atv (some a)) 0=false:=by rw[aI]; exact oF (by unfold atv; dsimp only; omega)
    have f2:aN (atv (some a)) m.length=true:=by rw[aX,h.len]; simp[atv]; omega
    have f3:(atv (some a)).toNat=a:=by simp[atv]
    have f4:Nat.blt a m.length=true:=by rw[cE,h.len]; simpa using ha
    have f9:=h.get ha;have f10:=h.dF ha;have f11:=h.fG ha hcn;have c1:=X2 (M (d+t) c);have c2:=X2 (M a c);have c3:=VW (M (d+t) c).natAbs (M a c).natAbs (Nat.lt_of_le_of_lt (hc _ hi c hcn) (by decide)) (Nat.lt_of_le_of_lt (hc _ ha c hcn) (by decide))
    by_cases hl:(M (d+t) c).natAbs<(M a c).natAbs
    ·have c4:ltI (MU (M (d+t) c).natAbs (M a c).natAbs) 0=true:=by rw[aI,MU,if_pos hl]; rfl
     refine⟨_,?_,some (d+t),rfl,⟨λhr0=>by (cases hr0),λb hb=>?_⟩⟩
     ·simp only[bK,e1,e2,e3,e4,e9,e5,e6,e10,e7,e11,e12,e8,oC,Bool.not_false,e13,oD,f2,f3,f4,f9,f10,f11,c1,c2,c3,c4,aC];rfl
     ·obtain rfl:=oB hb;refine⟨by omega,by omega,hz,λi h1 h2 h3=>?_⟩
      by_cases e:i=d+t
      ·subst e; exact oM _
      ·have:=q4 i h1 (by omega) h3; omega
    ·have c4:ltI (MU (M (d+t) c).natAbs (M a c).natAbs) 0=false:=by
      rw[aI,MU,if_neg hl]; split <;> rfl
     refine⟨_,?_,some a,rfl,⟨λhr0=>by (cases hr0),λb hb=>?_⟩⟩
     ·simp only[bK,e1,e2,e3,e4,e9,e5,e6,e10,e7,e11,e12,e8,oC,Bool.not_false,e13,oD,f2,f3,f4,f9,f10,f11,c1,c2,c3,c4,aC];rfl
     ·obtain rfl:=oB hb;refine⟨q1,by omega,q3,λi h1 h2 h3=>?_⟩
      by_cases e:i=d+t
      ·subst e; omega
      ·exact q4 i h1 (by omega) h3
 ·rintro x ⟨r,rfl,hr⟩;have e1:ltI ((d+(k-d):Nat):Int) (m.length:Int)=false:=by rw[aI,h.len]; simp; omega
  refine⟨_,?_,r,rfl,hr⟩;simp only[bK,e1,oD]
theorem BY {T:Nat}(hT:2*Lib.nDigits (T+1)<=lO){a:Nat}(h:a<=T+1):2*Lib.nDigits a<=lO:=oR (Nat.mul_le_mul_left 2 (qJ h)) hT
theorem ND {a m:Int}{T:Nat}(h:a.natAbs<=T)(hm:m≠0):(a.fdiv m).natAbs<=T+1:=by
 have h1:=aCT a m hm;have h2:1<=m.natAbs:=by omega
 have h3:(a.fdiv m).natAbs*m.natAbs<=(T+1)*m.natAbs:=by
  rw[Nat.succ_mul];have:T*1<=T*m.natAbs:=Nat.mul_le_mul_left _ h2;omega
 exact Nat.le_of_mul_le_mul_right h3 (by omega)
theorem XI {T n:Nat}(hT:2*Lib.nDigits (T+1)<=lO){u v:V}{q:Int}(hu:∀ x,x<n->(u x).natAbs<=T)(hv:∀ x,x<n->(v x).natAbs<=T)(hq:q.natAbs<=T+1):S9 n u v q:=by
 constructor
 ·intro i hi;have h1:=BY hT hq;have h2:=BY hT (Nat.le_succ_of_le (hv i hi));omega
 ·intro i hi;have h2:=BY hT (Nat.le_succ_of_le (hu i hi));omega
def Big(k n:Nat) (M:Nat->V) (T:Nat):Prop:=∀ i,i<k->∀ x,x<n->(M i x).natAbs<=T
theorem Big.cm {k n T:Nat}{M:Nat->V}(h:Big k n M T)(hT:2*Lib.nDigits (T+1)<=lO):Cm k n M:=λi hi x hx=>by
 have:=BY hT (Nat.le_succ_of_le (h i hi x hx));omega
section
variable {o k n d c:Nat} {m:List (Nat×Nat×Nat)} {A:List (List ByteArray)} {J:Nat->Nat} {M M0:Nat->V} {p:Nat->Nat} {T:Nat}
def rdT(M:Nat->V) (d c t:Nat):Nat->V:=λi=>if d<i/\i<d+1+t then (λx=>M i x-(M i c).fdiv (M d c)*M d x) else M i
theorem aEM(h:lZ o k n m A J M)(hk:k<1048576)(hn:n<1048576)(f:Fo k M0 M d c p)(hd:d<k)(hcn:c<n)(hm:M d c≠0)(hB:Big k n M T)(hT:2*Lib.nDigits (T+1)<=lO)(cols:Int) :
  ∃ A' M' rest,gM (m,cols,(d:Int),(c:Int),false,aH .i64 ((d:Int)+1),A,())=some (m,cols,(d:Int),(c:Int),rest,A',())/\lZ o k n m A' J M'/\Rd k M M' d c/\Fo k M0 M' d c p/\(∀ i,i<d->M' i=M i) /\
   (rest=true->∃ i,d<i/\i<k/\M' i c≠0)/\(rest=false->∀ i,d<i->i<k->M' i c=0):=by
 have hat:∀ t i,d<i->i<d+1+t->rdT M d c t i c=(M i c).fmod (M d c):=λt i h1 h2=>by
  unfold rdT;rw[if_pos ⟨h1,h2⟩];exact MZ _ _
 have hd0:∀ t,rdT M d c t d=M d:=λt=>by unfold rdT; rw[if_neg (by omega)]
 have:=P6 (step:=bV) (N:=2^64) (k-(d+1))
  (λt x=>∃ A' rest,x=(m,cols,(d:Int),(c:Int),rest,((d+1+t:Nat):Int),A',())/\lZ o k n m A' J (rdT M d c t)/\Fo k M0 (rdT M d c t) d c p/\(rest=true->∃ i,d<i/\i<d+1+t/\(M i c).fmod (M d c)≠0)/\(rest=false->∀ i,d<i->i<d+1+t->(M i c).fmod (M d c)=0))
  (λz=>∃ A' rest,z=(m,cols,(d:Int),(c:Int),rest,A',())/\lZ o k n m A' J (rdT M d c (k-(d+1)))/\Fo k M0 (rdT M d c (k-(d+1))) d c p/\(rest=true->∃ i,d<i/\i<k/\(M i c).fmod (M d c)≠0)/\(rest=false->∀ i,d<i->i<k->(M i c).fmod (M d c)=0))
  (by omega) (m,cols,(d:Int),(c:Int),false,aH .i64 ((d:Int)+1),A,()) ?_ ?_ ?_
 ·obtain⟨z,h1,A',rest,rfl,h2,h3,h4,h5⟩:=this;refine⟨A',_,rest,h1,h2,⟨hd0 _,λi g1 g2=>?_⟩,h3,λi hi=>by unfold rdT; rw[if_neg (by omega)],λhr=>?_,λhr i g1 g2=>?_⟩
  ·unfold rdT; rw[if_pos ⟨g1,by omega⟩]
  ·obtain⟨i,g1,g2,g3⟩:=h4 hr;exact⟨i,g1,g2,by rw[hat _ i g1 (by omega)]; exact g3⟩
  ·rw[hat _ i g1 (by omega)]; exact h5 hr i g1 g2
 ·have e:rdT M d c 0=M:=by
   funext i; unfold rdT; rw[if_neg (by omega)]
  refine⟨A,false,?_,by rw[e]; exact h,by rw[e]; exact f,λhr=>(by cases hr),λ_ i g1 g2=>by omega⟩;rw[c8 d (by omega)]
 ·rintro t x ht ⟨A',rest,rfl,hL,hF,hr1,hr2⟩;have hi:d+1+t<k:=by omega
  have hMi:rdT M d c t (d+1+t)=M (d+1+t):=by unfold rdT; rw[if_neg (by omega)]
  have e1:ltI ((d+1+t:Nat):Int) (m.length:Int)=true:=by rw[aI,h.len]; exact oT (by omega)
  have e2:aN ((d+1+t:Nat):Int) m.length=true:=by rw[aX,h.len]; exact oT (by omega)
  have e3:(((d+1+t:Nat):Int)).toNat=d+1+t:=oN _;have e4:Nat.blt (d+1+t) m.length=true:=by rw[cE,h.len]; simpa using hi
  have e5:aN (c:Int) n=true:=by rw[aX]; exact oT (by omega)
  have e6:(o+((c:Nat):Int).toNat)*1=o+c:=by simp
  have e7:Nat.blt (o+c) (o+n)=true:=by rw[cE]; simpa using hcn
  have e8:=c8 (d+1+t) (by omega);have e9:=hL.get hi;have e10:=hL.dF hi;have e11:=hL.fG hi hcn;rw[hMi]at e11;have f2:aN ((d:Nat):Int) m.length=true:=by rw[aX,h.len]; exact oT (by omega)
  have f3:((d:Nat):Int).toNat=d:=oN _;have f4:Nat.blt d m.length=true:=by rw[cE,h.len]; simpa using hd
  have f9:=hL.get hd;have f10:=hL.dF hd;have f11:=hL.fG hd hcn;rw[hd0]at f11;have b1:=hB _ hi c hcn;have b2:=hB _ hd c hcn;have k1:=BY hT (Nat.le_succ_of_le b1);have k2:=BY hT (Nat.le_succ_of_le b2);have c1:=FN (M (d+1+t) c) (M d c) (by have:lO=18:=rfl; omega) (by have:lO=18:=rfl; omega) hm;obtain⟨A2,c2,c3⟩:=hL.less hn hi hd (by omega) ((M (d+1+t) c).fdiv (M d c)) (by
   rw[hMi,hd0];exact XI hT (hB _ hi) (hB _ hd) (ND b1 hm))
  have hup:up (rdT M d c t) (d+1+t) (λx=>rdT M d c t (d+1+t) x-(M (d+1+t) c).fdiv (M d c)*rdT M d c t d x)=rdT M d c (t+1):=by
   funext i
   by_cases e:i=d+1+t
   ·subst e;rw[B8,hMi,hd0];unfold rdT;rw[if_pos (by omega)]
   ·rw[uL _ _ e];unfold rdT
    by_cases g:d<i/\i<d+1+t
    ·rw[if_pos g,if_pos (by omega)]
    ·rw[if_neg g,if_neg (by omega)]
  rw[hup]at c3;have hF':Fo k M0 (rdT M d c (t+1)) d c p:=by
   rw[<- hup];exact hF.less _ (by omega) hi
  have c4:eqS (Zn ((M (d+1+t) c).fmod (M d c))) (ByteArray.mk #[48])=decide ((M (d+1+t) c).fmod (M d c)=0):=vY _;have e8':((d+1+t+1:Nat):Int)=((d+1+(t+1):Nat):Int):=by omega
  cases rest with
  | true =>
   refine⟨_,?_,A2,true,rfl,c3,hF',λ_=>?_,λhr=>(by cases hr)⟩
   ·simp only[bV,e1,e2,e3,e4,e9,e5,e6,e10,e7,e11,f2,f3,f4,f9,f10,f11,c1,c2,aC,oC,e8,e8']
   ·obtain⟨i,g1,g2,g3⟩:=hr1 rfl;exact⟨i,g1,by omega,g3⟩
  | false =>
   by_cases hz:(M (d+1+t) c).fmod (M d c)=0
   ·have c5:eqS (Zn ((M (d+1+t) c).fmod (M d c))) (ByteArray.mk #[48])=true:=by rw[c4]; exact oT hz
    refine⟨_,?_,A2,false,rfl,c3,hF',λhr=>(by cases hr),λ_ i g1 g2=>?_⟩
    ·simp only[bV,e1,e2,e3,e4,e9,e5,e6,e10,e7,e11,f2,f3,f4,f9,f10,f11,c1,c2,c5,aC,oC,oD,e8,e8',Bool.not_true]
    ·by_cases e:i=d+1+t
     ·subst e; exact hz
     ·exact hr2 rfl i g1 (by omega)
   ·have c5:eqS (Zn ((M (d+1+t) c).fmod (M d c))) (ByteArray.mk #[48])=false:=by rw[c4]; exact oF hz
    refine⟨_,?_,A2,true,rfl,c3,hF',λ_=>⟨d+1+t,by omega,by omega,hz⟩,λhr=>(by cases hr)⟩;simp only[bV,e1,e2,e3,e4,e9,e5,e6,e10,e7,e11,f2,f3,f4,f9,f10,f11,c1,c2,c5,aC,oC,oD,e8,e8',Bool.not_false]
 ·rintro x ⟨A',rest,rfl,hL,hF,hr1,hr2⟩;have e1:ltI ((d+1+(k-(d+1)):Nat):Int) (m.length:Int)=false:=by rw[aI,h.len]; exact oF (by omega)
  refine⟨_,?_,A',rest,rfl,hL,hF,λhr=>?_,λhr i g1 g2=>hr2 hr i g1 (by omega)⟩
  ·simp only[bV,e1,oD]
  ·obtain⟨i,g1,g2,g3⟩:=hr1 hr;exact⟨i,g1,by omega,g3⟩
theorem aFB {E:Nat} (h:lZ o k n m A J M) (hk:k<1048576) (hn:n<1048576) (f:Fp k M0 M d c p 0) (hcn:c<n) (hB:Big k n M T) (hE:∀ i,i<d->∀ x,x<n->(M i x).natAbs<=E) (hET:E<=T) (hT:2*Lib.nDigits (T+1)<=lO) (cols:Int) :
  ∃ A' M',bJ (m,cols,(d:Int),(c:Int),(d:Int),0,A,())=some (m,cols,(d:Int),(c:Int),A',())/\lZ o k n m A' J M'/\Fp k M0 M' d c p d/\(∀ i,d<=i->M' i=M i)/\∀ i,i<d->∀ x,x<n->(M' i x).natAbs<=E+(E+1)*T:=by
 have hd:=f.dk;have:=P6 (step:=eL) (N:=2^64) d
  (λt x=>∃ A' M',x=(m,cols,(d:Int),(c:Int),(d:Int),(t:Int),A',())/\lZ o k n m A' J M'/\Fp k M0 M' d c p t/\(∀ i,t<=i->M' i=M i)/\∀ i,i<t->∀ x,x<n->(M' i x).natAbs<=E+(E+1)*T)
  (λz=>∃ A' M',z=(m,cols,(d:Int),(c:Int),A',())/\lZ o k n m A' J M'/\Fp k M0 M' d c p d/\(∀ i,d<=i->M' i=M i)/\∀ i,i<d->∀ x,x<n->(M' i x).natAbs<=E+(E+1)*T)
  (by omega) (m,cols,(d:Int),(c:Int),(d:Int),0,A,()) ⟨A,M,rfl,h,f,λ_ _=>rfl,λi hi=>by omega⟩ ?_ ?_
 ·obtain⟨z,h1,A',M',rfl,h2⟩:=this;exact⟨A',M',h1,h2⟩
 ·rintro t x ht ⟨A',M',rfl,hL,hF,hr1,hr2⟩;have hi:t<k:=by omega
  have hMi:=hr1 t (oM _);have hMd:=hr1 d (by omega);have e1:ltI (t:Int) (d:Int)=true:=by rw[aI]; exact oT (by omega)
  have e2:aN (t:Int) m.length=true:=by rw[aX,h.len]; exact oT (by omega)
  have e3:((t:Nat):Int).toNat=t:=oN _;have e4:Nat.blt t m.length=true:=by rw[cE,h.len]; simpa using hi
  have e5:aN (c:Int) n=true:=by rw[aX]; exact oT (by omega)
  have e6:(o+((c:Nat):Int).toNat)*1=o+c:=by simp
  have e7:Nat.blt (o+c) (o+n)=true:=by rw[cE]; simpa using hcn
  have e8:=c8 t (by omega);have e9:=hL.get hi;have e10:=hL.dF hi;have e11:=hL.fG hi hcn;rw[hMi]at e11;have f2:aN ((d:Nat):Int) m.length=true:=by rw[aX,h.len]; exact oT (by omega)
  have f3:((d:Nat):Int).toNat=d:=oN _;have f4:Nat.blt d m.length=true:=by rw[cE,h.len]; simpa using hd
  have f9:=hL.get hd;have f10:=hL.dF hd;have f11:=hL.fG hd hcn;rw[hMd]at f11;have hm:M d c≠0:=by have:=f.piv; omega
  have b0:=hE t ht c hcn;have b1:=hB _ hi c hcn;have b2:=hB _ hd c hcn;have k1:=BY hT (Nat.le_succ_of_le b1);have k2:=BY hT (Nat.le_succ_of_le b2);have c1:=FN (M t c) (M d c) (by have:lO=18:=rfl; omega) (by have:lO=18:=rfl; omega) hm;obtain⟨A2,c2,c3⟩:=hL.less hn hi hd (by omega) ((M t c).fdiv (M d c)) (by
   rw[hMi,hMd];exact XI hT (hB _ hi) (hB _ hd) (ND b1 hm))
  have hF2:=hF.less ht;rw[hMi,hMd]at hF2 c3;refine⟨_,?_,A2,_,rfl,c3,hF2,λi hi2=>?_,λi hi2 x hx=>?_⟩
  ·simp only[eL,e1,e2,e3,e4,e9,e5,e6,e10,e7,e11,f2,f3,f4,f9,f10,f11,c1,c2,aC,oC,e8]
  ·rw[uL _ _ (by omega)]; exact hr1 i (by omega)
  ·by_cases e:i=t
   ·subst e;rw[B8];have q1:=ND b0 hm;have q2:((M i c).fdiv (M d c)*M d x).natAbs=((M i c).fdiv (M d c)).natAbs*(M d x).natAbs:=Int.natAbs_mul _ _;have q3:((M i c).fdiv (M d c)).natAbs*(M d x).natAbs<=(E+1)*T:=Nat.mul_le_mul q1 (hB _ hd x hx);have q4:=hE i (by omega) x hx;omega
   ·rw[uL _ _ e]; exact hr2 i (by omega) x hx
 ·rintro x ⟨A',M',rfl,hL,hF,hr1,hr2⟩;have e1:ltI (d:Int) (d:Int)=false:=by rw[aI]; exact oF (by omega)
  refine⟨_,?_,A',M',rfl,hL,hF,hr1,hr2⟩;simp only[eL,e1,oD]
end
def Wd(k n:Nat) (M:Nat->V):Prop:=∀ i,i<k->∀ x,n<=x->M i x=0
section
variable {o k n d c:Nat} {m:List (Nat×Nat×Nat)} {A:List (List ByteArray)} {J:Nat->Nat} {M M0:Nat->V} {p:Nat->Nat} {T E:Nat}
theorem Big.all (h:Big k n M T)(hw:Wd k n M):∀ i,i<k->∀ x,(M i x).natAbs<=T:=λi hi x=>by
 rcases oG x n with g|g
 ·exact h i hi x g
 ·rw[hw i hi x g]; exact Nat.zero_le _
theorem pass(h:lZ o k n m A J M) (hk:k<1048576) (hn:n<1048576) (f:Fo k M0 M d c p) (hcn:c<n) (hB:Big k n M T) (hw:Wd k n M) (hE:∀ i,i<d->∀ x,x<n->(M i x).natAbs<=E) (hET:E<=T) (hT:2*Lib.nDigits (T+1)<=lO) {a:Nat} (hd:d<k) (ha:d<=a) (hak:a<k) (hm:M a c≠0)
  (cols:Int) (hfind:eP (m,cols,(d:Int),(c:Int),-1,(d:Int),A,())=some (m,cols,(d:Int),(c:Int),(a:Int),A,())) :
  ∃ m1 A' J' M',lZ o k n m1 A' J' M'/\Rd k (swp M d a) M' d c/\Fo k M0 M' d c p/\(∀ i,i<d->M' i=M i)/\Wd k n M' /\
   ((∃ i,d<i/\i<k/\M' i c≠0)->bL (m,cols,(d:Int),(c:Int),A,())=some (.inl (m1,cols,(d:Int),(c:Int),A',()))) /\
   ((∀ i,d<i->i<k->M' i c=0)->Big k n M' T->∃ A'' M'' p',bL (m,cols,(d:Int),(c:Int),A,())=some (.inr (m1,cols,((d+1:Nat):Int),(c:Int),A'',()))/\lZ o k n m1 A'' J' M''/\Fo k M0 M'' (d+1) (c+1) p'/\Wd k n M''/\Big k n M'' (E+(E+1)*T)):=by
 obtain⟨J',hs⟩:∃ J',lZ o k n ((m.set d (J a,o,n)).set a (J d,o,n)) A J' (swp M d a):=⟨_,h.swap hd hak⟩;have hsw:∀ i,i<k->∃ j,j<k/\swp M d a i=M j:=λi hi=>by
  unfold swp;split
  ·exact⟨a,hak,rfl⟩
  ·split
   ·exact⟨d,hd,rfl⟩
   ·exact⟨i,hi,rfl⟩
 have hBs:Big k n (swp M d a) T:=λi hi x hx=>by
  obtain⟨j,h1,h2⟩:=hsw i hi;rw[h2]; exact hB j h1 x hx
 have hws:Wd k n (swp M d a):=λi hi x hx=>by
  obtain⟨j,h1,h2⟩:=hsw i hi;rw[h2]; exact hw j h1 x hx
 have hpd:swp M d a d=M a:=by simp[swp]
 obtain⟨A',M',rest,g1,g2,g3,g4,g5,g6,g7⟩:=aEM hs hk hn (f.swap ha hak) hd hcn (by rw[hpd]; exact hm) hBs hT cols;have hw':Wd k n M':=λi hi x hx=>by
  rcases Nat.lt_trichotomy i d with q|q|q
  ·rw[g5 i q]; exact hws i hi x hx
  ·subst q; rw[g3.1]; exact hws i hi x hx
  ·rw[g3.2 i q hi];simp only[hws i hi x hx,hws d hd x hx,Int.mul_zero,Int.sub_zero]
 have hlow:∀ i,i<d->M' i=M i:=λi hi=>by
  rw[g5 i hi];unfold swp;rw[if_neg (by omega),if_neg (by omega)]
 -- what the pass begins with
 have e1:ltI (a:Int) 0=false:=by rw[aI]; exact oF (by omega)
 have e2:aN (a:Int) m.length=true:=by rw[aX,h.len]; exact oT (by omega)
 have e3:((a:Nat):Int).toNat=a:=oN _;have e4:Nat.blt a m.length=true:=by rw[cE,h.len]; simpa using hak
 have f2:aN (d:Int) m.length=true:=by rw[aX,h.len]; exact oT (by omega)
 have f3:((d:Nat):Int).toNat=d:=oN _;have f4:Nat.blt d m.length=true:=by rw[cE,h.len]; simpa using hd
 have e9:=h.get hak;have f9:=h.get hd;have s1:(m.set d (J a,o,n)).length=m.length:=by simp
 have first:bL (m,cols,(d:Int),(c:Int),A,()) =
   (bif rest then some (.inl ((m.set d (J a,o,n)).set a (J d,o,n),cols,(d:Int),(c:Int),A',()))
   else bif aN (d:Int) ((m.set d (J a,o,n)).set a (J d,o,n)).length then bif Nat.blt d ((m.set d (J a,o,n)).set a (J d,o,n)).length then bif aN (c:Int) (((m.set d (J a,o,n)).set a (J d,o,n)).getD d (0,0,0)).2.2 then
    bif Nat.blt (((((m.set d (J a,o,n)).set a (J d,o,n)).getD d (0,0,0)).2.1+((c:Nat):Int).toNat)*1) (dF A' (((m.set d (J a,o,n)).set a (J d,o,n)).getD d (0,0,0)).1) then
    aB (rH ((fG A' (((m.set d (J a,o,n)).set a (J d,o,n)).getD d (0,0,0)).1 (((((m.set d (J a,o,n)).set a (J d,o,n)).getD d (0,0,0)).2.1+((c:Nat):Int).toNat)*1) ByteArray.empty),())) λy23 =>
    bif ltI y23.1 0 then
     bif aN (d:Int) ((m.set d (J a,o,n)).set a (J d,o,n)).length then bif Nat.blt d ((m.set d (J a,o,n)).set a (J d,o,n)).length then
     aB (b8 () (((((m.set d (J a,o,n)).set a (J d,o,n)).getD d (0,0,0)).1,(((m.set d (J a,o,n)).set a (J d,o,n)).getD d (0,0,0)).2.1,(((m.set d (J a,o,n)).set a (J d,o,n)).getD d (0,0,0)).2.2),()) A') λy24 =>
     aB (bJ ((m.set d (J a,o,n)).set a (J d,o,n),cols,(d:Int),(c:Int),(d:Int),0,y24.2,())) λz25 =>
     some (.inr ((z25.1,z25.2.1,(aH .i64 (z25.2.2.1+1)),z25.2.2.2.1,z25.2.2.2.2.1,()))) else none else none
    else aB (bJ ((m.set d (J a,o,n)).set a (J d,o,n),cols,(d:Int),(c:Int),(d:Int),0,A',())) λz26 =>
    some (.inr ((z26.1,z26.2.1,(aH .i64 (z26.2.2.1+1)),z26.2.2.2.1,z26.2.2.2.2.1,()))) else none else none else none else none):=by
  simp only[bL,hfind,aC,e1,oD,e2,e3,e4,f2,f3,f4,e9,f9,s1,oC,g1]
 refine⟨_,A',J',M',g2,g3,g4,hlow,hw',λhex=>?_,λhz hB'=>?_⟩
 ·obtain⟨i,q1,q2,q3⟩:=hex;have hr:rest=true:=by
   cases rest with
   | true=>rfl
   | false=>exact absurd (g7 rfl i q1 q2) q3
  rw[first,hr]; rfl
 ·have hr:rest=false:=by
   cases rest with
   | false=>rfl
   | true =>
    obtain⟨i,q1,q2,q3⟩:=g6 rfl;exact absurd (hz i q1 q2) q3
  have hmd:M' d c≠0:=by rw[g3.1,hpd]; exact hm
  have t1:=g2.len;have t2:aN (d:Int) k=true:=by rw[aX]; exact oT (by omega)
  have t3:Nat.blt d k=true:=by rw[cE]; simpa using hd
  have t4:=g2.get hd;have t5:aN (c:Int) n=true:=by rw[aX]; exact oT (by omega)
  have t6:(o+((c:Nat):Int).toNat)*1=o+c:=by simp
  have t7:Nat.blt (o+c) (o+n)=true:=by rw[cE]; simpa using hcn
  have t8:=g2.dF hd;have t9:=g2.fG hd hcn;have t10:=KC (M' d c);have t11:=c8 d (by omega);have hE':∀ i,i<d->∀ x,x<n->(M' i x).natAbs<=E:=λi hi x hx=>by rw[hlow i hi]; exact hE i hi x hx
  have fin:∀ (A1:List (List ByteArray)) (M1:Nat->V),lZ o k n ((m.set d (J a,o,n)).set a (J d,o,n)) A1 J' M1->Fo k M0 M1 d c p->0<M1 d c->(∀ i,d<i->i<k->M1 i c=0)->Big k n M1 T->Wd k n M1->(∀ i,i<d->M1 i=M' i) ->
    ∃ A'' M'' p',bJ ((m.set d (J a,o,n)).set a (J d,o,n),cols,(d:Int),(c:Int),(d:Int),0,A1,())=some ((m.set d (J a,o,n)).set a (J d,o,n),cols,(d:Int),(c:Int),A'',())/\lZ o k n ((m.set d (J a,o,n)).set a (J d,o,n)) A'' J' M''/\Fo k M0 M'' (d+1) (c+1) p'/\Wd k n M''/\Big k n M'' (E+(E+1)*T):=by
   intro A1 M1 q1 q2 q3 q4 q5 q6 q7;obtain⟨A2,M2,r1,r2,r3,r4,r5⟩:=aFB q1 hk hn { toFo:=q2,dk:=hd,piv:=q3,below:=q4,up:=λi hi=>by omega } hcn q5 (λi hi x hx=>by rw[q7 i hi]; exact hE' i hi x hx) hET hT cols;refine⟨A2,M2,_,r1,r2,r3.done,λi hi x hx=>?_,λi hi x hx=>?_⟩
   ·rcases oG i d with g|g
    ·have hs0:Same k M0 k M2:=r3.same;have h0:∀ j,j<k->M0 j x=0:=λj hj=>Sp.N2 (M:=M1) (λl hl=>q6 l hl x hx) ((q2.same _).1 (Sp.mem hj))
     exact Sp.N2 (M:=M0) h0 ((hs0 _).2 (Sp.mem hi))
    ·rw[r4 i g]; exact q6 i hi x hx
   ·rcases oG i d with g|g
    ·exact r5 i g x hx
    ·rw[r4 i g];have:=q5 i hi x hx;have:T*1<=T*(E+1):=Nat.mul_le_mul_left _ (by omega);rw[Nat.mul_comm (E+1) T];omega
  by_cases hn0:M' d c<0
  ·obtain⟨A1,u1,u2⟩:=g2.neg hn hd (λx hx=>(hB'.cm hT) d hd x hx);have l1:up M' d (λx=>-(M' d x)) d c = -(M' d c):=by rw[B8]
   obtain⟨A2,M2,p2,r1,r2,r3,r4,r5⟩:=fin A1 _ u2 (g4.neg hd) (by rw[l1]; omega) (λi q1 q2=>by rw[uL _ _ (by omega)]; exact hz i q1 q2)
    (λi hi x hx=>by
     by_cases e:i=d
     ·subst e; rw[B8,Int.natAbs_neg]; exact hB' i hi x hx
     ·rw[uL _ _ e]; exact hB' i hi x hx)
    (λi hi x hx=>by
     by_cases e:i=d
     ·subst e; rw[B8,hw' i hi x hx]; rfl
     ·rw[uL _ _ e]; exact hw' i hi x hx)
    (λi hi=>uL _ _ (by omega))
   refine⟨A2,M2,p2,?_,r2,r3,r4,r5⟩;have s2:ltI (M' d c).sign 0=true:=by rw[aI,Int.sign_eq_neg_one_of_neg hn0]; rfl
   rw[first,hr];simp only[oD,t1,t2,t3,t4,t5,t6,t7,t8,t9,t10,aC,oC,s2,u1,r1,t11]
  ·obtain⟨A2,M2,p2,r1,r2,r3,r4,r5⟩:=fin A' _ g2 g4 (by omega) hz hB' hw' (λ_ _=>rfl);refine⟨A2,M2,p2,?_,r2,r3,r4,r5⟩;have s2:ltI (M' d c).sign 0=false:=by rw[aI,Int.sign_eq_one_of_pos (by omega)]; rfl
   rw[first,hr];simp only[oD,t1,t2,t3,t4,t5,t6,t7,t8,t9,t10,aC,oC,s2,r1,t11]
end
structure St (k n d E T:Nat):Prop where
 e1:1<=E
 et:E<=T
 eu:d+1<k->9*E^5<=T
 fit:2*Lib.nDigits (T+1)<=lO
def aVT(o k n d c:Nat) (M0:Nat->V) (cols:Int) (E T:Nat) (z:List (Nat×Nat×Nat)×Int×Int×Int×List (List ByteArray)×Unit):Prop :=
 ∃ m' A' J' M' d' p',z=(m',cols,((d':Nat):Int),(c:Int),A',())/\lZ o k n m' A' J' M'/\Fo k M0 M' d' (c+1) p'/\Wd k n M'/\((d'=d/\Big k n M' E)\/(d'=d+1/\Big k n M' (E+(E+1)*T)))
section
variable {o k n d c:Nat} {m:List (Nat×Nat×Nat)} {A:List (List ByteArray)} {J:Nat->Nat} {M M0:Nat->V} {p:Nat->Nat} {T E:Nat}
theorem aNX {a g:Nat}(h:a<10^g):a<2^(4*g):=by
 refine Nat.lt_of_lt_of_le h ?_;rw[Nat.pow_mul];exact Nat.pow_le_pow_left (by decide) g
theorem rounds(hk:k<1048576) (hn:n<1048576) (hcn:c<n) (hT:2*Lib.nDigits (T+1)<=lO) (hET:E<=T) {C:Nat} (hC:3*C<=T) (cols:Int):∀ (R N P:Nat) {m:List (Nat×Nat×Nat)} {A:List (List ByteArray)} {J:Nat->Nat} {M:Nat->V},
  lZ o k n m A J M->Fo k M0 M d c p->Wd k n M->(∀ i,i<d->∀ x,x<n->(M i x).natAbs<=E)->Bt k M d c C->Pt k M d c P->P<2^R->R<N->∃ z,bF bL N (m,cols,(d:Int),(c:Int),A,())=some z/\aVT o k n d c M0 cols E T z
 | 0,N,P,m,A,J,M,h,f,hw,hE,hB,hP,hlt,_=>by
  obtain⟨i,w1,w2,w3,w4⟩:=hP;have:=hB.piv;have h1:1*1<=(M d c).natAbs*(M i c).natAbs:=Nat.mul_le_mul (by omega) (by omega);simp at hlt;omega
 | R+1,N+1,P,m,A,J,M,h,f,hw,hE,hB,hP,hlt,hN=>by
  obtain⟨E1,b1,i0,b2,b3,b4,b5⟩:=hB.ex;have hdk:=hB.dk;have hmp:=hB.piv;have hE1:E1<=C:=by
   have h1:E1*1<=E1*((M d c).natAbs^3*(M i0 c).natAbs):=Nat.mul_le_mul_left _ (Nat.mul_pos (Nat.pow_pos (by omega)) (by omega));have h2:E1*((M d c).natAbs^3*(M i0 c).natAbs)=E1*(M d c).natAbs^3*(M i0 c).natAbs:=by rw[Nat.mul_assoc]
   omega
  have hBig:Big k n M T:=λi hi x hx=>by
   rcases oG i d with g|g
   ·exact oR (hE i g x hx) hET
   ·have:=(b1 i g hi).1 x;omega
  obtain⟨r,f1,f2⟩:=aDF h hk (hBig.cm hT) hcn (Nat.le_of_lt hdk) cols;cases r with
  | none=>exact absurd (f2.none rfl d (oM _) (by omega)) hmp
  | some a =>
   obtain⟨q1,q2,q3,q4⟩:=f2.some a rfl;have hak:a<k:=by omega
   have hmin:∀ i,d<=i->i<k->M i c≠0->(M a c).natAbs<=(M i c).natAbs:=λi g1 g2 g3=>q4 i g1 (by omega) g3
   obtain⟨m1,A',J',M',s1,s2,s3,s4,s5,s6,s7⟩:=pass h hk hn f hcn hBig hw hE hET hT hdk q1 hak q3 cols f1;have hE':∀ i,i<d->∀ x,x<n->(M' i x).natAbs<=E:=λi hi x hx=>by rw[s4 i hi]; exact hE i hi x hx
   by_cases hz:∀ i,d<i->i<k->M' i c=0
   ·rcases hB.round q1 hak q3 hmin s2 with ⟨_,A1,g1⟩|⟨g1,_⟩
    ·have hBig':Big k n M' T:=λi hi x hx=>by
      rcases oG i d with g|g
      ·exact oR (hE' i g x hx) hET
      ·exact oR ((g1 i g hi).1 x) hC
     obtain⟨A2,M2,p2,u1,u2,u3,u4,u5⟩:=s7 hz hBig';exact⟨_,by rw[bD,u1],m1,A2,J',M2,d+1,p2,rfl,u2,u3,u4,.inr ⟨rfl,u5⟩⟩
    ·obtain⟨_,_,i,z1,z2,z3,_⟩:=g1.ex;exact absurd (hz i z1 z2) z3
   ·have hex:∃ i,d<i/\i<k/\M' i c≠0:=by
     obtain⟨i,hi⟩:=Classical.not_forall.1 hz;obtain⟨g1,hi⟩:=Classical.not_forall.1 hi;obtain⟨g2,g3⟩:=Classical.not_forall.1 hi;exact⟨i,g1,g2,g3⟩
    rcases hB.round q1 hak q3 hmin s2 with ⟨g0,_⟩|⟨g1,_⟩
    ·exact absurd g0 hz
    ·have hP':=hB.half q1 hak q3 hmin s2 hz hP;obtain⟨z,v1,v2⟩:=rounds hk hn hcn hT hET hC cols R N (P/2) s1 s3 s5 hE' g1 hP' (by rw[Nat.pow_succ]at hlt; omega) (by omega);exact⟨z,by rw[bD,s6 hex]; exact v1,v2⟩
theorem column(hk:k<1048576) (hn:n<1048576) (h:lZ o k n m A J M) (f:Fo k M0 M d c p) (hw:Wd k n M) (hd:d<k) (hcn:c<n) (hE:Big k n M E) (st:St k n d E T) (cols:Int) :
  ∃ z,eK (m,cols,(d:Int),(c:Int),A,())=some z/\aVT o k n d c M0 cols E T z:=by
 have hBig:Big k n M T:=λi hi x hx=>oR (hE i hi x hx) st.et
 have hEl:∀ i,i<d->∀ x,x<n->(M i x).natAbs<=E:=λi hi x hx=>hE i (by omega) x hx
 obtain⟨r,f1,f2⟩:=aDF h hk (hBig.cm st.fit) hcn (Nat.le_of_lt hd) cols;unfold eK;obtain⟨N,hN⟩:∃ N,2^64=N+1:=⟨2^64-1,by omega⟩;rw[hN];cases r with
 | none =>
  have e1:ltI (atv none) 0=true:=by decide
  refine⟨_,?_,m,A,J,M,d,p,rfl,h,f.skip λi h1 h2=>f2.none rfl i h1 (by omega),hw,.inl ⟨rfl,hE⟩⟩;rw[bD];simp only[bL,f1,aC,e1,oC]
 | some a =>
  obtain⟨q1,q2,q3,q4⟩:=f2.some a rfl;have hak:a<k:=by omega
  obtain⟨m1,A',J',M',s1,s2,s3,s4,s5,s6,s7⟩:=pass h hk hn f hcn hBig hw hEl st.et st.fit hd q1 hak q3 cols f1;have hE':∀ i,i<d->∀ x,x<n->(M' i x).natAbs<=E:=λi hi x hx=>by rw[s4 i hi]; exact hEl i hi x hx
  have hWi:Wi k (swp M d a) d c E E:=(show Wi k M d c E E from λi g1 g2=>⟨λx=>hE.all hw i g2 x,hE.all hw i g2 c⟩).swap q1 hak;have hpd:swp M d a d=M a:=by simp[swp]
  have hfirst:=s2.first hWi hd (by rw[hpd]; exact q3);have hpow:3*(3*(E*E)*E^3)=9*E^5:=by grind
  by_cases hdk:d+1<k
  ·have h9:=st.eu hdk;rcases hfirst with ⟨hz,g1⟩|g1
   ·have hBig':Big k n M' T:=λi hi x hx=>by
     rcases oG i d with g|g
     ·exact oR (hE' i g x hx) st.et
     ·have:=(g1 i g hi).1 x;have h3:3*(E*E)*1<=3*(E*E)*E^3:=Nat.mul_le_mul_left _ (Nat.pow_pos st.e1);omega
    obtain⟨A2,M2,p2,u1,u2,u3,u4,u5⟩:=s7 hz hBig';exact⟨_,by rw[bD,u1],m1,A2,J',M2,d+1,p2,rfl,u2,u3,u4,.inr ⟨rfl,u5⟩⟩
   ·obtain⟨E1,b1,i0,b2,b3,b4,b5⟩:=g1.ex;have hPt:Pt k M' d c (T*T):=by
     refine⟨i0,b2,b3,b4,Nat.mul_le_mul ?_ ?_⟩
     ·rw[s2.1,hpd]; exact hBig a hak c hcn
     ·have h1:=(g1.sign i0 b2 b3).1;rw[s2.1,hpd]at h1;exact oR (Nat.le_of_lt h1) (hBig a hak c hcn)
    have hT2:T*T<2^(8*Lib.nDigits (T+1)):=by
     have h1:=aNX (jQ (T+1));have h2:(T+1)*(T+1)<2^(4*Lib.nDigits (T+1))*2^(4*Lib.nDigits (T+1)):=Nat.mul_lt_mul'' h1 h1;rw[<- Nat.pow_add]at h2;have h3:4*Lib.nDigits (T+1)+4*Lib.nDigits (T+1)=8*Lib.nDigits (T+1):=by omega
     rw[h3]at h2;have h4:T*T<=(T+1)*(T+1):=Nat.mul_le_mul (by omega) (by omega);omega
    have hex:∃ i,d<i/\i<k/\M' i c≠0:=⟨i0,b2,b3,b4⟩;obtain⟨z,v1,v2⟩:=rounds hk hn hcn st.fit st.et (C:=3*(E*E)*E^3) (by omega) cols (8*Lib.nDigits (T+1)) N (T*T) s1 s3 s5 hE' g1 hPt hT2 (by have:=st.fit; have:lO=18:=rfl; omega);exact⟨z,by rw[bD,s6 hex]; exact v1,v2⟩
  ·have hz:∀ i,d<i->i<k->M' i c=0:=λi g1 g2=>by omega
   have hBig':Big k n M' T:=λi hi x hx=>by
    rcases oG i d with g|g
    ·exact oR (hE' i g x hx) st.et
    ·have:i=d:=by omega
     subst this;rw[s2.1,hpd];exact hBig a hak x hx
   obtain⟨A2,M2,p2,u1,u2,u3,u4,u5⟩:=s7 hz hBig';exact⟨_,by rw[bD,u1],m1,A2,J',M2,d+1,p2,rfl,u2,u3,u4,.inr ⟨rfl,u5⟩⟩
structure Bds (k n:Nat) (E T:Nat->Nat):Prop where
 st:∀ d,d<k->St k n d (E d) (T d)
 up:∀ d,d<k->E d+(E d+1)*T d<=E (d+1)
theorem aQH {E T:Nat->Nat} (hk:k<1048576) (hn:n<1048576) (h:lZ o k n m A J M) (hw:Wd k n M) (hE:Big k n M (E 0)) (hb:Bds k n E T) :
  ∃ m' A' J' M' d p,dS m ((n:Int),()) A=some (m'.take d,A')/\d<=k/\lZ o k n m' A' J' M'/\Hn d M' p/\Same k M d M'/\Wd k n M'/\Big k n M' (E d):=by
 have fin:∀ (N:Nat) {m':List (Nat×Nat×Nat)} {A':List (List ByteArray)} {J':Nat->Nat} {M':Nat->V} {d t:Nat} {p:Nat->Nat},t<=n->n-t<N->lZ o k n m' A' J' M'->Fo k M M' d t p->Wd k n M'->Big k n M' (E d) ->
   ∃ z,bF bW N (m',(n:Int),(d:Int),(t:Int),A',())=some z/\∃ (m':List (Nat×Nat×Nat)) (A':List (List ByteArray)) (J':Nat->Nat) (M':Nat->V) (d:Nat) (p:Nat->Nat),z=(m',(d:Int),A',())/\lZ o k n m' A' J' M'/\(d<=k/\Hn d M' p/\Same k M d M')/\Wd k n M'/\Big k n M' (E d):=by
  intro N
  induction N with
  | zero=>intro m' A' J' M' d t p h1 h2; omega
  | succ N ih =>
   intro m' A' J' M' d t p h1 h2 hL hF hW hB;rw[bD];rcases oG t n with ht|ht
   ·have e1:ltI (t:Int) (n:Int)=true:=by rw[aI]; exact oT (by omega)
    rcases oG d k with hd|hd
    ·have e2:ltI (d:Int) (m'.length:Int)=true:=by rw[aI,hL.len]; exact oT (by omega)
     obtain⟨z,z1,m2,A2,J2,M2,d2,p2,rfl,y1,y2,y3,y4⟩:=column hk hn hL hF hW hd ht hB (hb.st d hd) (n:Int);have e3:=c8 t (by omega);have hs:bW (m',(n:Int),(d:Int),(t:Int),A',())=some (.inl (m2,(n:Int),(d2:Int),((t+1:Nat):Int),A2,())):=by simp only[bW,e1,e2,oC,z1,aC,e3]
     rw[hs];refine ih (by omega) (by omega) y1 y2 y3 ?_;rcases y4 with ⟨rfl,y4⟩|⟨rfl,y4⟩
     ·exact y4
     ·exact λi hi x hx=>oR (y4 i hi x hx) (hb.up d hd)
    ·have hdk:d=k:=by have:=hF.le; omega
     have e2:ltI (d:Int) (m'.length:Int)=false:=by rw[aI,hL.len]; exact oF (by omega)
     refine⟨_,by simp only[bW,e1,e2,oC,oD],m',A',J',M',d,p,rfl,hL,⟨hF.le,hF.hn (.inl hdk)⟩,hW,hB⟩
   ·have htn:t=n:=by omega
    subst htn;have e1:ltI (t:Int) (t:Int)=false:=by rw[aI]; exact oF (by omega)
    refine⟨_,by simp only[bW,e1,oD],m',A',J',M',d,p,rfl,hL,⟨hF.le,hF.hn (.inr λi hi x hx=>hW i hi x hx)⟩,hW,hB⟩
 obtain⟨z,z1,m',A',J',M',d,p,rfl,y1,⟨y2,y3,y4⟩,y5,y6⟩:=fin (2^64) (Nat.zero_le n) (by omega) h (Fo.start k M) hw hE;refine⟨m',A',J',M',d,p,?_,y2,y1,y3,y4,y5,y6⟩;have z2:gN (m,(n:Int),0,0,A,())=some (m',(d:Int),A',()):=z1;have e4:ltI (d:Int) 0=false:=by rw[aI]; exact oF (by omega)
 have e5:((d:Nat):Int).toNat=d:=oN _;have hl:=y1.len;unfold dS;simp only[z2,aC,hl,e4,e5,Bool.not_false,oC]
 by_cases hk0:k=0
 ·have hd0:d=0:=by omega
  subst hk0; subst hd0;have:m'=[]:=List.eq_nil_of_length_eq_zero hl;subst this;rfl
 ·have e6:Nat.beq k 0=false:=by
   cases k with
   | zero=>exact absurd rfl hk0
   | succ k=>rfl
  have e7:Nat.ble 0 d=true:=rfl;have e8:Nat.ble d k=true:=by rw[gP]; simpa using y2
  have e9:Nat.blt 0 k=true:=by rw[cE]; simp; omega
  simp only[e6,e7,e8,e9,oC,oD,Nat.sub_zero]
end
def AW(r:List Int):V:=λx=>r.getD x 0
def R0(m:List (List Int)):Nat->V:=λi=>AW (m.getD i [])
def Vr(n:Nat) (v:V):List Int:=(List.range n).map v
theorem aHX(r:List Int):Zr r.length (AW r)=r.map Zn:=by
 refine List.ext_getElem? λi=>?_
 simp only[Zr,List.getElem?_map]
 by_cases h:i<r.length
 ·rw[List.getElem?_range h,List.getElem?_eq_getElem h];simp[AW,List.getD,h]
 ·have h1:(List.range r.length)[i]?=none:=by simp; omega
  rw[h1,List.getElem?_eq_none (by omega)]; rfl
theorem QA(n:Int)(h:Lib.nDigits n.natAbs<=18):uD (Zn n,())=some (n,true,()):=by
 have hl:=M3 h;have hs:(Zn n).size<=1000000000:=by
  rcases(by omega:n<0\/0<=n)with g|g
  ·rw[wN g]; omega
  ·rw[EO g,yU]; omega
 have e1:Nat.ble (Zn n).size 1000000000=true:=by rw[gP]; simpa using hs
 have e2:eqI 10 10=true:=by decide
 have e3:eqI 64 64=true:=by decide
 have e4:Lib.parseIntB 64 (Zn n).data.toList=.ok n:=by
  have hne:∀ c r,Lib.decDigits n.natAbs=c::r->c.toNat≠43/\c.toNat≠45:=λc r he=>by
   have:=wD n.natAbs c (by rw[he]; simp);omega
  have hmag:=XW n.natAbs;rw[qH]at hmag;have hlen:(Lib.decDigits n.natAbs).length<=18:=by rw[Lib.decDigits_length]; exact h
  rw[Lib.parseIntB_64];rcases(by omega:n<0\/0<=n)with g|g
  ·have hn : -(n.natAbs:Int)=n:=by omega
   rw[EX g,Lib.atoiAll_minus,Lib.signed_short hlen,hmag];simp only[Option.map_some,hn];rfl
  ·have hn:(n.natAbs:Int)=n:=by omega
   rw[EO g,qH];cases he:Lib.decDigits n.natAbs with
   | nil=>exact absurd he (uW _)
   | cons c r =>
    obtain⟨h1,h2⟩:=hne c r he;rw[Lib.atoiAll_plain c r h1 h2,<- he,Lib.signless_short hlen,hmag];simp only[Option.map_some,hn];rfl
 unfold uD l7;simp only[e1,e2,e3,Bool.and_self,oC,e4,aC]
theorem QV(r:List Int)(hl:r.length<=1048576)(hr:∀ a∈r,-9223372036854775808<=a/\a<9223372036854775808) :
  lH ([],r,(r.length:Int),0,())=some (r.map Zn,()):=by
 have key:=c7 (step:=jE) (N:=2^64) (λt=>((r.take t).map Zn,r,(r.length:Int),(t:Int),())) r.length (r.map Zn,()) (by omega) (λt ht=>?_) ?_
 ·exact key
 ·have e1:ltI (t:Int) (r.length:Int)=true:=by rw[aI]; exact oT (by omega)
  have e2:aN (t:Int) r.length=true:=by rw[aX]; exact oT (by omega)
  have e3:((t:Nat):Int).toNat=t:=oN _;have e4:r.getD t 0=r[t]:=by simp[List.getD,ht]
  obtain⟨b1,b2⟩:=hr r[t] (List.getElem_mem ht);have e5:=nG r[t] b1 b2;have e6:Nat.ble [Zn r[t]].length 1048576=true:=rfl;have e7:Nat.ble ((r.take t).map Zn).length 1048576=true:=by rw[gP,List.length_map,List.length_take]; exact oT (by omega)
  have e8:=c8 t (by omega);have e9:(r.take t).map Zn++[Zn r[t]]=(r.take (t+1)).map Zn:=by rw[List.take_succ_eq_append_getElem ht,List.map_append]; rfl
  simp only[jE,e1,e2,e3,e4,e5,aC,e6,e7,oC,e8,e9]
 ·have e1:ltI (r.length:Int) (r.length:Int)=false:=by rw[aI]; exact oF (by omega)
  simp only[jE,e1,oD,List.take_length]
theorem YE(r:List Int)(hl:r.length<=1048576)(hr:∀ a∈r,-9223372036854775808<=a/\a<9223372036854775808):jN (r,())=some (r.map Zn):=by
 have e1:ltI (r.length:Int) 0=false:=by rw[aI]; exact oF (by omega)
 have e2:ltI 1048576 (r.length:Int)=false:=by rw[aI]; exact oF (by omega)
 unfold jN;simp only[e1,e2,Bool.not_false,oC,List.replicate_zero,QV r hl hr,aC]
theorem aG8(rows:List (List Int)) {n:Nat} (hk:rows.length<1048576) (hn:n<1048576) (hlen:∀ r∈rows,r.length=n) (hr:∀ r∈rows,∀ a∈r,-9223372036854775808<=a/\a<9223372036854775808) :
  ∃ m A,fZ () (rows,()) []=some (m,A)/\lZ 0 rows.length n m A (λi=>i) (R0 rows):=by
 have key:=c7 (step:=eT) (N:=2^64)
  (λt=>((List.range t).map (λi=>(i,0,n)),rows,(rows.length:Int),(t:Int),(rows.take t).map (·.map Zn),())) rows.length ((List.range rows.length).map (λi=>(i,0,n)),rows.map (·.map Zn),()) (by omega) (λt ht=>?_) ?_
 ·refine⟨(List.range rows.length).map (λi=>(i,0,n)),rows.map (·.map Zn),?_,rfl,λi hi=>⟨[],rfl,?_⟩,λi j _ _ h=>h⟩
  ·unfold fZ jS;have key:bF eT (2^64) ([],rows,(rows.length:Int),0,[],())=_:=key;simp only[key,aC]
  ·rw[List.getElem?_map,List.getElem?_eq_getElem hi];simp only[Option.map_some,List.nil_append]
   congr 1
   have h1:R0 rows i=AW rows[i]:=by unfold R0; simp[List.getD,hi]
   rw[h1,<- aHX,hlen rows[i] (List.getElem_mem hi)]
 ·have e1:ltI (t:Int) (rows.length:Int)=true:=by rw[aI]; exact oT (by omega)
  have e2:aN (t:Int) rows.length=true:=by rw[aX]; exact oT (by omega)
  have e3:((t:Nat):Int).toNat=t:=oN _;have e4:rows.getD t []=rows[t]:=by simp[List.getD,ht]
  have hm:=List.getElem_mem ht;have e5:=YE rows[t] (by rw[hlen _ hm]; omega) (hr _ hm);have e6:((rows.take t).map (·.map Zn)).length=t:=by rw[List.length_map,List.length_take]; omega
  have e7:Nat.ble [(t,0,n)].length 1048576=true:=rfl;have e8:Nat.ble ((List.range t).map (λi=>(i,0,n))).length 1048576=true:=by rw[gP,List.length_map,List.length_range]; exact oT (by omega)
  have e9:=c8 t (by omega);have e10:(rows[t].map Zn).length=n:=by rw[List.length_map,hlen _ hm]
  have e11:(rows.take t).map (·.map Zn)++[rows[t].map Zn]=(rows.take (t+1)).map (·.map Zn):=by rw[List.take_succ_eq_append_getElem ht,List.map_append]; rfl
  have e12:(List.range t).map (λi=>(i,0,n))++[(t,0,n)]=(List.range (t+1)).map (λi=>(i,0,n)):=by rw[List.range_succ,List.map_append]; rfl
  simp only[eT,e1,e2,e3,e4,e5,aC,e6,e7,e8,e9,e10,e11,e12,oC]
 ·have e1:ltI (rows.length:Int) (rows.length:Int)=false:=by rw[aI]; exact oF (by omega)
  simp only[eT,e1,oD,List.take_length]
theorem aK7 {A:List (List ByteArray)} {J o n:Nat} {v:V} {pre:List ByteArray} (hn:n<1048576) (hp:pre.length=o) (hJ:A[J]?=some (pre++Zr n v)) (ok:∀ x,x<n->(v x).natAbs<=1000000000) :
  eV () ((J,o,n),()) A=some ((Vr n v,0,()),A):=by
 have key:=c7 (step:=dK) (N:=2^64) (λt=>(Vr t v,(J,o,n),(n:Int),(t:Int),A,())) n (.inr (Vr n v,A,())) (by omega) (λt ht=>?_) ?_
 ·have e1:ltI (n:Int) 0=false:=by rw[aI]; exact oF (by omega)
  have e2:ltI 1048576 (n:Int)=false:=by rw[aI]; exact oF (by omega)
  have key:bF dK (2^64) ([],(J,o,n),(n:Int),0,A,())=_:=key;unfold eV iR;simp only[e1,e2,Bool.not_false,oC,List.replicate_zero,key,aC,iT]
 ·have b1:=ok t ht;have e1:ltI (t:Int) (n:Int)=true:=by rw[aI]; exact oT (by omega)
  have e2:aN (t:Int) n=true:=by rw[aX]; exact oT (by omega)
  have e3:(o+((t:Nat):Int).toNat)*1=o+t:=by simp
  have e4:dF A J=o+n:=by rw[dF,NL _ hJ,oH,iV,hp]
  have e6:Nat.blt (o+t) (o+n)=true:=by rw[cE]; simpa using ht
  have e7:fG A J (o+t) ByteArray.empty=Zn (v t):=by rw[fG,NL _ hJ,GV hp,AM _ ht]
  have e8:=QA (v t) (by have:=jH (u:=(v t).natAbs) (k:=17) (by omega); omega);have e9:ltI 1000000000 (v t)=false:=by rw[aI]; exact oF (by omega)
  have e10:ltI (v t) (-1000000000)=false:=by rw[aI]; exact oF (by omega)
  have e11:Nat.ble [v t].length 1048576=true:=rfl;have e12:Nat.ble (Vr t v).length 1048576=true:=by rw[gP]; unfold Vr; rw[List.length_map,List.length_range]; exact oT (by omega)
  have e13:=c8 t (by omega);have e14:Vr t v++[v t]=Vr (t+1) v:=by unfold Vr; rw[List.range_succ,List.map_append]; rfl
  simp only[dK,e1,e2,e3,e4,e6,e7,e8,e9,e10,e11,e12,e13,e14,aC,oC,oD]
 ·have e1:ltI (n:Int) (n:Int)=false:=by rw[aI]; exact oF (by omega)
  simp only[dK,e1,oD]
theorem aMT {o k d n:Nat} {m:List (Nat×Nat×Nat)} {A:List (List ByteArray)} {J:Nat->Nat} {M:Nat->V} (h:lZ o k n m A J M) (hd:d<=k) (hk:k<1048576) (hn:n<1048576) (ok:∀ i,i<d->∀ x,x<n->(M i x).natAbs<=1000000000) (cols:Int) :
  dU (m.take d) (cols,()) A=some (((cols,(List.range d).map λi=>Vr n (M i)),0,()),A):=by
 have hl:(m.take d).length=d:=by rw[List.length_take,h.len]; omega
 have hg:∀ t,t<d->(m.take d).getD t (0,0,0)=(J t,o,n):=λt ht=>by
  rw[<- h.get (show t<k by omega)];simp[List.getD,List.getElem?_take,ht]
 have key:=c7 (step:=cV) (N:=2^64)
  (λt=>((0,([],())),(cols,((List.range t).map (λi=>Vr n (M i)),())),m.take d,((m.take d).length:Int),(t:Int),A,())) d (.inr ((0,([],())),(cols,((List.range d).map (λi=>Vr n (M i)),())),A,())) (by omega) (λt ht=>?_) ?_
 ·have key:bF cV (2^64) ((0,([],())),(cols,([],())),m.take d,((m.take d).length:Int),0,A,())=_:=key;unfold dU gO;simp only[key,aC,iT]
 ·rw[hl];obtain⟨pre,h1,h2⟩:=h.at_ t (by omega);have e1:ltI (t:Int) (d:Int)=true:=by rw[aI]; exact oT (by omega)
  have e2:aN (t:Int) d=true:=by rw[aX]; exact oT (by omega)
  have e3:((t:Nat):Int).toNat=t:=oN _;have e4:Nat.blt t d=true:=by rw[cE]; simpa using ht
  have e5:=aK7 hn h1 h2 (ok t ht);have e6:eqI 0 0=true:=by decide
  have e7:Nat.ble [Vr n (M t)].length 1048576=true:=rfl;have e8:Nat.ble ((List.range t).map (λi=>Vr n (M i))).length 1048576=true:=by rw[gP,List.length_map,List.length_range]; exact oT (by omega)
  have e9:=c8 t (by omega);have e10:(List.range t).map (λi=>Vr n (M i))++[Vr n (M t)]=(List.range (t+1)).map (λi=>Vr n (M i)):=by rw[List.range_succ,List.map_append]; rfl
  simp only[cV,hl,e1,e2,e3,e4,hg t ht,e5,e6,e7,e8,e9,e10,aC,oC,Bool.not_true,oD]
 ·rw[hl];have e1:ltI (d:Int) (d:Int)=false:=by rw[aI]; exact oF (by omega)
  simp only[cV,e1,oD]
theorem FG(r:List Int) (hl:r.length<=64) (hr:∀ a∈r,a.natAbs<=1000000000):sP (r,())=some (0,()):=by
 have key:=c7 (step:=cC) (N:=2^64) (λt=>(r,(),(r.length:Int),(t:Int),())) r.length (.inr ()) (by omega) (λt ht=>?_) ?_
 ·have key:bF cC (2^64) (r,(),(r.length:Int),0,())=some (.inr ()):=key;have e1:ltI 64 (r.length:Int)=false:=by rw[aI]; exact oF (by omega)
  have e2:ltI (-1) 0=true:=by decide
  simp only[sP,e1,oD,iF,jK,gF,key,aC,iT,e2,Bool.not_true]
 ·have e1:ltI (t:Int) (r.length:Int)=true:=by rw[aI]; exact oT (by omega)
  have e2:aN (t:Int) r.length=true:=by rw[aX]; exact oT (by omega)
  have e3:((t:Nat):Int).toNat=t:=oN _;have e4:r.getD t 0=r[t]:=by simp[List.getD,ht]
  have b:=hr r[t] (List.getElem_mem ht);have e5:ltI r[t] (-1000000000)=false:=by rw[aI]; exact oF (by omega)
  have e6:ltI 1000000000 r[t]=false:=by rw[aI]; exact oF (by omega)
  have e7:=c8 t (by omega);simp only[cC,e1,e2,e3,e4,EZ,PO,e5,e6,aC,Bool.not_false,oC,oD,e7]
 ·have e1:ltI (r.length:Int) (r.length:Int)=false:=by rw[aI]; exact oF (by omega)
  simp only[cC,e1,oD]
theorem Q9(rows:List (List Int)){n:Nat}(hk:rows.length<1048576)(hn:n<=64)(hlen:∀ r∈rows,r.length=n)(hr:∀ r∈rows,∀ a∈r,a.natAbs<=1000000000):pO (rows,(n:Int),())=some (0,()):=by
 have key:=c7 (step:=lG) (N:=2^64) (λt=>((n:Int),rows,(rows.length:Int),(t:Int),())) rows.length (.inr ()) (by omega) (λt ht=>?_) ?_
 ·have key:bF lG (2^64) ((n:Int),rows,(rows.length:Int),0,())=some (.inr ()):=key;simp only[pO,sR,key,aC,iT]
 ·have e1:ltI (t:Int) (rows.length:Int)=true:=by rw[aI]; exact oT (by omega)
  have e2:aN (t:Int) rows.length=true:=by rw[aX]; exact oT (by omega)
  have e3:((t:Nat):Int).toNat=t:=oN _;have e4:rows.getD t []=rows[t]:=by simp[List.getD,ht]
  have hm:=List.getElem_mem ht;have e5:=FG rows[t] (by rw[hlen _ hm]; exact hn) (hr _ hm);have e6:eqI 0 0=true:=by decide
  have e7:eqI (rows[t].length:Int) (n:Int)=true:=by rw[dE,hlen _ hm]; exact oT rfl
  have e8:=c8 t (by omega);simp only[lG,e1,e2,e3,e4,e5,aC,e6,e7,e8,Bool.not_true,oC,oD]
 ·have e1:ltI (rows.length:Int) (rows.length:Int)=false:=by rw[aI]; exact oF (by omega)
  simp only[lG,e1,oD]
theorem aBQ(rows:List (List Int)){n:Nat}(hk:rows.length<=12)(hn:n<=12)(hlen:∀ r∈rows,r.length=n)(hr:∀ r∈rows,∀ a∈r,a.natAbs<=1000000000):qV ((n:Int),rows,())=some (0,()):=by
 have e1:ltI (n:Int) 0=false:=by rw[aI]; exact oF (by omega)
 have e2:ltI 12 (n:Int)=false:=by rw[aI]; exact oF (by omega)
 have e3:ltI 12 (rows.length:Int)=false:=by rw[aI]; exact oF (by omega)
 simp only[qV,e1,e2,e3,oD,Q9 rows (by omega) (by omega) hlen hr,aC]
theorem of_eq(rows:List (List Int)) {n:Nat} (hk:rows.length<=12) (hn:n<=12) (hlen:∀ r∈rows,r.length=n) {E T:Nat->Nat} (hr:∀ r∈rows,∀ a∈r,a.natAbs<=E 0) (hE:E 0<=1000000000) (hb:Bds rows.length n E T)
  (hfin:∀ d M p,d<=rows.length->Hn d M p->Same rows.length (R0 rows) d M->(∀ i,i<d->∀ x,n<=x->M i x=0)->∀ i,i<d->∀ x,x<n->(M i x).natAbs<=1000000000) :
  ∃ d M p,nY ((n:Int),rows,())=some (((n:Int),(List.range d).map λi=>Vr n (M i)),0,())/\d<=rows.length/\Hn d M p/\Same rows.length (R0 rows) d M/\(∀ i,i<d->∀ x,n<=x->M i x=0)/\∀ i,i<d->∀ x,x<n->(M i x).natAbs<=1000000000:=by
 obtain⟨m,A,h1,h2⟩:=aG8 rows (n:=n) (by omega) (by omega) hlen (λr h a ha=>by have:=hr r h a ha; omega);have hrow:∀ i,i<rows.length->∃ r,r∈rows/\R0 rows i=AW r:=λi hi=>⟨rows[i],List.getElem_mem hi,by unfold R0; simp[List.getD,hi]⟩
 have hw:Wd rows.length n (R0 rows):=λi hi x hx=>by
  obtain⟨r,hr1,hr2⟩:=hrow i hi;rw[hr2]; unfold AW;have:=hlen r hr1;simp[List.getD,List.getElem?_eq_none (show r.length<=x by omega)]
 have hB:Big rows.length n (R0 rows) (E 0):=λi hi x hx=>by
  obtain⟨r,hr1,hr2⟩:=hrow i hi;rw[hr2]; unfold AW;have hl:=hlen r hr1;have:r.getD x 0=r[x]'(by omega):=by simp[List.getD,show x<r.length by omega]
  rw[this];exact hr r hr1 _ (List.getElem_mem _)
 obtain⟨m',A',J',M',d,p,g1,g2,g3,g4,g5,g6,g7⟩:=aQH (by omega) (by omega) h2 hw hB hb;have hwd:∀ i,i<d->∀ x,n<=x->M' i x=0:=λi hi x hx=>g6 i (by omega) x hx
 have hf:=hfin d M' p g2 g4 g5 hwd;refine⟨d,M',p,?_,g2,g4,g5,hwd,hf⟩;have e0:eqI 0 0=true:=by decide
 simp only[nY,aBQ rows hk hn hlen (λr h a ha=>oR (hr r h a ha) hE),aC,e0,Bool.not_true,oD,h1,g1,aMT g3 g2 (by omega) (by omega) hf (n:Int)]
theorem zF(n:Nat)(v:V):(Vr n v).length=n:=by simp[Vr]
theorem aAR {n i:Nat}(v:V)(h:i<n):(Vr n v).getD i 0=v i:=by simp[Vr,List.getD,h]
theorem aNO {n:Nat}{v:V}{B:Nat}(h:∀ x,x<n->(v x).natAbs<=B):∀ a∈Vr n v,a.natAbs<=B:=by
 intro a ha;obtain⟨x,hx,rfl⟩:=List.mem_map.1 ha;exact h x (List.mem_range.1 hx)
def Mr(d n:Nat) (M:Nat->V):List (List Int):=(List.range d).map λi=>Vr n (M i)
theorem DR(d n:Nat)(M:Nat->V):(Mr d n M).length=d:=by simp[Mr]
theorem aPC {d n i:Nat}(M:Nat->V)(h:i<d)(z:List Int):(Mr d n M).getD i z=Vr n (M i):=by simp[Mr,List.getD,h]
theorem aNM {d n:Nat}{M:Nat->V}{r:List Int}(h:r∈Mr d n M):∃ i,i<d/\r=Vr n (M i):=by
 obtain⟨i,hi,rfl⟩:=List.mem_map.1 h;exact⟨i,List.mem_range.1 hi,rfl⟩
theorem aM2(r:List Int)(hl:r.length<1048576)(hr:∀ a∈r,a.natAbs<=1000000000):eR (r,(),())=some (false,()):=by
 have key:=c7 (step:=cD) (N:=2^64) (λt=>(r,(),(r.length:Int),(t:Int),())) r.length (.inr ()) (by omega) (λt ht=>?_) ?_
 ·have key:bF cD (2^64) (r,(),(r.length:Int),0,())=some (.inr ()):=key;have e2:ltI (-1) 0=true:=by decide
  simp only[eR,jI,gJ,key,aC,iT,e2,Bool.not_true]
 ·have e1:ltI (t:Int) (r.length:Int)=true:=by rw[aI]; exact oT (by omega)
  have e2:aN (t:Int) r.length=true:=by rw[aX]; exact oT (by omega)
  have e3:((t:Nat):Int).toNat=t:=oN _;have e4:r.getD t 0=r[t]:=by simp[List.getD,ht]
  have b:=hr r[t] (List.getElem_mem ht);have e5:ltI r[t] (-1000000000)=false:=by rw[aI]; exact oF (by omega)
  have e6:ltI 1000000000 r[t]=false:=by rw[aI]; exact oF (by omega)
  have e7:=c8 t (by omega);simp only[cD,e1,e2,e3,e4,FQ,e5,e6,aC,oC,oD,e7]
 ·have e1:ltI (r.length:Int) (r.length:Int)=false:=by rw[aI]; exact oF (by omega)
  simp only[cD,e1,oD]
theorem S0(rows:List (List Int)){n:Nat}(hk:rows.length<=12)(hn:n<=12)(hlen:∀ r∈rows,r.length=n)(hr:∀ r∈rows,∀ a∈r,a.natAbs<=1000000000):zE (rows,())=some (0,()):=by
 have key:=c7 (step:=lY) (N:=2^64) (λt=>(rows,rows,(rows.length:Int),(t:Int),())) rows.length (.inr ()) (by omega) (λt ht=>?_) ?_
 ·have key:bF lY (2^64) (rows,rows,(rows.length:Int),0,())=some (.inr ()):=key;have e1:ltI 12 (rows.length:Int)=false:=by rw[aI]; exact oF (by omega)
  simp only[zE,uE,e1,oD,key,aC,iT]
 ·have e1:ltI (t:Int) (rows.length:Int)=true:=by rw[aI]; exact oT (by omega)
  have e2:aN (t:Int) rows.length=true:=by rw[aX]; exact oT (by omega)
  have e3:((t:Nat):Int).toNat=t:=oN _;have e4:rows.getD t []=rows[t]:=by simp[List.getD,ht]
  have e4':rows.getD 0 []=rows[0]:=by simp[List.getD,show 0<rows.length by omega]
  have hm:=List.getElem_mem ht;have hm0:=List.getElem_mem (show 0<rows.length by omega);have e5:ltI 12 (rows[t].length:Int)=false:=by rw[aI,hlen _ hm]; exact oF (by omega)
  have e6:aN 0 rows.length=true:=by rw[aX]; exact oT (by omega)
  have e7:eqI (rows[t].length:Int) (rows[0].length:Int)=true:=by rw[dE,hlen _ hm,hlen _ hm0]; exact oT rfl
  have e8:=aM2 rows[t] (by rw[hlen _ hm]; omega) (hr _ hm);have e9:=c8 t (by omega);simp only[lY,e1,e2,e3,e4,e4',e5,e6,e7,e8,e9,aC,Bool.not_true,oC,oD]
 ·have e1:ltI (rows.length:Int) (rows.length:Int)=false:=by rw[aI]; exact oF (by omega)
  simp only[lY,e1,oD]
theorem aOA {n c:Nat} {v:V} (hn:n<1048576) (hc:c<n) (hz:∀ x,x<c->v x=0) (hp:v c≠0):uF (Vr n v,())=some ((c:Int),()):=by
 have hl:=zF n v;have key:=c7 (step:=cB) (N:=2^64) (λt=>(Vr n v,(),(n:Int),(t:Int),())) c (.inl ((c:Int),())) (by omega) (λt ht=>?_) ?_
 ·have key:bF cB (2^64) (Vr n v,(),(n:Int),0,())=some (.inl ((c:Int),())):=key;simp only[uF,jG,gL,hl,key,aC,zJ]
 ·have e1:ltI (t:Int) (n:Int)=true:=by rw[aI]; exact oT (by omega)
  have e2:aN (t:Int) n=true:=by rw[aX]; exact oT (by omega)
  have e3:((t:Nat):Int).toNat=t:=oN _;have e4:(Vr n v).getD t 0=0:=by rw[aAR v (by omega)]; exact hz t ht
  have e5:eqI 0 0=true:=by decide
  have e9:=c8 t (by omega);simp only[cB,hl,e1,e2,e3,e4,rM,e5,e9,aC,Bool.not_true,oC,oD]
 ·have e1:ltI (c:Int) (n:Int)=true:=by rw[aI]; exact oT (by omega)
  have e2:aN (c:Int) n=true:=by rw[aX]; exact oT (by omega)
  have e3:((c:Nat):Int).toNat=c:=oN _;have e4:eqI ((Vr n v).getD c 0) 0=false:=by rw[aAR v hc,dE]; exact oF hp
  simp only[cB,hl,e1,e2,e3,rM,e4,aC,Bool.not_false,oC]
theorem aQV {n c:Nat}{v:V}(hn:n<1048576)(hc:c<n)(hz:∀ x,x<c->v x=0)(hp:v c≠0):k7 (Zr n v,())=some ((c:Int),()):=by
 have hl:=iV n v;have key:=c7 (step:=bE) (N:=2^64) (λt=>(Zr n v,(),(n:Int),(t:Int),())) c (.inl ((c:Int),())) (by omega) (λt ht=>?_) ?_
 ·have key:bF bE (2^64) (Zr n v,(),(n:Int),0,())=some (.inl ((c:Int),())):=key;simp only[k7,eZ,dW,hl,key,aC,zJ]
 ·have e1:ltI (t:Int) (n:Int)=true:=by rw[aI]; exact oT (by omega)
  have e2:aN (t:Int) n=true:=by rw[aX]; exact oT (by omega)
  have e3:((t:Nat):Int).toNat=t:=oN _;have e4:eqS ((Zr n v).getD t ByteArray.empty) (ByteArray.mk #[48])=true:=by rw[AM v (by omega),vY]; exact oT (hz t ht)
  have e9:=c8 t (by omega);simp only[bE,hl,e1,e2,e3,l4,e4,e9,aC,Bool.not_true,oC,oD]
 ·have e1:ltI (c:Int) (n:Int)=true:=by rw[aI]; exact oT (by omega)
  have e2:aN (c:Int) n=true:=by rw[aX]; exact oT (by omega)
  have e3:((c:Nat):Int).toNat=c:=oN _;have e4:eqS ((Zr n v).getD c ByteArray.empty) (ByteArray.mk #[48])=false:=by rw[AM v hc,vY]; exact oF hp
  simp only[bE,hl,e1,e2,e3,l4,e4,aC,Bool.not_false,oC]
theorem Hn.VP {d n:Nat} {M:Nat->V} {p:Nat->Nat} (h:Hn d M p) (hw:∀ i,i<d->∀ x,n<=x->M i x=0) {i:Nat} (hi:i<d):p i<n:=by
 rcases oG (p i) n with g|g
 ·exact g
 ·have:=hw i hi _ g;have:=h.pos i hi;omega
theorem aMZ {d n t:Nat}{M:Nat->V}{p:Nat->Nat}(h:Hn d M p)(hw:∀ i,i<d->∀ x,n<=x->M i x=0)(hd:d<1048576)(hn:n<1048576)(ht:t<d) :
  cI (Mr t n M,((p t:Int),Vr n (M t),()),())=some (false,()):=by
 have hl:=DR t n M;have hp:=Hn.VP h hw ht;have key:=c7 (step:=bH) (N:=2^64) (λs=>(Mr t n M,((p t:Int),Vr n (M t),()),(t:Int),(s:Int),())) t (.inr ()) (by omega) (λs hs=>?_) ?_
 ·have key:bF bH (2^64) (Mr t n M,((p t:Int),Vr n (M t),()),(t:Int),0,())=some (.inr ()):=key;have e2:ltI (-1) 0=true:=by decide
  simp only[cI,fR,eH,hl,key,aC,iT,e2,Bool.not_true]
 ·have e1:ltI (s:Int) (t:Int)=true:=by rw[aI]; exact oT (by omega)
  have e2:aN (s:Int) t=true:=by rw[aX]; exact oT (by omega)
  have e3:∀ a:Nat,((a:Nat):Int).toNat=a:=λa=>oN _
  have e4:=aPC (n:=n) M hs [];have e5:aN (p t:Int) n=true:=by rw[aX]; exact oT (by omega)
  obtain⟨r1,r2⟩:=h.red s t hs ht;have e6:ltI (M s (p t)) 0=false:=by rw[aI]; exact oF (by omega)
  have e7:ltI (M s (p t)) (M t (p t))=true:=by rw[aI]; exact oT r2
  have e9:=c8 s (by omega);simp only[bH,hl,e1,e2,e3,e4,sU,zF,e5,aAR _ hp,e6,e7,e9,aC,Bool.not_true,oC,oD]
 ·have e1:ltI (t:Int) (t:Int)=false:=by rw[aI]; exact oF (by omega)
  simp only[bH,e1,oD]
theorem aIV {d n:Nat}{M:Nat->V}{p:Nat->Nat}(h:Hn d M p)(hw:∀ i,i<d->∀ x,n<=x->M i x=0)(hd:d<1048576)(hn:n<1048576):sK (Mr d n M,())=some (true,()):=by
 have hl:=DR d n M;obtain⟨q,hq⟩:∃ q:Nat->Int,q=λt=>if t=0 then -1 else (p (t-1):Int):=⟨_,rfl⟩
 have key:=c7 (step:=jZ) (N:=2^64) (λt=>(Mr d n M,q t,Mr d n M,(d:Int),(t:Int),())) d (.inr ()) (by omega) (λt ht=>?_) ?_
 ·have q0:q 0 = -1:=by rw[hq]; rfl
  rw[q0]at key;have key:bF jZ (2^64) (Mr d n M,-1,Mr d n M,(d:Int),0,())=some (.inr ()):=key;simp only[sK,qS,hl,key,aC,iT]
 ·have hp:=Hn.VP h hw ht;have e1:ltI (t:Int) (d:Int)=true:=by rw[aI]; exact oT (by omega)
  have e2:aN (t:Int) d=true:=by rw[aX]; exact oT (by omega)
  have e3:∀ a:Nat,((a:Nat):Int).toNat=a:=λa=>oN _
  have e4:=aPC (n:=n) M ht [];have e5:=aOA hn hp (h.low t ht) (by have:=h.pos t ht; omega);have e6:ltI (q t) (p t:Int)=true:=by
   rw[aI,hq];dsimp only;split
   ·exact oT (by omega)
   ·have:=h.inc (t-1) t (by omega) ht;exact oT (by omega)
  have e7:aN (p t:Int) n=true:=by rw[aX]; exact oT (by omega)
  have e8:ltI (M t (p t)) 0=false:=by rw[aI]; exact oF (by have:=h.pos t ht; omega)
  have e9:ltI (t:Int) 0=false:=by rw[aI]; exact oF (by omega)
  have e10:Nat.ble 0 t=true:=rfl;have e11:Nat.ble t d=true:=by rw[gP]; exact oT (by omega)
  have e12:((Mr d n M).drop 0).take (t-0)=Mr t n M:=by
   rw[List.drop_zero,Nat.sub_zero];unfold Mr;rw[<- List.map_take,List.take_range,Nat.min_eq_left (by omega)]
  have e13:=aMZ h hw hd hn ht;have e14:=c8 t (by omega);have e15:q (t+1)=(p t:Int):=by rw[hq]; simp
  simp only[jZ,hl,e1,e2,e3,e4,e5,aC,e6,zF,e7,aAR _ hp,e8,e9,e10,e11,e12,e13,e14,e15,Bool.not_true,Bool.not_false,oC,oD]
 ·have e1:ltI (d:Int) (d:Int)=false:=by rw[aI]; exact oF (by omega)
  simp only[jZ,e1,oD]
theorem aLK {d n:Nat} {M:Nat->V} {p:Nat->Nat} (h:Hn d M p) (hw:∀ i,i<d->∀ x,n<=x->M i x=0) (hd:d<=12) (hn:n<=12) (hM:∀ i,i<d->∀ x,x<n->(M i x).natAbs<=1000000000):uA (((n:Int),Mr d n M),())=some (0,()):=by
 have hlen:∀ r∈Mr d n M,r.length=n:=λr hr=>by
  obtain⟨i,_,rfl⟩:=aNM hr;exact zF _ _
 have hr:∀ r∈Mr d n M,∀ a∈r,a.natAbs<=1000000000:=λr hr=>by
  obtain⟨i,hi,rfl⟩:=aNM hr;exact aNO (hM i hi)
 have e0:eqI 0 0=true:=by decide
 have c1:=aBQ (Mr d n M) (n:=n) (by rw[DR]; exact hd) hn hlen hr;have c2:=S0 (Mr d n M) (n:=n) (by rw[DR]; exact hd) hn hlen hr;simp only[uA,c1,aC,e0,Bool.not_true,oD,xP,c2,aIV h hw (by omega) (by omega),oC]
theorem aC5 {d n:Nat}{M:Nat->V}{p:Nat->Nat}(h:Hn d M p)(hw:∀ i,i<d->∀ x,n<=x->M i x=0)(hd:d<=12)(hn:n<=12)(hM:∀ i,i<d->∀ x,x<n->(M i x).natAbs<=1000000000)(r:List Int)(hl:r.length=n)(hr:∀ a∈r,a.natAbs<=1000000000) :
  qE (((n:Int),Mr d n M),r,())=some (0,()):=by
 have e0:eqI 0 0=true:=by decide
 have e1:eqI (r.length:Int) (n:Int)=true:=by rw[dE,hl]; exact oT rfl
 simp only[qE,aLK h hw hd hn hM,aC,e0,Bool.not_true,oD,FG r (by omega) hr,e1]
theorem aM4 {n:Nat} {u v:V} {q:Int} (hn:n<1048576) (ok:S9 n u v q):aF6 (t:=.str) eC (Zr n u) (Zn q,Zr n v,())=some (Zr n λx=>u x-q*v x):=by
 have hl:=iV n u;have main:eC () ((0,0,n),Zn q,Zr n v,()) [Zr n u]=some ((),[Zr n λx=>u x-q*v x]):=by
  unfold eC;simp only[vY]
  by_cases hq:q=0
  ·subst hq;simp only[decide_true,oC];have:Zr n (λx=>u x-0*v x)=Zr n u:=wH λi _=>by simp
   rw[this]
  ·have key:=c7 (step:=eG) (N:=2^64)
    (λt=>((0,0,n),Zn q,Zr n v,(n:Int),(t:Int),[Zr n λx=>if x<t then u x-q*v x else u x],())) n ([Zr n λx=>u x-q*v x],()) (by omega) (λt ht=>?_) ?_
   ·have h0:Zr n (λx=>if x<0 then u x-q*v x else u x)=Zr n u:=wH λi _=>by simp
    simp only[h0]at key;have key:bF eG (2^64) ((0,0,n),Zn q,Zr n v,(n:Int),0,[Zr n u],())=_:=key;simp only[hq,decide_false,oD,jC,iV,key,aC]
   ·have e1:ltI (t:Int) (n:Int)=true:=by rw[aI]; exact oT (by omega)
    have e2:aN (t:Int) n=true:=by rw[aX]; exact oT (by omega)
    have e3:(0+t)*1=t:=by omega
    have e3':((t:Nat):Int).toNat=t:=oN _;have e4:dF [Zr n λx=>if x<t then u x-q*v x else u x] 0=n:=by
     show (Zr n _).length=n;exact iV _ _
    have e6:Nat.blt t n=true:=by rw[cE]; simpa using ht
    have e7:fG [Zr n λx=>if x<t then u x-q*v x else u x] 0 t ByteArray.empty=Zn (u t):=by
     show (Zr n _).getD t _=_;rw[AM _ ht]; simp
    have e9:vM [Zr n λx=>if x<t then u x-q*v x else u x] 0 t (Zn (u t-q*v t))=[Zr n λx=>if x<t+1 then u x-q*v x else u x]:=by
     show [(Zr n _).set t _]=_;rw[aFD u (λx=>u x-q*v x) t ht]
    have m1:=XD q (v t) (ok.mul t ht);have m2:=W9 (u t) (q*v t) (ok.sub t ht) (by rw[Int.natAbs_mul]; exact oR (QZ _ _) (ok.mul t ht));have e10:=c8 t (by omega);simp only[eG,e1,oC,e2,e3',e3,e6,e4,e7,iV,AM v ht,m1,aC,m2,e9,e10]
   ·have e1:ltI (n:Int) (n:Int)=false:=by rw[aI]; exact oF (by omega)
    have:Zr n (λx=>if x<n then u x-q*v x else u x)=Zr n λx=>u x-q*v x:=wH λi hi=>by simp[hi]
    simp only[eG,e1,oD,this]
 have e1:Nat.beq (Zr n λx=>u x-q*v x).length (Zr n u).length=true:=by
  have hbb:∀ a:Nat,Nat.beq a a=true:=λa=>by
   induction a with
   | zero=>rfl
   | succ a ih=>exact ih
  rw[iV,iV];exact hbb n
 unfold aF6;rw[hl,main];simp only[hl,iV]at e1 ⊢;rw[e1]; rfl
def red(M:Nat->V) (p:Nat->Nat):Nat->V->V
 | 0,u=>u
 | t+1,u=>λx=>red M p t u x-(red M p t u (p t)).fdiv (M t (p t))*M t x
def quo(M:Nat->V)(p:Nat->Nat)(t:Nat)(u:V):Int:=(red M p t u (p t)).fdiv (M t (p t))
section
variable {d n:Nat} {M:Nat->V} {p:Nat->Nat}
theorem aBX(h:Hn d M p)(u:V):∀ t,t<=d->Sp d M (λx=>u x-red M p t u x)
 | 0,_=>by
  refine cast (oZ _ ?_) Sp.zero
  funext x; simp[red]
 | t+1,ht=>by
  have:=Sp.comb (quo M p t u) (aBX h u t (by omega)) (Sp.mem (M:=M) (show t<d by omega));refine cast (oZ _ ?_) this
  funext x
  simp only[red,quo];grind
theorem aO8(h:Hn d M p)(u:V):∀ t,t<=d->∀ i,i<t->0<=red M p t u (p i)/\red M p t u (p i)<M i (p i)
 | 0,_,i,hi=>by omega
 | t+1,ht,i,hi=>by
  by_cases e:i=t
  ·subst e;simp only[red];rw[MZ];have hp:=h.pos i (by omega);exact⟨Int.fmod_nonneg_of_pos _ hp,Int.fmod_lt_of_pos _ hp⟩
  ·have hlow:=h.low t (by omega) (p i) (h.inc i t (by omega) (by omega));simp only[red,hlow,Int.mul_zero,Int.sub_zero];exact aO8 h u t (by omega) i (by omega)
theorem aLX(hw:∀ i,i<d->∀ x,n<=x->M i x=0){u:V}(hu:∀ x,n<=x->u x=0):∀ t,t<=d->∀ x,n<=x->red M p t u x=0
 | 0,_,x,hx=>hu x hx
 | t+1,ht,x,hx=>by simp only[red,aLX hw hu t (by omega) x hx,hw t (by omega) x hx,Int.mul_zero,Int.sub_zero]
structure Rds (d n:Nat) (M:Nat->V) (B:Nat) (U:Nat->Nat):Prop where
 row:∀ i,i<d->∀ x,x<n->(M i x).natAbs<=B
 up:∀ t,t<d->U t+(U t+1)*B<=U (t+1)
 fit:∀ t,t<d->Lib.nDigits (U t+1)+Lib.nDigits B<=lO
theorem aHV {B:Nat}{U:Nat->Nat}(h:Hn d M p)(hw:∀ i,i<d->∀ x,n<=x->M i x=0)(hb:Rds d n M B U){u:V}(hu:∀ x,x<n->(u x).natAbs<=U 0):∀ t,t<=d->∀ x,x<n->(red M p t u x).natAbs<=U t
 | 0,_,x,hx=>hu x hx
 | t+1,ht,x,hx=>by
  have h1:=aHV h hw hb hu t (by omega);have hpos:=h.pos t (by omega);have hp:=Hn.VP h hw (show t<d by omega);have h2:=ND (h1 (p t) hp) (show M t (p t)≠0 by omega);have h3:(red M p t u (p t)).fdiv (M t (p t))*M t x=(red M p t u (p t)).fdiv (M t (p t))*M t x:=rfl;have h4:((red M p t u (p t)).fdiv (M t (p t))*M t x).natAbs=((red M p t u (p t)).fdiv (M t (p t))).natAbs*(M t x).natAbs:=Int.natAbs_mul _ _
  have h5:((red M p t u (p t)).fdiv (M t (p t))).natAbs*(M t x).natAbs<=(U t+1)*B:=Nat.mul_le_mul h2 (hb.row t (by omega) x hx);have h6:=hb.up t (by omega);have h7:=h1 x hx;simp only[red];omega
end
theorem aGW(r:List Int)(hl:r.length<=1048576)(hr:∀ a∈r,-9223372036854775808<=a/\a<9223372036854775808):nI (r,())=some (r.map Zn,()):=by
 have e1:ltI (r.length:Int) 0=false:=by rw[aI]; exact oF (by omega)
 have e2:ltI 1048576 (r.length:Int)=false:=by rw[aI]; exact oF (by omega)
 have key:pZ ([],r,(r.length:Int),0,())=some (r.map Zn,()):=QV r hl hr;unfold nI;simp only[e1,e2,Bool.not_false,oC,List.replicate_zero,key,aC]
theorem aI2(n:Nat)(v:V):(Vr n v).map Zn=Zr n v:=by simp[Vr,Zr]
section
variable {d n:Nat} {M:Nat->V} {p:Nat->Nat}
theorem YD(h:Hn d M p)(hw:∀ i,i<d->∀ x,n<=x->M i x=0)(hn:n<1048576)(hM:∀ i,i<d->∀ x,x<n->(M i x).natAbs<=1000000000):∀ l:List Nat,(∀ i∈l,i<d) ->
  VB (l.map λi=>Vr n (M i))=some (l.map λi=>((p i:Int),Zr n (M i),()))
 | [],_=>rfl
 | i::l,hl=>by
  have hi:=hl i (by simp);have e1:=aGW (Vr n (M i)) (by rw[zF]; omega) (λa ha=>by have:=aNO (hM i hi) a ha; omega);rw[aI2]at e1;have e2:=aQV hn (Hn.VP h hw hi) (h.low i hi) (by have:=h.pos i hi; omega);have e3:=YD h hw hn hM l (λj hj=>hl j (by simp[hj]));simp only[List.map_cons,VB,e1,aC,e2,e3]
theorem aF1(h:Hn d M p)(hw:∀ i,i<d->∀ x,n<=x->M i x=0)(hn:n<1048576)(hd:d<1048576)(hM:∀ i,i<d->∀ x,x<n->(M i x).natAbs<=1000000000) :
  MM (((n:Int),Mr d n M),())=some ((List.range d).map λi=>((p i:Int),Zr n (M i),())):=by
 have e1:Nat.ble (Mr d n M).length 1048576=true:=by rw[gP,DR]; exact oT (by omega)
 simp only[MM,e1,oC];exact YD h hw hn hM (List.range d) λi hi=>List.mem_range.1 hi
theorem QG {B:Nat} {U:Nat->Nat} (h:Hn d M p) (hw:∀ i,i<d->∀ x,n<=x->M i x=0) (hn:n<1048576) (hd:d<1048576) (hb:Rds d n M B U) {u:V} (hu:∀ x,x<n->(u x).natAbs<=U 0) (c:AS [(.prod (.int .i64) (.list (.list (.int .i64))))]):∀ (j t:Nat),t+j=d->∀ (q:List ByteArray),q.length=t ->
  ∃ q',sM eO (aGR bA cH) ((List.range' t j).map λi=>((p i:Int),Zr n (M i),())) (Zr n (red M p t u),q,c,())=some (Zr n (red M p d u),q',())
 | 0,t,ht,q,_=>by
  have:t=d:=by omega
  subst this;exact⟨q,rfl⟩
 | j+1,t,ht,q,hq=>by
  have htd:t<d:=by omega
  have hpos:=h.pos t htd;have hp:=Hn.VP h hw htd;have hR:=aHV h hw hb hu t (by omega);have f:=hb.fit t htd;have hdm:lO=18:=rfl;have g1:Lib.nDigits (red M p t u (p t)).natAbs<=17:=by
   have h1:=qJ (show (red M p t u (p t)).natAbs<=U t+1 from Nat.le_succ_of_le (hR (p t) hp));have h2:=nDigits_pos B;omega
  have g2:Lib.nDigits (M t (p t)).natAbs<=17:=by
   have h1:=qJ (hb.row t htd (p t) hp);have h2:=nDigits_pos (U t+1);omega
  have e0:((p t:Nat):Int).toNat=p t:=oN _;have e1:aN (p t:Int) n=true:=by rw[aX]; exact oT (by omega)
  have e2:Nat.blt (p t) n=true:=by rw[cE]; simpa using hp
  have e3:=FN (red M p t u (p t)) (M t (p t)) (by omega) (by omega) (show M t (p t)≠0 by omega);have hq1:=ND (hR (p t) hp) (show M t (p t)≠0 by omega);have e4:=aM4 (n:=n) (u:=red M p t u) (v:=M t) (q:=(red M p t u (p t)).fdiv (M t (p t))) hn ⟨λi hi=>by
    have h1:=qJ hq1;have h2:=qJ (hb.row t htd i hi);omega,λi hi=>by
    have h1:=qJ (show (red M p t u i).natAbs<=U t+1 from Nat.le_succ_of_le (hR i hi));omega⟩
  have e5:Nat.ble [Zn ((red M p t u (p t)).fdiv (M t (p t)))].length 1048576=true:=rfl;have e6:Nat.ble q.length 1048576=true:=by rw[gP,hq]; exact oT (by omega)
  obtain⟨c1,⟨⟩⟩:=c;obtain⟨q',hq'⟩:=QG h hw hn hd hb hu ((c1.1,c1.2),()) j (t+1) (by omega) (q++[Zn ((red M p t u (p t)).fdiv (M t (p t)))]) (by simp[hq]);refine⟨q',?_⟩;rw[List.range'_succ,List.map_cons,sM];have hs:eO (Zr n (red M p t u),q,(c1,()),()) ((p t:Int),Zr n (M t),())=some (.inl (Zr n (red M p (t+1) u),q++[Zn ((red M p t u (p t)).fdiv (M t (p t)))],((c1.1,c1.2),()),())):=by
   have e7:(Zr n λx=>red M p t u x-(red M p t u (p t)).fdiv (M t (p t))*M t x)=Zr n (red M p (t+1) u):=rfl;rw[e7]at e4;simp only[eO,iV,e0,e1,e2,AM _ hp,e3,aC,e4,e5,e6,oC]
  rw[hs];exact hq'
theorem aI4 {B:Nat}{U:Nat->Nat}(h:Hn d M p)(hw:∀ i,i<d->∀ x,n<=x->M i x=0)(hn:n<=12)(hd:d<=12)(hM:∀ i,i<d->∀ x,x<n->(M i x).natAbs<=1000000000)(hb:Rds d n M B U)(r:List Int)(hl:r.length=n)(hr:∀ a∈r,a.natAbs<=U 0)(hU:U 0<=1000000000) :
  ∃ q,gX (((n:Int),Mr d n M),r,())=some (Zr n (red M p d (AW r)),q,()):=by
 have hu:∀ x,x<n->(AW r x).natAbs<=U 0:=λx hx=>by
  unfold AW;have:r.getD x 0=r[x]'(by omega):=by simp[List.getD,show x<r.length by omega]
  rw[this];exact hr _ (List.getElem_mem _)
 have e1:=YE r (by omega) (λa ha=>by have:=hr a ha; omega);have e2:r.map Zn=Zr n (AW r):=by rw[<- hl,aHX]
 rw[e2]at e1;obtain⟨q,hq⟩:=QG h hw (by omega) (by omega) hb hu (((n:Int),Mr d n M),()) d 0 (by omega) [] rfl;rw[<- List.range_eq_range']at hq;refine⟨q,?_⟩;have e3:=aF1 h hw (by omega) (by omega) hM;have e4:eQ (Zr n (AW r),[],(((n:Int),Mr d n M),()),())=some (Zr n (red M p d (AW r)),q,()):=by
  unfold eQ RU;simp only[kU,e3];exact hq
 simp only[gX,e1,aC,nJ,e4]
theorem short_list {v:V} (hn:n<1048576) (ok:∀ x,x<n->(v x).natAbs<=1000000000):mX (Zr n v,())=some (Vr n v,0,()):=by
 have key:=c7 (step:=gK) (N:=2^64) (λt=>(Vr t v,Zr n v,(n:Int),(t:Int),())) n (.inr (Vr n v,())) (by omega) (λt ht=>?_) ?_
 ·have e1:ltI (n:Int) 0=false:=by rw[aI]; exact oF (by omega)
  have e2:ltI 1048576 (n:Int)=false:=by rw[aI]; exact oF (by omega)
  have key:bF gK (2^64) ([],Zr n v,(n:Int),0,())=_:=key;unfold mX mO;simp only[iV,e1,e2,Bool.not_false,oC,List.replicate_zero,key,aC,iT]
 ·have b1:=ok t ht;have e1:ltI (t:Int) (n:Int)=true:=by rw[aI]; exact oT (by omega)
  have e2:aN (t:Int) n=true:=by rw[aX]; exact oT (by omega)
  have e3:((t:Nat):Int).toNat=t:=oN _;have e8:=QA (v t) (by have:=jH (u:=(v t).natAbs) (k:=17) (by omega); omega);have e9:ltI 1000000000 (v t)=false:=by rw[aI]; exact oF (by omega)
  have e10:ltI (v t) (-1000000000)=false:=by rw[aI]; exact oF (by omega)
  have e11:Nat.ble [v t].length 1048576=true:=rfl;have e12:Nat.ble (Vr t v).length 1048576=true:=by rw[gP,zF]; exact oT (by omega)
  have e13:=c8 t (by omega);have e14:Vr t v++[v t]=Vr (t+1) v:=by unfold Vr; rw[List.range_succ,List.map_append]; rfl
  simp only[gK,iV,e1,e2,e3,AM v ht,e8,e9,e10,e11,e12,e13,e14,aC,oC,oD]
 ·have e1:ltI (n:Int) (n:Int)=false:=by rw[aI]; exact oF (by omega)
  simp only[gK,e1,oD]
theorem ZW {B:Nat} {U:Nat->Nat} (h:Hn d M p) (hw:∀ i,i<d->∀ x,n<=x->M i x=0) (hn:n<=12) (hd:d<=12) (hM:∀ i,i<d->∀ x,x<n->(M i x).natAbs<=1000000000) (hb:Rds d n M B U) (r:List Int) (hl:r.length=n) (hr:∀ a∈r,a.natAbs<=U 0) (hU:U 0<=1000000000)
  (hfin:∀ x,x<n->(red M p d (AW r) x).natAbs<=1000000000) :
  gQ (((n:Int),Mr d n M),r,())=some (Vr n (red M p d (AW r)),0,()):=by
 obtain⟨q,hq⟩:=aI4 h hw hn hd hM hb r hl hr hU;have e0:eqI 0 0=true:=by decide
 simp only[gQ,aC5 h hw hd hn hM r hl (λa ha=>oR (hr a ha) hU),aC,e0,Bool.not_true,oD,hq,short_list (show n<1048576 by omega) hfin]
end
end Go.PM
namespace Go.Lz
theorem Sp.none {M:Nat->V}{v:V}(h:Sp 0 M v):v=λ_=>0:=by
 funext x
 exact Sp.N2 (x:=x) (λj hj=>by omega) h
theorem Sp.one {M:Nat->V}{v:V}(h:Sp 1 M v):∃ a:Int,v=λx=>a*M 0 x:=by
 obtain⟨t,u,hu,rfl⟩:=h.first;have:=hu.none;subst this;exact⟨t,by funext x; simp⟩
theorem Sp.two {M:Nat->V}{v:V}(h:Sp 2 M v):∃ a b:Int,v=λx=>a*M 0 x+b*M 1 x:=by
 obtain⟨t,u,hu,rfl⟩:=h.first;obtain⟨s,rfl⟩:=hu.one;exact⟨t,s,by funext x; simp only[Nat.zero_add]; omega⟩
theorem Sp.aNQ {M:Nat->V}(a b:Int):Sp 2 M (λx=>a*M 0 x+b*M 1 x) :=
 Sp.comb b (Sp.smul a (Sp.mem (by decide))) (Sp.mem (by decide))
structure Piv (d:Nat) (M:Nat->V) (p:Nat->Nat) (U:Nat->V) (D:Int) (C:Nat):Prop where
 sp:∀ j,j<d->Sp d M (U j)
 off:∀ i j,i<d->j<d->i≠j->U j (p i)=0
 at_:∀ j,j<d->U j (p j)=D
 ne:D≠0
 le:∀ j,j<d->∀ x,(U j x).natAbs<=C
theorem R5 {a b:Int}{E:Nat}(h1:a.natAbs<=E)(h2:b.natAbs<=E):(a*b).natAbs<=E*E:=by rw[Int.natAbs_mul]; exact Nat.mul_le_mul h1 h2
theorem Piv.ex {d:Nat}{M N:Nat->V}{p:Nat->Nat}{E:Nat}(h:Hn d M p)(hs:Same 2 N d M)(hd:d<=2)(hE:∀ i,i<2->∀ x,(N i x).natAbs<=E)(h1:1<=E):∃ U D,Piv d M p U D (2*(E*E)):=by
 have h0:=λj (hj:j<2)=>(hs _).1 (Sp.mem (M:=N) hj)
 have hEE:E<=E*E:=Nat.le_mul_of_pos_left E (by omega);rcases(by omega:d=0\/d=1\/d=2)with rfl|rfl|rfl
 ·exact⟨λ_ _=>0,1,λj hj=>by omega,λi j hi=>by omega,λj hj=>by omega,by decide,λj hj=>by omega⟩
 ·obtain⟨a,b,hab⟩:=((hs _).2 (Sp.mem (M:=M) (show 0<1 by decide))).two;have hp:=h.pos 0 (by decide);have:N 0 (p 0)≠0\/N 1 (p 0)≠0:=by
   by_cases h2:N 0 (p 0)=0
   ·by_cases h3:N 1 (p 0)=0
    ·have:=congrFun hab (p 0);simp only[h2,h3,Int.mul_zero]at this;omega
    ·exact .inr h3
   ·exact .inl h2
  rcases this with h2|h2
  ·refine⟨λ_=>N 0,N 0 (p 0),λj hj=>h0 0 (by decide),λi j hi hj hne=>by omega,λj hj=>?_,h2,λj hj x=>?_⟩
   ·have:j=0:=by omega
    subst this; rfl
   ·have:=hE 0 (by decide) x; omega
  ·refine⟨λ_=>N 1,N 1 (p 0),λj hj=>h0 1 (by decide),λi j hi hj hne=>by omega,λj hj=>?_,h2,λj hj x=>?_⟩
   ·have:j=0:=by omega
    subst this; rfl
   ·have:=hE 1 (by decide) x; omega
 ·obtain⟨a,b,hab⟩:=((hs _).2 (Sp.mem (M:=M) (show 0<2 by decide))).two;obtain⟨c,e,hce⟩:=((hs _).2 (Sp.mem (M:=M) (show 1<2 by decide))).two;have q0:=h.pos 0 (by decide);have q1:=h.pos 1 (by decide);have q2:=h.low 1 (by decide) (p 0) (h.inc 0 1 (by decide) (by decide));have w1:=congrFun hab (p 0);have w2:=congrFun hab (p 1);have w3:=congrFun hce (p 0);have w4:=congrFun hce (p 1);have hD:N 0 (p 0)*N 1 (p 1)-N 0 (p 1)*N 1 (p 0)≠0:=by
   intro hz;have:M 0 (p 0)*M 1 (p 1)-M 0 (p 1)*M 1 (p 0)=(a*e-b*c)*(N 0 (p 0)*N 1 (p 1)-N 0 (p 1)*N 1 (p 0)):=by rw[w1,w2,w3,w4]; grind
   rw[hz,q2]at this;have:=Int.mul_pos q0 q1;omega
  refine⟨λj=>if j=0 then λx=>N 1 (p 1)*N 0 x + -(N 0 (p 1))*N 1 x else λx=>-(N 1 (p 0))*N 0 x+N 0 (p 0)*N 1 x,N 0 (p 0)*N 1 (p 1)-N 0 (p 1)*N 1 (p 0),λj hj=>?_,λi j hi hj hne=>?_,λj hj=>?_,hD,λj hj x=>?_⟩
  ·rcases(by omega:j=0\/j=1)with rfl|rfl
   ·exact(hs _).1 (Sp.aNQ _ _)
   ·exact(hs _).1 (Sp.aNQ _ _)
  ·rcases(by omega:(i=0/\j=1)\/(i=1/\j=0))with ⟨rfl,rfl⟩|⟨rfl,rfl⟩
   ·simp; grind
   ·simp; grind
  ·rcases(by omega:j=0\/j=1)with rfl|rfl
   ·simp; grind
   ·simp; grind
  ·have b1:=R5 (hE 1 (by decide) (p 1)) (hE 0 (by decide) x);have b2:=R5 (hE 0 (by decide) (p 1)) (hE 1 (by decide) x);have b3:=R5 (hE 1 (by decide) (p 0)) (hE 0 (by decide) x);have b4:=R5 (hE 0 (by decide) (p 0)) (hE 1 (by decide) x);rcases(by omega:j=0\/j=1)with rfl|rfl
   ·simp only[if_pos,Int.neg_mul]; omega
   ·simp only[if_neg (show ¬ 1=0 by decide),Int.neg_mul]; omega
theorem Piv.bound {d:Nat} {M:Nat->V} {p:Nat->Nat} {U:Nat->V} {D:Int} {C:Nat} (h:Hn d M p) (k:Piv d M p U D C) {i:Nat} (hi:i<d) (x:Nat):(M i x).natAbs<=d*C :=
 Nat.le_trans (h.bound k.sp k.off (λj hj=>by rw[k.at_ j hj]; exact k.ne) hi x) (TT λj hj=>k.le j hj x)
theorem Piv.row {d:Nat} {M:Nat->V} {p:Nat->Nat} {U:Nat->V} {D:Int} {C:Nat} (h:Hn d M p) (k:Piv d M p U D C) {s:V} (hs:Sp d M s) (x:Nat):D*s x=IS d λj=>s (p j)*U j x:=by
 have hz:=h.aHW (v:=λx=>D*s x-IS d λj=>s (p j)*U j x) (Sp.sub (Sp.smul D hs) (Sp.IS d k.sp)) (λl hl=>by
  have:∀ n,n<=d->(IS n λj=>s (p j)*U j (p l))=if l<n then D*s (p l) else 0:=by
   intro n
   induction n with
   | zero=>intro _; rfl
   | succ n ih =>
    intro hn;rw[IS,ih (by omega)]
    by_cases e:l=n
    ·subst e;rw[if_neg (Nat.lt_irrefl _),if_pos (Nat.lt_succ_self _),k.at_ l hl];grind
    ·rw[k.off l n hl (by omega) e]
     by_cases e1:l<n
     ·have e2:l<n+1:=by omega
      rw[if_pos e1,if_pos e2]; simp
     ·have e2:¬ l<n+1:=by omega
      rw[if_neg e1,if_neg e2]; simp
  rw[this d (Nat.le_refl _),if_pos hl];omega)
 have:=congrFun hz x;omega
theorem Piv.rest {d:Nat} {M:Nat->V} {p:Nat->Nat} {U:Nat->V} {D:Int} {C:Nat} (h:Hn d M p) (k:Piv d M p U D C) {u v:V} (hs:Sp d M λx=>u x-v x) {W B:Nat} (hu:∀ x,(u x).natAbs<=W) (hv:∀ i,i<d->(v (p i)).natAbs<=B) (x:Nat) :
  (v x).natAbs<=W+d*((W+B)*C):=by
 have h1:=k.row h hs x;have h2:(IS d λj=>(u (p j)-v (p j))*U j x).natAbs<=d*((W+B)*C):=by
  refine Nat.le_trans (SO _ _) (TT λj hj=>?_);rw[Int.natAbs_mul];refine Nat.mul_le_mul ?_ (k.le j hj x);have:=hu (p j);have:=hv j hj;omega
 have h3:(u x-v x).natAbs<=(D*(u x-v x)).natAbs:=by
  rw[Int.natAbs_mul];exact Nat.le_mul_of_pos_left _ (by have:=k.ne; omega)
 rw[h1]at h3;have:=hu x;omega
end Go.Lz
namespace Go.PM
open Go Go.RowKit Go.Proofs Go.Lz
def B18:Nat->Nat
 | 0=>18
 | 1=>324900018
 | _=>324900018+(324900018+1)*324900018
def T18:Nat->Nat
 | 0=>17100000
 | _=>324900018
theorem aU9(n:Nat):Bds 2 n B18 T18 where
 st:=λd hd=>by
  rcases(by omega:d=0\/d=1)with rfl|rfl
  ·exact⟨by decide,by decide,λ_=>by decide,by
    show 2*Lib.nDigits 17100001<=18;have:=jH (u:=17100001) (k:=7) (by decide);omega⟩
  ·exact⟨by decide,by decide,λh=>by omega,by
    show 2*Lib.nDigits 324900019<=18;have:=jH (u:=324900019) (k:=8) (by decide);omega⟩
 up:=λd hd=>by
  rcases(by omega:d=0\/d=1)with rfl|rfl
  ·decide
  ·decide
def U18:Nat->Nat
 | 0=>4700
 | 1=>4700+(4700+1)*1296
 | _=>6097196+(6097196+1)*1296
theorem Z6 {r:List Int}{B:Nat}(h:∀ a∈r,a.natAbs<=B)(x:Nat):(AW r x).natAbs<=B:=by
 unfold AW;rw[oQ]
 by_cases hx:x<r.length
 ·rw[List.getElem?_eq_getElem hx]; exact h _ (List.getElem_mem hx)
 ·rw[List.getElem?_eq_none (by omega)]; exact Nat.zero_le _
theorem aSV {r u:List Int}{B:Nat}(hr:∀ a∈r,a.natAbs<=B)(hu:∀ a∈u,a.natAbs<=B):∀ i,i<2->∀ x,(R0 [r,u] i x).natAbs<=B:=λi hi x=>by
 rcases(by omega:i=0\/i=1)with rfl|rfl
 ·exact Z6 hr x
 ·exact Z6 hu x
theorem aU0 {n:Nat} {r u:List Int} (hn:n<=12) (lr:r.length=n) (lu:u.length=n) (br:∀ a∈r,a.natAbs<=18) (bu:∀ a∈u,a.natAbs<=18) :
  ∃ d M p,nY ((n:Int),[r,u],())=some (((n:Int),Mr d n M),0,())/\Hn d M p/\Same 2 (R0 [r,u]) d M /\
   ∀ o:List Int,o.length=n->(∀ a∈o,a.natAbs<=4700)->gQ (((n:Int),Mr d n M),o,())=some (Vr n (red M p d (AW o)),0,()):=by
 have hE:=aSV br bu;have small:∀ d M p,d<=2->Hn d M p->Same 2 (R0 [r,u]) d M->∀ i,i<d->∀ x,(M i x).natAbs<=1296:=λd M p hd h hs i hi x=>by
  obtain⟨U,D,k⟩:=Piv.ex h hs hd hE (by decide);have h1:=k.bound h hi x;have h2:d*(2*(18*18))<=2*(2*(18*18)):=Nat.mul_le_mul_right _ hd;omega
 obtain⟨d,M,p,h1,h2,h3,h4,h5,h6⟩:=of_eq [r,u] (n:=n) (by show 2<=12; decide) hn (λs hs=>by
   rcases List.mem_cons.1 hs with rfl|hs
   ·exact lr
   ·rcases List.mem_cons.1 hs with rfl|hs
    ·exact lu
    ·cases hs) (E:=B18) (T:=T18) (λs hs a ha=>by
   rcases List.mem_cons.1 hs with rfl|hs
   ·exact br a ha
   ·rcases List.mem_cons.1 hs with rfl|hs
    ·exact bu a ha
    ·cases hs) (by decide) (aU9 n) (λd M p hd h hs _ i hi x _=>by have:=small d M p hd h hs i hi x; omega)
 have h2:d<=2:=h2;refine⟨d,M,p,h1,h3,h4,λo lo bo=>?_⟩;have hb:=small d M p h2 h3 h4;have hR:Rds d n M 1296 U18:=⟨λi hi x _=>hb i hi x,λt ht=>by
   rcases(by omega:t=0\/t=1)with rfl|rfl
   ·decide
   ·decide,λt ht=>by
   have h18:lO=18:=rfl;have d1:=jH (u:=1296) (k:=3) (by decide);rcases(by omega:t=0\/t=1)with rfl|rfl
   ·have:=jH (u:=U18 0+1) (k:=3) (by decide);omega
   ·have:=jH (u:=U18 1+1) (k:=6) (by decide);omega⟩
 refine ZW h3 h5 hn (by omega) h6 hR o lo bo (by decide) λx hx=>?_
 obtain⟨U,D,k⟩:=Piv.ex h3 h4 h2 hE (by decide);have h7:=k.rest h3 (aBX h3 (AW o) d (oM _)) (Z6 bo) (B:=1296) (λi hi=>by
  obtain⟨q1,q2⟩:=aO8 h3 (AW o) d (oM _) i hi;have:=hb i hi (p i);omega) x
 have h8:d*((4700+1296)*(2*(18*18)))<=2*((4700+1296)*(2*(18*18))):=Nat.mul_le_mul_right _ h2;omega
theorem aLM(a:Int):f98 (a,())=some (false,()):=by
 unfold f98; dsimp only;simp[dE]
theorem aS0(a b:Int):f74 (a,b,())=some (if a<b then -1 else if b<a then 1 else 0,()):=by
 unfold f74; dsimp only;rw[aLM,aC,aLM,aC];simp only[oD,aI,bR]
 by_cases h1:a<b
 ·rw[if_pos h1,if_pos h1]
 ·rw[if_neg h1,if_neg h1]
  by_cases h2:b<a
  ·rw[if_pos h2,if_pos h2]
  ·rw[if_neg h2,if_neg h2]
theorem aT3(l m:List Int)(hl:l.length<=9223372036854775806)(hm:m.length<=9223372036854775806):f57 (l,m,())=some (cmpL l m,()):=by
 have hloop:U1 (l,m,l,(l.length:Int),0,())=some (((List.range l.length).findSome? λi=>(OE l m i).map λy=>.inl (y,())).getD (.inr (l,m,()))):=by
  refine LM (N:=2^64) (step:=LZ) (λi=>(l,m,l,(l.length:Int),(i:Int),())) (λi=>(OE l m i).map λy=>.inl (y,())) l.length (.inr (l,m,())) (by omega) ?_ ?_
  ·intro i hi;simp only[LZ,aI,dE,aX,qD,bR,oN];rw[if_pos (by omega),if_pos (by omega),aS0,aC,c8 i (by omega)]
   by_cases h2:i<m.length
   ·rw[if_neg (by omega),if_pos (by omega)]
    by_cases h3:l.getD i 0<m.getD i 0
    ·have hc:OE l m i=some (-1):=by unfold OE; rw[if_neg (λh=>h h2),if_pos h3]
     rw[hc,if_pos h3,if_pos (by decide)]; rfl
    ·by_cases h4:m.getD i 0<l.getD i 0
     ·have hc:OE l m i=some 1:=by unfold OE; rw[if_neg (λh=>h h2),if_neg h3,if_pos h4]
      rw[hc,if_neg h3,if_pos h4,if_pos (by decide)]; rfl
     ·have hc:OE l m i=none:=by unfold OE; rw[if_neg (λh=>h h2),if_neg h3,if_neg h4]
      rw[hc,if_neg h3,if_neg h4,if_neg (by decide)]; rfl
   ·have hc:OE l m i=some 1:=by unfold OE; rw[if_pos h2]
    rw[hc,if_pos (by omega)]; rfl
  ·simp only[LZ,aI,bR];rw[if_neg (by omega)]
 have hfind:=(aJ0 l m 0).resolve_right (by omega);rw[Nat.sub_zero,<- List.range_eq_range']at hfind;simp only[List.drop_zero]at hfind;unfold f57; dsimp only;rw[hloop,aC,M9,<- hfind];cases (List.range l.length).findSome? (OE l m)with
 | some y=>rfl
 | none =>
  simp only[Option.map_none,Option.getD_none,iT,aI,bR]
  by_cases h:l.length<m.length
  ·rw[if_pos h,if_pos (by omega)]
  ·rw[if_neg h,if_neg (by omega)]
theorem aNS(l m:List Int)(hl:l.length<=9223372036854775806)(hm:m.length<=9223372036854775806):f35 (l,m,())=some (cmpL l m,()):=by
 unfold f35; dsimp only;rw[aT3 l m hl hm,aC]
abbrev key(l:Lay):List Int×List Int:=l.2.2
theorem aEX {a b:Lay}(ha:ShL a)(hb:ShL b):f48 (a,b,())=some (D6 (key a) (key b),()):=by
 obtain⟨k,o,r,u⟩:=a;obtain⟨k',o',r',u'⟩:=b;obtain⟨-,a1,a2⟩:=ha;obtain⟨-,b1,b2⟩:=hb;dsimp only at a1 a2 b1 b2;unfold f48 D6 key; dsimp only;rw[aNS r r' (by omega) (by omega),aC,aNS u u' (by omega) (by omega)];simp only[dE,qD,bR,aC]
 by_cases h:cmpL r r'=0
 ·rw[if_neg (not_not_intro h),if_neg (not_not_intro h)]
 ·rw[if_pos h,if_pos h]
theorem D5.sh {B:Int}{l:Lay}(h:D5 B l):ShL l:=⟨by have:=h.len; omega,by have:=h.len; have:=h.right; omega,by have:=h.len; have:=h.up; omega⟩
theorem aDH {B:Int}{l:Lay}(h:D5 B l)(hB:B<=1000000000):f39 (l,())=some (l,0,()):=by
 have h0:=h.len;have h1:=h.right;have h2:=h.up;rw[aTB,if_pos ⟨wV h.o hB (by omega),wV h.r hB (by omega),wV h.u hB (by omega)⟩]
abbrev z4:S4:=(0,(0,(0,0)))
def bst(l:Lay):S4:=match iM l.1 with
 | []=>z4
 | g::r=>least (λg=>key (trn l g)) r g
theorem aHE(l:Lay):bst l∈iM l.1:=by
 unfold bst;have:=XX (k:=l.1);cases h:iM l.1 with
 | nil=>rw[h]at this; exact absurd this (by decide)
 | cons g r =>
  show least (λg=>key (trn l g)) r g∈_;rcases W5 (λg=>key (trn l g)) r g with h1|h1
  ·rw[h1]; simp
  ·exact List.mem_cons_of_mem _ h1
theorem TM {B:Int}{l:Lay}(g:S4)(h:D5 B l):f40 (l,g,())=some (trn l g,()):=by
 have h0:=h.len;have h1:=h.right;have h2:=h.up;exact aL2 g (by omega) (by omega) (by omega)
theorem YZ {B:Int}{l:Lay}(hl:D5 B l)(hB0:0<=B)(hB:B<=500000000)(n:List (Int×Int)):∀ (L:List S4),(∀ g∈L,xN g)->∀ h,xN h ->
  sM DF (aGR zP IK) (L.map λe=>(e,())) (l,zL,z4,0,trn l h,h,true,(n,()),())=some (.inl (l,zL,z4,0,trn l (least (λg=>key (trn l g)) L h),least (λg=>key (trn l g)) L h,()))
 | [],_,h,_=>rfl
 | g::L,hL,h,hh=>by
  have hg:=hL g (by simp);have gg:=DZ hl hg hB0 (by omega);have gh:=DZ hl hh hB0 (by omega);have hst:DF (l,zL,z4,0,trn l h,h,true,(n,()),()) (g,())=if D6 (key (trn l g)) (key (trn l h))<0 then some (.inl (l,zL,z4,0,trn l g,g,true,(n,()),())) else some (.inl (l,zL,z4,0,trn l h,h,true,(n,()),())):=by
   show (aB (f40 (l,g,())) _)=_;rw[TM g hl,aC];show (aB (f39 (trn l g,())) _)=_;rw[aDH gg (by omega),aC];show (aB (f48 (trn l g,trn l h,())) _)=_;rw[aEX gg.sh gh.sh,aC];show (bif ltI (D6 (key (trn l g)) (key (trn l h))) 0 then _ else _)=_;rw[aI,bR]
  rw[List.map_cons,sM,hst,least]
  by_cases hc:D6 (key (trn l g)) (key (trn l h))<0
  ·rw[if_pos hc,if_pos hc];exact YZ hl hB0 hB n L (λx hx=>hL x (by simp[hx])) g hg
  ·rw[if_neg hc,if_neg hc];exact YZ hl hB0 hB n L (λx hx=>hL x (by simp[hx])) h hh
theorem aJA {B:Int}{l:Lay}(hl:D5 B l)(hB0:0<=B)(hB:B<=500000000):DG (l,zL,z4,0,zL,z4,false,(pC l.1,()),())=some (.inl (l,zL,z4,0,trn l (bst l),bst l,())):=by
 have hu:∀ g∈iM l.1,xN g:=λg hg=>I8 hg
 have hf:=P1 l.1;unfold DG RU;have hff:(λx=>CH (aAM x)) (l,zL,z4,0,zL,z4,false,(pC l.1,()),())=_:=hf;rw[hff];unfold bst;have:=XX (k:=l.1);cases h:iM l.1 with
 | nil=>rw[h]at this; exact absurd this (by decide)
 | cons g r =>
  rw[h]at hu;have hg:=hu g (by simp);have gg:=DZ hl hg hB0 (by omega);have hst:DF (l,zL,z4,0,zL,z4,false,(pC l.1,()),()) (g,())=some (.inl (l,zL,z4,0,trn l g,g,true,(pC l.1,()),())):=by
   show (aB (f40 (l,g,())) _)=_;rw[TM g hl,aC];show (aB (f39 (trn l g,())) _)=_;rw[aDH gg (by omega),aC];rfl
  show sM DF (aGR zP IK) ((g,())::r.map λe=>(e,())) _=_;rw[sM,hst];exact YZ hl hB0 hB (pC l.1) r (λx hx=>hu x (by simp[hx])) g hg
def can(l:Lay) (w:List Int):Lay:=(l.1,w,(trn l (bst l)).2.2.1,(trn l (bst l)).2.2.2)
theorem aUR {B:Int}{l:Lay}(hl:D5 B l)(hB0:0<=B)(hB:B<=500000000){L:Int×List (List Int)}{w:List Int}(h1:nY ((l.2.1.length:Int),[l.2.2.1,l.2.2.2],())=some (L,0,()))(h2:gQ (L,l.2.1,())=some (w,0,())) :
  f47 (l,())=some (can l w,bst l,0,()):=by
 unfold f47;show (aB (f38 (l.1,())) _)=_;rw[aFN,aC];show (aB (DG (l,zL,z4,0,zL,z4,false,(pC l.1,()),())) _)=_;rw[aJA hl hB0 hB,aC,zJ];show aB (nY ((l.2.1.length:Int),[l.2.2.1,l.2.2.2],())) _=_;rw[h1,aC];show aB (gQ (L,l.2.1,())) _=_;rw[h2,aC];rfl
theorem Sm.abs {B:Int} {r:List Int} (h:Sm B r) {C:Nat} (hC:B<=C):∀ a∈r,a.natAbs<=C:=λa ha=>by have:=h a ha; omega
theorem aV8 {σ τ:Type} {step:σ->Option (σ⊕τ)} {N:Nat} {Z:τ->Prop} (I:Nat->σ->Prop) (m:Nat) (x:σ) (hN:m<N) (h0:I 0 x)
  (h:∀ i y,i<m->I i y->∃ y',step y=some (.inl y')/\I (i+1) y') (he:∀ y,I m y->∃ z,step y=some (.inr z)/\Z z):∃ z,bF step N x=some z/\Z z:=by
 suffices H:∀ k i y,i+k=m->I i y->∃ z,bF step (k+1+(N-m-1)) y=some z/\Z z by
  have:=H m 0 x (Nat.zero_add m) h0;rwa[show m+1+(N-m-1)=N by omega]at this
 intro k
 induction k with
 | zero =>
  intro i y hi hy;have hi:i=m:=by omega
  subst hi;obtain⟨z,e1,e2⟩:=he y hy;rw[show 0+1+(N-i-1)=(N-i-1)+1 by omega,bD,e1];exact⟨z,rfl,e2⟩
 | succ k ih =>
  intro i y hi hy;obtain⟨y',e1,e2⟩:=h i y (by omega) hy;rw[show k+1+1+(N-m-1)=(k+1+(N-m-1))+1 by omega,bD,e1];exact ih (i+1) y' (by omega) e2
theorem OP:∀ (f u:Nat) (acc:List UInt8),(DY f u acc).length<=f+acc.length
 | 0,u,acc=>by simp[DY]
 | f+1,u,acc=>by
  rw[DY];cases h:Nat.blt u 10 with
  | true=>rw[oC]; simp; omega
  | false =>
   rw[oD];have:=OP f (u/10) (UInt8.ofNat (48+u%10)::acc);rw[List.length_cons]at this;omega
theorem aFY(n:Int):(rV n).data.toList.length<=21:=by
 cases n with
 | ofNat u =>
  show (DY 20 u []).length<=21;have:=OP 20 u [];simp at this; omega
 | negSucc u =>
  show (45::DY 20 (u+1) []).length<=21;have:=OP 20 (u+1) [];simp at this ⊢; omega
theorem XL(sep:List UInt8):∀ (l:List ByteArray),(∀ x∈l,x.data.toList.length<=21)->(tT l sep).length<=l.length*(21+sep.length)
 | [],_=>by simp[tT]
 | [x],h=>by
  have:=h x (by simp);simp only[tT,List.length_singleton,Nat.one_mul];omega
 | x::y::r,h=>by
  have h1:=h x (by simp);have h2:=XL sep (y::r) λz hz=>h z (by simp[hz])
  rw[tT,oH,oH,List.length_cons,Nat.add_mul];omega
def aE7(r:List Int):ByteArray:=((ByteArray.mk #[91])++⟨(tT (r.map rV) [32]).toArray⟩)++(ByteArray.mk #[62])
theorem aHR {B:Int}{r:List Int}(hl:r.length<=64)(hr:Sm B r)(hB:B<=1000000000):DA (r,true,())=some (aE7 r,0,())/\(aE7 r).size<=10000:=by
 have hck:sP (r,())=some (0,()):=FG r hl λa ha=>by have:=hr a ha; omega
 have hloop:uQ (true,[],r,(r.length:Int),0,())=some (true,r.map rV,()):=by
  have hz:r.map rV=(r.take r.length).map rV:=by rw[List.take_length]
  rw[hz];refine c7 (N:=2^64) (step:=uG) (λi=>(true,(r.take i).map rV,r,(r.length:Int),(i:Int),())) r.length _ (by omega) ?_ ?_
  ·intro i hi;have ha:=hr _ (aD2 hi);have hit:kY (r.getD i 0,())=some (rV (r.getD i 0),()):=by
    unfold kY;dsimp only;rw[aI,aI,oF (by omega),oF (by omega)];rfl
   simp only[uG,aI,aX,gP,bR,oN];rw[if_pos (by omega),if_pos (by omega),hit,aC,if_pos (by simp),if_pos (by simp; omega),c8 i (by omega),List.take_succ_eq_append_getElem hi,List.map_append];have:r.getD i 0=r[i]:=by simp[oQ,hi]
   rw[this];rfl
  ·simp only[uG,aI,bR];rw[if_neg (by omega)]
 have hj:(tT (r.map rV) [32]).length<=64*22:=by
  have h1:=XL [32] (r.map rV) λx hx=>by
   obtain⟨a,-,rfl⟩:=List.mem_map.1 hx;exact aFY a
  rw[List.length_map]at h1;have h2:r.length*(21+[(32:UInt8)].length)<=64*22:=Nat.mul_le_mul hl (by decide);exact oR h1 h2
 have hjoin:mI (r.map rV,ByteArray.mk #[32],())=some (⟨(tT (r.map rV) [32]).toArray⟩,()):=by
  unfold mI;show (bif Nat.ble _ 1048576&&Nat.ble (tT (r.map rV) [32]).length 1048576 then _ else none)=_;rw[gP,gP,List.length_map,oT (by omega),oT (by omega)];rfl
 have hs1:(⟨(tT (r.map rV) [32]).toArray⟩:ByteArray).size<=1408:=hj;have hs2:((ByteArray.mk #[91])++⟨(tT (r.map rV) [32]).toArray⟩:ByteArray).size<=1409:=by
  rw[ByteArray.size_append];have:(ByteArray.mk #[91]).size=1:=rfl;omega
 have hs3:(ByteArray.mk #[62]).size=1:=rfl;have hs4:(ByteArray.mk #[91]).size=1:=rfl;refine⟨?_,?_⟩
 ·unfold DA;dsimp only;rw[hck,aC];show (aB (uQ (true,[],r,(r.length:Int),0,())) _)=_;rw[hloop,aC];show (aB (mI (r.map rV,ByteArray.mk #[32],())) _)=_;rw[hjoin,aC];show (bif Nat.ble _ 9223372036854775807 then bif Nat.ble _ 9223372036854775807 then _ else none else none)=_;rw[gP,gP,oT (by rw[hs4]; show 1+(⟨(tT (r.map rV) [32]).toArray⟩:ByteArray).size<=_; omega),oT (by rw[hs3]; show ((ByteArray.mk #[91])++⟨(tT (r.map rV) [32]).toArray⟩:ByteArray).size+1<=_; omega)]
  rfl
 ·unfold aE7;rw[ByteArray.size_append];omega
structure BL (k:Int) (r:Nat) (B:Int) (l:Lay):Prop where
 kind:l.1=k
 org:l.2.1=List.replicate r 0
 rl:l.2.2.1.length=r
 ul:l.2.2.2.length=r
 rs:Sm B l.2.2.1
 us:Sm B l.2.2.2
theorem BL.sh {k:Int}{r:Nat}{B:Int}{l:Lay}(h:BL k r B l)(hr:r<=4):ShL l:=⟨by rw[h.org]; simp; omega,by rw[h.rl]; omega,by rw[h.ul]; omega⟩
theorem BL.mono {k:Int}{r:Nat}{B C:Int}{l:Lay}(h:BL k r B l)(hBC:B<=C):BL k r C l:=⟨h.kind,h.org,h.rl,h.ul,λv hv=>by have:=h.rs v hv; omega,λv hv=>by have:=h.us v hv; omega⟩
theorem BL.trn {k:Int}{r:Nat}{B:Int}{l:Lay}{g:S4}(h:BL k r B l)(hg:xN g)(hB:B<=1000000000):BL k r (2*B) (trn l g) :=
 ⟨h.kind,h.org,by show (mx _ _ _ _).length=_; rw[EF]; exact h.rl,by show (mx _ _ _ _).length=_; rw[EF]; exact h.rl,L7 hg.1 hg.2.2.1 h.rs h.us (by rw[h.rl,h.ul]) hB,L7 hg.2.1 hg.2.2.2 h.rs h.us (by rw[h.rl,h.ul]) hB⟩
theorem aK8 {k:Int} {r:Nat} {B:Int} {l b:Lay} (hl:BL k r B l) (hr:r<=4) (hB:B<=1000000000) {g:S4} (hg:xN g) (hb:BL k r (2*B) b)
  (v1:Ty.den (.prod (.int .i64) (.prod (.int .i64) (.int .i64)))) (v2:List Lay) (v3 v4:Int) (v7:List Lay) (v8 v24 v25 v28 v29:Int) (n:List (Int×Int)) (A:List (List ByteArray)) :
  LQ (v1,v2,v3,v4,(),v7,v8,l,b,v24,v25,v28,v29,(n,()),A,()) (g,())=some (.inl (v1,v2,v3,v4,(),v7,v8,l,(if D6 (key (Go.PM.trn l g)) (key b)<0 then Go.PM.trn l g else b),v24,v25,v28,v29,(n,()),A,())):=by
 have h40:f40 (l,g,())=some (Go.PM.trn l g,()):=aL2 g (by rw[hl.org]; simp; omega) (by rw[hl.rl,hl.ul]) (by rw[hl.rl]; omega);show (aB (f40 (l,g,())) _)=_;rw[h40,aC];show (aB (f48 (Go.PM.trn l g,b,())) _)=_;rw[aEX ((hl.trn hg hB).sh hr) (hb.sh hr),aC];show (bif ltI (D6 (key (Go.PM.trn l g)) (key b)) 0 then _ else _)=_;rw[aI,bR]
 by_cases hc:D6 (key (Go.PM.trn l g)) (key b)<0
 ·rw[if_pos hc,if_pos hc]
 ·rw[if_neg hc,if_neg hc]
def Q7(l:Lay):List S4->Lay->Lay
 | [],b=>b
 | g::L,b=>Q7 l L (if D6 (key (trn l g)) (key b)<0 then trn l g else b)
theorem aH4 {k:Int} {r:Nat} {B:Int} {l:Lay} (hl:BL k r B l) (hr:r<=4) (hB:B<=1000000000)
  (v1:Ty.den (.prod (.int .i64) (.prod (.int .i64) (.int .i64)))) (v2:List Lay) (v3 v4:Int) (v7:List Lay) (v8 v24 v25 v28 v29:Int) (n:List (Int×Int)) (A:List (List ByteArray)) :
  ∀ (L:List S4),(∀ g∈L,xN g)->∀ b,BL k r (2*B) b->BL k r (2*B) (Q7 l L b) /\
   sM LQ (aGR CR K0) (L.map λe=>(e,())) (v1,v2,v3,v4,(),v7,v8,l,b,v24,v25,v28,v29,(n,()),A,())=some (v1,v2,v3,v4,(),v7,v8,Q7 l L b,v24,v25,v28,v29,A,())
 | [],_,b,hb=>⟨hb,rfl⟩
 | g::L,hL,b,hb=>by
  have hg:=hL g (by simp);rw[List.map_cons,sM,aK8 hl hr hB hg hb];refine aH4 hl hr hB v1 v2 v3 v4 v7 v8 v24 v25 v28 v29 n A L (λx hx=>hL x (by simp[hx])) _ ?_
  by_cases hc:D6 (key (Go.PM.trn l g)) (key b)<0
  ·rw[if_pos hc]; exact hl.trn hg hB
  ·rw[if_neg hc]; exact hb
theorem aJQ {k:Int} {r:Nat} {B:Int} {l:Lay} (hl:BL k r B l) (hr:r<=4) (hB0:0<=B) (hB:B<=1000000000)
  (v1:Ty.den (.prod (.int .i64) (.prod (.int .i64) (.int .i64)))) (v2:List Lay) (v3 v4:Int) (v7:List Lay) (v8 v24 v25 v28 v29:Int) (A:List (List ByteArray)) :
  BL k r (2*B) (Q7 l (iM k) l)/\D0 (v1,v2,v3,v4,(),v7,v8,l,l,v24,v25,v28,v29,(pC k,()),A,())=some (v1,v2,v3,v4,(),v7,v8,Q7 l (iM k) l,v24,v25,v28,v29,A,()):=by
 have hf:=P1 k;have hu:∀ g∈iM k,xN g:=λg hg=>I8 hg
 have h:=aH4 hl hr hB v1 v2 v3 v4 v7 v8 v24 v25 v28 v29 (pC k) A (iM k) hu l (hl.mono (by omega));refine⟨h.1,?_⟩;unfold D0 RU;have hff:(λx=>CH (aAK x)) (v1,v2,v3,v4,(),v7,v8,l,l,v24,v25,v28,v29,(pC k,()),A,())=_:=hf;rw[hff];exact h.2
theorem aL1 {k m i B:Int} {r:Nat} (hr:r<=4) (hm0:0<=m) (hm:r=0\/m<=B) (hB0:0<=B) (hB:B<=100000) (hi:0<=i/\i<=1000000000) :
  ∃ l,f52 ((k,((r:Int),m)),i,())=some (l,())/\l.length=r/\Sm B l:=by
 have hloop:∃ z,MV (i,(k,((r:Int),m)),List.replicate r 0,((r:Int)-1),())=some z/\(z.1.length=r/\Sm B z.1):=by
  refine aV8 (N:=2^64) (step:=NM) (λt y=>∃ v l,y=(v,(k,((r:Int),m)),l,((r:Int)-1-t),())/\(0<=v/\v<=1000000000)/\l.length=r/\Sm B l) r _ (by omega) ⟨i,List.replicate r 0,by simp,hi,by simp,λv hv=>?_⟩ ?_ ?_
  ·have:=(List.mem_replicate.1 hv).2; omega
  ·rintro t y ht ⟨v,l,rfl,hv,hl,hs⟩;have hm:m<=B:=by rcases hm with h|h; omega; exact h
   have w1:aH .i64 (2*m)=2*m:=wrap64 (by omega) (by omega);have w2:aH .i64 (2*m+1)=2*m+1:=wrap64 (by omega) (by omega);have hd:0<=v.tdiv (2*m+1)/\v.tdiv (2*m+1)<=1000000000:=by
    rw[Int.tdiv_eq_ediv_of_nonneg hv.1];exact⟨Int.ediv_nonneg hv.1 (by omega),Int.le_trans (Int.ediv_le_self _ hv.1) hv.2⟩
   have hmo:0<=v.tmod (2*m+1)/\v.tmod (2*m+1)<2*m+1:=by
    rw[Int.tmod_eq_emod_of_nonneg hv.1];exact⟨Int.emod_nonneg _ (by omega),Int.emod_lt_of_pos _ (by omega)⟩
   have w3:aH .i64 (v.tdiv (2*m+1))=v.tdiv (2*m+1):=wrap64 (by omega) (by omega);have w4:aH .i64 (v.tmod (2*m+1)-m)=v.tmod (2*m+1)-m:=wrap64 (by omega) (by omega);have w5:aH .i64 ((r:Int)-1-t-1)=(r:Int)-1-((t+1:Nat):Int):=by rw[wrap64 (by omega) (by omega)]; omega
   refine⟨(v.tdiv (2*m+1),(k,((r:Int),m)),l.set ((r:Int)-1-t).toNat (v.tmod (2*m+1)-m),((r:Int)-1-((t+1:Nat):Int)),()),?_,_,_,rfl,hd,by simp[hl],λx hx=>?_⟩
   ·simp only[NM,aI,aX,dE,cE,w1,w2,w3,w4,w5];rw[oF (show ¬ ((r:Int)-1-t<0)by omega),oF (show ¬ (2*m+1=0)by omega),oT (show 0<=(r:Int)-1-t/\(r:Int)-1-t<l.length by omega),oT (show ((r:Int)-1-t).toNat<l.length by omega)];rfl
   ·rcases List.mem_or_eq_of_mem_set hx with h|rfl
    ·exact hs x h
    ·omega
  ·rintro y ⟨v,l,rfl,hv,hl,hs⟩;refine⟨(l,()),?_,hl,hs⟩;simp only[NM,aI];rw[oT (show (r:Int)-1-r<0 by omega)];rfl
 obtain⟨⟨l,⟨⟩⟩,e1,e2,e3⟩:=hloop;refine⟨l,?_,e2,e3⟩;unfold f52;dsimp only;rw[aI,aI,aI,oF (show ¬ ((r:Int)<0)by omega),oF (show ¬ ((r:Int)<r)by omega),oF (show ¬ (1048576<(r:Int))by omega),oN,wrap64 (by omega) (by omega)];show (aB (MV (i,(k,((r:Int),m)),List.replicate r 0,((r:Int)-1),())) _)=_;rw[e1,aC]
def aF2(l:Lay):ByteArray:=aE7 l.2.2.1++aE7 l.2.2.2
theorem aS4 {k:Int}{r:Nat}{B:Int}{l:Lay}(h:BL k r B l)(hr:r<=4)(hB:B<=1000000000):f53 (l,())=some (aF2 l,()):=by
 obtain⟨h1,g1⟩:=aHR (r:=l.2.2.1) (by rw[h.rl]; omega) h.rs hB;obtain⟨h2,g2⟩:=aHR (r:=l.2.2.2) (by rw[h.ul]; omega) h.us hB;unfold f53;dsimp only;rw[h1,aC,h2,aC];show (bif Nat.ble ((aE7 l.2.2.1).size+(aE7 l.2.2.2).size) 9223372036854775807 then _ else none)=_;rw[gP,oT (by omega)];rfl
structure AI (k:Int) (r:Nat) (B:Int) (c:Nat) (a:List Lay×List ByteArray):Prop where
 bl:∀ x∈a.1,BL k r B x
 len:a.1.length<=c
 nil:a.1=[]->a.2=[]
 pos:0<c->a.1≠[]
def wE(a:List Lay×List ByteArray)(l:Lay):List Lay×List ByteArray:=bif K9 a.2 (aF2 l) then a else (a.1++[l],aET a.2 (aF2 l))
theorem AI.step {k:Int}{r:Nat}{B:Int}{c:Nat}{a:List Lay×List ByteArray}(h:AI k r B c a){l:Lay}(hl:BL k r B l):AI k r B (c+1) (wE a l):=by
 unfold wE;cases hh:K9 a.2 (aF2 l)with
 | true =>
  refine⟨h.bl,Nat.le_succ_of_le h.len,h.nil,λ_ h0=>?_⟩;have h0:a.1=[]:=h0;rw[h.nil h0]at hh;cases hh
 | false =>
  refine⟨λx hx=>?_,?_,λh0=>?_,λ_ h0=>?_⟩
  ·rcases List.mem_append.1 hx with hx|hx
   ·exact h.bl x hx
   ·rw[List.mem_singleton.1 hx]; exact hl
  ·have:=h.len;show (a.1++[l]).length<=_;rw[oH,List.length_singleton]; omega
  ·have h0:a.1++[l]=[]:=h0;simp at h0
  ·have h0:a.1++[l]=[]:=h0;simp at h0
def aJU(r m i:Nat):List Int:=(List.range r).map λj=>((i/(2*m+1)^(r-1-j)%(2*m+1):Nat):Int)-m
def aC7(k:Int)(r m i j:Nat):Lay:=(k,List.replicate r 0,aJU r m i,aJU r m j)
def fmB(l:Lay):Lay:=Q7 l (iM l.1) l
def ZK(k:Int)(r m n i:Nat)(a:List Lay×List ByteArray):List Lay×List ByteArray:=(List.range n).foldl (λa j=>wE a (fmB (aC7 k r m i j))) a
def aPL(k:Int)(r m n:Nat):List Lay×List ByteArray:=(List.range n).foldl (λa i=>ZK k r m n i a) ([],[])
def AL(k:Int)(r m n:Nat):List Lay:=YL ltL (aPL k r m n).1
def QO(k:Int)(r m n:Nat):Bool:=(List.range n).all λi=>match f52 ((k,((r:Int),(m:Int))),(i:Int),())with
 | some (l,())=>decide (l=aJU r m i)
 | none=>false
theorem aDX {k:Int}{r m n:Nat}(h:QO k r m n=true){i:Nat}(hi:i<n):f52 ((k,((r:Int),(m:Int))),(i:Int),())=some (aJU r m i,()):=by
 have h:=List.all_eq_true.1 h i (List.mem_range.2 hi);split at h
 ·rename_i l e;rw[e,of_decide_eq_true h]
 ·cases h
theorem UC {k B:Int} {r m n:Nat} (hr:r<=4) (hm:r=0\/(m:Int)<=B) (hB0:0<=B) (hB:B<=100000) (v2:List Lay) (v3 v4 v24 v25:Int) (hn:n<=1000) (hk:QO k r m n=true) {i j:Nat} (hi:i<n) (hj:j<n)
  {c:Nat} (hc:c<=1000000) {a:List Lay×List ByteArray} (ha:AI k r (2*B) c a):AI k r (2*B) (c+1) (wE a (fmB (aC7 k r m i j))) /\
  NK ((k,((r:Int),(m:Int))),v2,v3,v4,(),a.1,(i:Int),v24,v25,(n:Int),(j:Int),[a.2],())=some (.inl ((k,((r:Int),(m:Int))),v2,v3,v4,(),(wE a (fmB (aC7 k r m i j))).1,(i:Int),v24,v25,(n:Int),((j+1:Nat):Int),[(wE a (fmB (aC7 k r m i j))).2],())):=by
 obtain⟨x,e1,x1,x2⟩:=aL1 (k:=k) (i:=(i:Int)) hr (Int.natCast_nonneg m) hm hB0 hB (by omega);obtain⟨y,e2,y1,y2⟩:=aL1 (k:=k) (i:=(j:Int)) hr (Int.natCast_nonneg m) hm hB0 hB (by omega);have hx:=aDX hk hi;have hy:=aDX hk hj;rw[e1]at hx;rw[e2]at hy;have hx:x=aJU r m i:=oZ Prod.fst (oB hx);have hy:y=aJU r m j:=oZ Prod.fst (oB hy);have hl:BL k r B (k,List.replicate r 0,x,y):=⟨rfl,rfl,x1,y1,x2,y2⟩;obtain⟨hb,e3⟩:=aJQ hl hr hB0 (by omega) (k,((r:Int),(m:Int))) v2 v3 v4 a.1 (i:Int) v24 v25 (n:Int) (j:Int) [a.2]
 have e4:=aS4 hb hr (by omega);have hf:fmB (aC7 k r m i j)=Q7 (k,List.replicate r 0,x,y) (iM k) (k,List.replicate r 0,x,y):=by rw[hx,hy]; rfl
 rw[hf];generalize Q7 (k,List.replicate r 0,x,y) (iM k) (k,List.replicate r 0,x,y)=b at hb e3 e4;refine⟨ha.step hb,?_⟩;show (bif ltI (j:Int) n then bif !(ltI (r:Int) 0) then bif !(ltI (r:Int) (r:Int)) then bif !(ltI 1048576 (r:Int)) then aB (f52 ((k,((r:Int),(m:Int))),(i:Int),())) _ else none else none else none else _)=_;rw[aI,aI,aI,aI,oT (show (j:Int)<n by omega),oF (show ¬ ((r:Int)<0)by omega),oF (show ¬ ((r:Int)<r)by omega),oF (show ¬ (1048576<(r:Int))by omega)]
 show (aB (f52 ((k,((r:Int),(m:Int))),(i:Int),())) _)=_;rw[e1,aC];show (aB (f52 ((k,((r:Int),(m:Int))),(j:Int),())) _)=_;rw[e2,aC];show (aB (f38 (k,())) _)=_;rw[aFN,aC];show (aB (D0 ((k,((r:Int),(m:Int))),v2,v3,v4,(),a.1,(i:Int),(k,List.replicate r 0,x,y),(k,List.replicate r 0,x,y),v24,v25,(n:Int),(j:Int),(pC k,()),[a.2],())) _)=_;rw[e3,aC];show (aB (f53 (b,())) _)=_;rw[e4,aC];unfold wE;show (bif K9 a.2 (aF2 b) then (some (Sum.inl ((k,((r:Int),(m:Int))),v2,v3,v4,(),a.1,(i:Int),v24,v25,(n:Int),aH .i64 ((j:Int)+1),[a.2],())):Option (Shape.den IN⊕eB K7)) else (bif Nat.ble a.1.length 1048576 then (some (Sum.inl ((k,((r:Int),(m:Int))),v2,v3,v4,(),a.1++[b],(i:Int),v24,v25,(n:Int),aH .i64 ((j:Int)+1),[aET a.2 (aF2 b)],())):Option (Shape.den IN⊕eB K7)) else none))=_
 rw[c8 j (by omega)];cases hh:K9 a.2 (aF2 b)with
 | true=>rfl
 | false =>
  have:=ha.len;rw[gP,oT (by omega)];rfl
theorem ZG {k B:Int}{r m n:Nat}(hr:r<=4)(hm:r=0\/(m:Int)<=B)(hB0:0<=B)(hB:B<=100000)(hn:n<=1000)(hk:QO k r m n=true){i:Nat}(hi:i<n){c:Nat}{a:List Lay×List ByteArray}(ha:AI k r (2*B) c a) :
  ∀ t,t<=n->c+t<=1000000->AI k r (2*B) (c+t) ((List.range t).foldl (λa j=>wE a (fmB (aC7 k r m i j))) a)
 | 0,_,_=>ha
 | t+1,ht,hc=>by
  rw[List.range_succ,List.foldl_append,List.foldl_cons,List.foldl_nil];have h:=ZG hr hm hB0 hB hn hk hi ha t (by omega) (by omega);exact(UC hr hm hB0 hB [] 0 0 0 0 hn hk hi (show t<n by omega) (by omega) h).1
theorem aEP {k B:Int} {r m n:Nat} (hr:r<=4) (hm:r=0\/(m:Int)<=B) (hB0:0<=B) (hB:B<=100000) (v2:List Lay) (v3 v4 v24 v25:Int) (hn:n<=1000) (hk:QO k r m n=true) {i:Nat} (hi:i<n) {c:Nat} (hc:c+n<=1000000)
  {a:List Lay×List ByteArray} (ha:AI k r (2*B) c a) :
  ED ((k,((r:Int),(m:Int))),v2,v3,v4,(),a.1,(i:Int),v24,v25,(n:Int),0,[a.2],())=some ((k,((r:Int),(m:Int))),v2,v3,v4,(),(ZK k r m n i a).1,v24,v25,[(ZK k r m n i a).2],()):=by
 refine c7 (N:=2^64) (step:=NK) (λt=>((k,((r:Int),(m:Int))),v2,v3,v4,(),((List.range t).foldl (λa j=>wE a (fmB (aC7 k r m i j))) a).1,(i:Int),v24,v25,(n:Int),(t:Int),[((List.range t).foldl (λa j=>wE a (fmB (aC7 k r m i j))) a).2],())) n _ (by omega) ?_ ?_
 ·intro t ht;have h:=ZG hr hm hB0 hB hn hk hi ha t (by omega) (by omega);have e:=(UC hr hm hB0 hB v2 v3 v4 v24 v25 hn hk hi ht (by omega) h).2;rw[List.range_succ,List.foldl_append,List.foldl_cons,List.foldl_nil];exact e
 ·show (bif ltI (n:Int) (n:Int) then _ else _)=_;rw[aI,oF (by omega)];rfl
theorem ZQ {k B:Int}{r m n:Nat}(hr:r<=4)(hm:r=0\/(m:Int)<=B)(hB0:0<=B)(hB:B<=100000)(hn:n<=1000)(hk:QO k r m n=true) :
  ∀ t,t<=n->AI k r (2*B) (t*n) ((List.range t).foldl (λa i=>ZK k r m n i a) ([],[]))
 | 0,_=>⟨λx hx=>(by cases hx),Nat.zero_le _,λ_=>rfl,λh=>absurd h (by simp)⟩
 | t+1,ht=>by
  have hle:(t+1)*n<=1000*1000:=Nat.mul_le_mul (by omega) hn;rw[List.range_succ,List.foldl_append,List.foldl_cons,List.foldl_nil,Nat.add_mul,Nat.one_mul];rw[Nat.add_mul,Nat.one_mul]at hle;exact ZG hr hm hB0 hB hn hk (show t<n by omega) (ZQ hr hm hB0 hB hn hk t (by omega)) n (oM _) (by omega)
theorem aFH {k B:Int}{r m n:Nat}(hr:r<=4)(hm:r=0\/(m:Int)<=B)(hB0:0<=B)(hB:B<=100000)(hn:n<=1000)(hk:QO k r m n=true) :
  G9 ((k,((r:Int),(m:Int))),[],0,(n:Int),(),[],(n:Int),0,[[]],())=some ((aPL k r m n).1,[(aPL k r m n).2],()):=by
 refine c7 (N:=2^64) (step:=T5) (λt=>((k,((r:Int),(m:Int))),[],0,(n:Int),(),((List.range t).foldl (λa i=>ZK k r m n i a) ([],[])).1,(n:Int),(t:Int),[((List.range t).foldl (λa i=>ZK k r m n i a) ([],[])).2],())) n _ (by omega) ?_ ?_
 ·intro t ht;have h:=ZQ hr hm hB0 hB hn hk t (by omega);have hle:(t+1)*n<=1000*1000:=Nat.mul_le_mul (by omega) hn;rw[Nat.add_mul,Nat.one_mul]at hle;rw[List.range_succ,List.foldl_append,List.foldl_cons,List.foldl_nil];have e2:=aEP hr hm hB0 hB [] 0 (n:Int) (n:Int) (t:Int) hn hk ht (by omega) h;generalize (List.range t).foldl (λa i=>ZK k r m n i a) ([],[])=a at e2;show (bif ltI (t:Int) (n:Int) then aB (ED ((k,((r:Int),(m:Int))),[],0,(n:Int),(),a.1,(t:Int),(n:Int),(t:Int),(n:Int),0,[a.2],())) _ else _)=_
  rw[aI,oT (by omega)];show (aB (ED ((k,((r:Int),(m:Int))),[],0,(n:Int),(),a.1,(t:Int),(n:Int),(t:Int),(n:Int),0,[a.2],())) _)=_;rw[e2,aC];show (some (Sum.inl ((k,((r:Int),(m:Int))),[],0,(n:Int),(),(ZK k r m n t a).1,(n:Int),aH .i64 ((t:Int)+1),[(ZK k r m n t a).2],())):Option (Shape.den KF⊕eB PU))=_;rw[c8 t (by omega)]
 ·show (bif ltI (n:Int) (n:Int) then _ else _)=_;rw[aI,oF (by omega)];rfl
theorem aQ0 {k B:Int}{r m n:Nat}(hr:r<=4)(hm:r=0\/(m:Int)<=B)(hB0:0<=B)(hB:B<=100000)(hn0:0<n)(hn:n<=1000)(hk:QO k r m n=true)(h51:f51 ((k,((r:Int),(m:Int))),())=some ((n:Int),0,())) :
  f32 ((k,((r:Int),(m:Int))),())=some (AL k r m n,0,()):=by
 have ha:=ZQ hr hm hB0 hB hn hk n (oM _);have e1:=aFH hr hm hB0 hB hn hk;have ha:AI k r (2*B) (n*n) (aPL k r m n):=ha;unfold AL;generalize aPL k r m n=a at ha e1;have hnn:0<n*n:=Nat.mul_pos hn0 hn0;have hne:=ha.pos hnn;have hlen:=ha.len;have hle:n*n<=1000*1000:=Nat.mul_le_mul hn hn;have hl0:0<a.1.length:=List.length_pos_iff.2 hne;unfold f32;dsimp only;rw[h51,aC];show (aB (G9 ((k,((r:Int),(m:Int))),[],0,(n:Int),(),[],(n:Int),0,[[]],())) _)=_
 rw[e1,aC];show (aB (O5 J9 ltL a.1) _)=_;have hs:O5 J9 ltL a.1=some (YL ltL a.1):=by
  unfold O5;have h1:a.1.all (J9 a.1)=true:=by
   rw[List.all_eq_true];intro x hx;have bx:=ha.bl x hx;cases hy:a.1 with
   | nil=>exact absurd hy hne
   | cons y q =>
    have b_y:=ha.bl y (by rw[hy]; simp);unfold J9;dsimp only;rw[oT (show x.1=y.1 by rw[bx.kind,b_y.kind]),oT (show x.2.1=y.2.1 by rw[bx.org,b_y.org]),gP,gP,oT (show x.2.2.1.length<=1048576 by rw[bx.rl]; omega),oT (show x.2.2.2.length<=1048576 by rw[bx.ul]; omega)];rfl
  rw[h1,cE,cE,oT hl0,oT (show a.1.length<4611686018427387904 by omega)];rfl
 rw[hs,aC]
section
variable {R U d:List Int}
theorem aU4(hl:U.length=R.length)(hr:R.length<=1000)(n x y0 y1:Int) :
  D8 (R,U,d,n,x,(y0,y1),0,())=some (if mx x y0 R U=d then .inl (x,y0,true,()) else if mx x y1 R U=d then .inl (x,y1,true,()) else .inr (R,U,d,n,x,())):=by
 have hq:∀ a b,f46 (mx a b R U,d,())=some (decide (mx a b R U=d),()):=λa b=>VO _ _ (by rw[EF]; omega)
 have s0:AP (R,U,d,n,x,(y0,y1),0,())=if mx x y0 R U=d then some (.inr (.inl (x,y0,true,()))) else some (.inl (R,U,d,n,x,(y0,y1),1,())):=by
  simp only[AP,aI,dE,bR];rw[if_pos (by decide),if_pos trivial,TV hl hr,aC,hq,aC,bR];rfl
 have s1:AP (R,U,d,n,x,(y0,y1),1,())=if mx x y1 R U=d then some (.inr (.inl (x,y1,true,()))) else some (.inl (R,U,d,n,x,(y0,y1),2,())):=by
  simp only[AP,aI,dE,bR];rw[if_pos (by decide),if_neg (by decide),if_pos trivial,TV hl hr,aC,hq,aC,bR];rfl
 have s2:AP (R,U,d,n,x,(y0,y1),2,())=some (.inr (.inr (R,U,d,n,x,()))):=rfl;unfold D8;rw[show (2:Nat)^64=18446744073709551613+1+1+1 from rfl,bD,s0]
 by_cases h0:mx x y0 R U=d
 ·rw[if_pos h0,if_pos h0]
 ·rw[if_neg h0,if_neg h0];dsimp only;rw[bD,s1]
  by_cases h1:mx x y1 R U=d
  ·rw[if_pos h1,if_pos h1]
  ·rw[if_neg h1,if_neg h1];dsimp only;rw[bD,s2]
end
theorem aIF {l y:Lay}(hl:D5 9 l)(hy:ShL y){a b:Int}(h49:f49 (l.2.2.1,l.2.2.2,l.2.1,y.2.1,())=some (a,b,true,()))(ha : -8<=a/\a<=8)(hb : -8<=b/\b<=8)(n:List (Int×Int))(q:(S4×(Int×Int))):∀ L:List S4,(∀ g∈L,xN g)->(∃ g∈L,key (trn l g)=key y) ->
  ∃ g∈L,key (trn l g)=key y/\sM MF (aGR CF KU) (L.map λe=>(e,())) (l,y,q,false,0,(n,()),())=some (.inr ((g,(a,b)),true,0,()))
 | [],_,⟨g,hg,_⟩=>by cases hg
 | g::L,hL,hex=>by
  have hg:=hL g (by simp);have gg:=DZ hl hg (by decide) (by decide);have c1:ltI 1000 (if a < -a then -a else a)=false:=by rw[aI]; exact oF (by split <;> omega)
  have c2:ltI 1000 (if b < -b then -b else b)=false:=by rw[aI]; exact oF (by split <;> omega)
  have e1:IntKind.wrap .i64 (0-a) = -a:=by rw[IntKind.wrap_i64]; omega
  have e2:IntKind.wrap .i64 (0-b) = -b:=by rw[IntKind.wrap_i64]; omega
  have hst:MF (l,y,q,false,0,(n,()),()) (g,())=if ¬ D6 (key (trn l g)) (key y)=0 then some (.inl (l,y,q,false,0,(n,()),())) else some (.inr (.inr ((g,(a,b)),true,0,()))):=by
   show (aB (f40 (l,g,())) _)=_;rw[TM g hl,aC];show (aB (f48 (trn l g,y,())) _)=_;rw[aEX gg.sh hy,aC];show (bif !(eqI (D6 (key (trn l g)) (key y)) 0) then _ else aB (f49 (l.2.2.1,l.2.2.2,l.2.1,y.2.1,())) _)=_;rw[dE,qD,bR,h49,aC];show (if ¬ D6 (key (trn l g)) (key y)=0 then _ else bif !(ltI 1000 (if a<(IntKind.wrap .i64 (0-a)) then (IntKind.wrap .i64 (0-a)) else a)) then bif !(ltI 1000 (if b<(IntKind.wrap .i64 (0-b)) then (IntKind.wrap .i64 (0-b)) else b)) then _ else _ else _)=_
   rw[e1,e2,c1,c2];rfl
  rw[List.map_cons,sM,hst]
  by_cases hc:¬ D6 (key (trn l g)) (key y)=0
  ·rw[if_pos hc];obtain⟨g0,m1,m2⟩:=hex;have:¬ g0=g:=λe=>by
    rw[e]at m2;exact hc (by rw[m2,aIS])
   obtain⟨g',h1,h2,h3⟩:=aIF hl hy h49 ha hb n q L (λx hx=>hL x (by simp[hx])) ⟨g0,(List.mem_cons.1 m1).resolve_left this,m2⟩;exact⟨g',List.mem_cons_of_mem _ h1,h2,h3⟩
  ·rw[if_neg hc];exact⟨g,by simp,aPB (Decidable.not_not.1 hc),rfl⟩
theorem WU {l y:Lay}(h1:ce l=0)(h2:ce y=0)(q:S4×(Int×Int)):BH (l,y,q,false,0,(l,y),0,())=some (.inr (l,y,q,false,0,())):=by
 have f1:=aM6 l;have f2:=aM6 y;rw[h1]at f1;rw[h2]at f2;have s0:HF (l,y,q,false,0,(l,y),0,())=some (.inl (l,y,q,false,0,(l,y),1,())):=by
  show (aB (f24 (l,())) _)=_;rw[f1,aC]; rfl
 have s1:HF (l,y,q,false,0,(l,y),1,())=some (.inl (l,y,q,false,0,(l,y),2,())):=by
  show (aB (f24 (y,())) _)=_;rw[f2,aC]; rfl
 have s2:HF (l,y,q,false,0,(l,y),2,())=some (.inr (.inr (l,y,q,false,0,()))):=rfl;unfold BH;rw[show (2:Nat)^64=18446744073709551613+1+1+1 from rfl,bD,s0];dsimp only;rw[bD,s1];dsimp only;rw[bD,s2]
theorem aCB(M:Nat->V)(p:Nat->Nat):∀ t,red M p t (λ_=>0)=λ_=>0
 | 0=>rfl
 | t+1=>by
  funext x
  rw[red,aCB M p t];simp
theorem aJ2(r:Nat):AW (List.replicate r 0)=λ_=>0:=by
 funext x
 unfold AW
 by_cases h:x<r
 ·simp[oQ,h]
 ·simp[oQ,List.getElem?_eq_none (show (List.replicate r (0:Int)).length<=x by simp; omega)]
def JM(l:Lay):Lay:=can l (List.replicate l.2.1.length 0)
theorem BL.bS {k:Int}{r:Nat}{l:Lay}(h:BL k r 18 l)(hk:k=1\/k=2)(hr:r<=3):D5 18 l :=
 ⟨by rw[h.kind]; exact hk,by rw[h.org]; simp; omega,by rw[h.rl,h.org]; simp,by rw[h.ul,h.org]; simp,λv hv=>by rw[h.org]at hv; have:=(List.mem_replicate.1 hv).2; omega,h.rs,h.us⟩
theorem BL.aSH {k:Int}{r:Nat}{l:Lay}(h:BL k r 9 l)(hk:k=1\/k=2)(hr:r<=3):D5 9 l :=
 ⟨by rw[h.kind]; exact hk,by rw[h.org]; simp; omega,by rw[h.rl,h.org]; simp,by rw[h.ul,h.org]; simp,λv hv=>by rw[h.org]at hv; have:=(List.mem_replicate.1 hv).2; omega,h.rs,h.us⟩
theorem aLN {k:Int}{r:Nat}{l:Lay}(h:BL k r 18 l)(hk:k=1\/k=2)(hr:r<=3):f47 (l,())=some (JM l,bst l,0,()):=by
 have hg:=h.bS hk hr;obtain⟨d,M,p,h1,h2,h3,h4⟩:=aU0 (n:=r) (by omega) h.rl h.ul (h.rs.abs (by decide)) (h.us.abs (by decide));have h4:=h4 l.2.1 (by rw[h.org]; simp) (λa ha=>by rw[h.org]at ha; have:=(List.mem_replicate.1 ha).2; omega);have hl:l.2.1.length=r:=by rw[h.org]; simp
 have e:Vr r (red M p d (AW l.2.1))=List.replicate l.2.1.length 0:=by
  rw[hl,h.org,aJ2,aCB];unfold Vr
  induction r with
  | zero=>rfl
  | succ r ih=>simp[List.map_const']
 rw[e]at h4;exact aUR hg (by decide) (by decide) (by rw[hl]; exact h1) h4
theorem aRS {R U:List Int}:mx 0 0 R U=List.replicate R.length 0:=by
 have h:mxE 0 0 R U=λ_=>0:=by
  funext i
  unfold mxE;rw[Int.zero_mul,Int.zero_mul];rfl
 unfold mx;rw[h];simp[List.map_const']
theorem aXO {n:Nat}:mx 1 (-1) (List.replicate n 0) (List.replicate n 0)=List.replicate n 0:=by
 have h:mxE 1 (-1) (List.replicate n 0) (List.replicate n 0)=λ_=>0:=by
  funext i
  have:(List.replicate n (0:Int)).getD i 0=0:=by
   rw[oQ,List.getElem?_replicate];split <;> rfl
  unfold mxE;rw[this];rfl
 unfold mx;rw[h];simp[List.map_const']
theorem aV3 {R U:List Int}(hl:U.length=R.length)(hr:R.length<=1000):f49 (R,U,List.replicate R.length 0,List.replicate R.length 0,())=some (0,0,true,()):=by
 have h0:=aU4 (R:=R) (U:=U) (d:=List.replicate R.length 0) hl hr 0 0 0 0;rw[aRS,if_pos rfl]at h0;have s1:U0 (R,U,List.replicate R.length 0,0,0,())=some (.inr (.inl (0,0,true,()))):=by
  show (aB (D8 (R,U,List.replicate R.length 0,0,0,(0,0),0,())) _)=_;rw[h0,aC,zJ]
 have l1:DJ (R,U,List.replicate R.length 0,0,0,())=some (.inl (0,0,true,())):=by
  unfold DJ;rw[show (2:Nat)^64=18446744073709551615+1 from rfl,bD,s1]
 have s2:TD (R,U,List.replicate R.length 0,0,())=some (.inr (.inl (0,0,true,()))):=by
  show (aB (DJ (R,U,List.replicate R.length 0,0,0,())) _)=_;rw[l1,aC,zJ]
 have l2:H6 (R,U,List.replicate R.length 0,0,())=some (.inl (0,0,true,())):=by
  unfold H6;rw[show (2:Nat)^64=18446744073709551615+1 from rfl,bD,s2]
 unfold f49; dsimp only;rw[TV rfl (by simpa using hr),aC,aXO,l2,aC,zJ]
theorem aQY {k:Int} {r:Nat} {a b:Lay} (ha:BL k r 9 a) (hb:BL k r 9 b) (hk:k=1\/k=2) (hr:r<=3) :
  (JM a≠JM b->f27 (a,b,())=some ((z4,(0,0)),false,0,())) /\
  (JM a=JM b->(∃ g∈iM k,key (trn a g)=key b)->∃ g∈iM k,key (trn a g)=key b/\f27 (a,b,())=some ((g,(0,0)),true,0,())):=by
 have gA:=ha.aSH hk hr;have gB:=hb.aSH hk hr;have e47a:=aLN (ha.mono (by decide)) hk hr;have e47b:=aLN (hb.mono (by decide)) hk hr;have la:a.2.1.length=r:=by rw[ha.org]; simp
 have lb:b.2.1.length=r:=by rw[hb.org]; simp
 have e0:eqI (a.2.1.length:Int) (b.2.1.length:Int)=true:=by rw[dE,la,lb]; exact oT rfl
 have hsh:ShL (JM b):=by
  have q:=(DZ gB (I8 (aHE b)) (by decide) (by decide)).sh;exact⟨by show (List.replicate _ (0:Int)).length<=_; simp; omega,q.2.1,q.2.2⟩
 have hsa:ShL (JM a):=by
  have q:=(DZ gA (I8 (aHE a)) (by decide) (by decide)).sh;exact⟨by show (List.replicate _ (0:Int)).length<=_; simp; omega,q.2.1,q.2.2⟩
 have h25:=aTF (JM b) hsa;refine⟨λhne=>?_,λheq hex=>?_⟩
 ·unfold f27;show (aB (BH (a,b,(z4,(0,0)),false,0,(a,b),0,())) _)=_;rw[WU (SD gA (by decide)) (SD gB (by decide)),aC,iT];show (bif !(eqI (a.2.1.length:Int) (b.2.1.length:Int)) then _ else aB (f47 (a,())) _)=_;rw[e0,Bool.not_true,oD,e47a,aC];show (aB (f47 (b,())) _)=_;rw[e47b,aC];show (aB (f25 (JM a,JM b,())) _)=_;rw[h25,aC,oF hne];rfl
 ·have hex:∃ g∈iM a.1,key (trn a g)=key b:=by rw[ha.kind]; exact hex
  have h49:f49 (a.2.2.1,a.2.2.2,a.2.1,b.2.1,())=some (0,0,true,()):=by
   have:=aV3 (R:=a.2.2.1) (U:=a.2.2.2) (by rw[ha.rl,ha.ul]) (by rw[ha.rl]; omega);rw[ha.org,hb.org];rw[ha.rl]at this;exact this
  obtain⟨g',m1,m2,m3⟩:=aIF gA (y:=b) gB.sh h49 (by decide) (by decide) (pC a.1) (z4,(0,0)) (iM a.1) (λg hg=>I8 hg) hex;refine⟨g',by rw[ha.kind]at m1; exact m1,m2,?_⟩;have hle:C8 (a,b,(z4,(0,0)),false,0,(pC a.1,()),())=some (.inr ((g',(0,0)),true,0,())):=by
   unfold C8 RU;have hff:(λx=>CH (Z0 x)) (a,b,(z4,(0,0)),false,0,(pC a.1,()),())=_:=P1 a.1;rw[hff];exact m3
  unfold f27;show (aB (BH (a,b,(z4,(0,0)),false,0,(a,b),0,())) _)=_;rw[WU (SD gA (by decide)) (SD gB (by decide)),aC,iT];show (bif !(eqI (a.2.1.length:Int) (b.2.1.length:Int)) then _ else aB (f47 (a,())) _)=_;rw[e0,Bool.not_true,oD,e47a,aC];show (aB (f47 (b,())) _)=_;rw[e47b,aC];show (aB (f25 (JM a,JM b,())) _)=_;rw[h25,aC,oT heq];show (aB (f38 (a.1,())) _)=_;rw[aFN,aC];show (aB (C8 (a,b,(z4,(0,0)),false,0,(pC a.1,()),())) _)=_
  rw[hle,aC,iT]
end Go.PM
namespace Go.PM
open Go Go.RowKit
abbrev HC(e:TypeId)(t:Ty)(l:List t.den):Blk:=⟨aD t l,e,true,false,some ⟨t,l⟩⟩
def NS(e:TypeId) (t:Ty) (H:Heap):PV->Option (Option Nat×List t.den)
 | .own r sz=>match p7 e t (.own r sz) H r with
  | some l=>some (some r,l)
  | none=>none
 | .lit (.slice none o c)=>bif Nat.beq o 0&&Nat.beq c 0 then some (none,[]) else none
 | .tl _ [] (some 0) _=>some (none,[])
 | _=>none
def apart:Option Nat->Option Nat->Bool
 | some a,some b=>!Nat.beq a b
 | _,_=>true
abbrev S3(t:Ty):Type:=Int×List t.den×List t.den×List t.den
def aH7(e:TypeId)(t:Ty)(H:Heap):PV->Option (S3 t)
 | .agg [.lit (.int .i64 k),p0,p1,p2]=>match NS e t H p0,NS e t H p1,NS e t H p2 with
  | some a,some b,some c=>bif apart a.1 b.1&&apart a.1 c.1&&apart b.1 c.1 then some (k,a.2,b.2,c.2) else none
  | _,_,_=>none
 | _=>none
def YC(t:Ty)(y:S3 t)(n:Nat):PV:=.agg [.lit (.int .i64 y.1),.own n t.size,.own (n+1) t.size,.own (n+2) t.size]
def IP(e:TypeId)(t:Ty)(y:S3 t):Heap:=[some (HC e t y.2.1),some (HC e t y.2.2.1),some (HC e t y.2.2.2)]
section
variable {P:Program} {n0:Nat->Prop} {w w':World} {G G':Gd} {μ μ1:Mp} {H H1:Heap} {e:TypeId} {t:Ty}
def shO(μ:Mp):Option Nat->Nat
 | some r=>μ.sh r
 | none=>0
theorem CE(hW:aM n0 G μ H w){p v o l}(h:NS e t H p=some (o,l))(hv:VR w G μ p v) :
  (∀ r,o=some r->H[r]?=some (some (HC e t l)))/\(o=none->l=[])/\∀ G2 μ2 n,μ2.loc n=o.bind μ.loc->μ2.len n=some l.length->μ2.sh n=shO μ o->VR w G2 μ2 (.own n t.size) v:=by
 unfold NS at h;split at h
 ·rename_i r sz;split at h
  ·rename_i l' hl;obtain⟨rfl,rfl⟩:=Prod.mk.inj (oB h);obtain⟨h1,h2⟩:=fS hW hl;cases h1;refine⟨λr' he=>(by cases he; exact h2),λhe=>(by cases he),λG2 μ2 n q1 q2 q3=>?_⟩;obtain⟨m,a1,a2⟩:=hv;have:=(hW.tags r _ _ h2 rfl).2;rw[this]at a1;cases a1;change μ2.loc n=μ.loc r at q1;change μ2.sh n=μ.sh r at q3;refine⟨_,q2,?_⟩;grind
  ·cases h
 ·rename_i o' c;obtain⟨hb,h⟩:=aG h;simp only[oA]at hb;have h1:=oE hb.1;have h2:=oE hb.2;subst h1; subst h2;obtain⟨rfl,rfl⟩:=Prod.mk.inj (oB h);refine⟨λr' he=>(by cases he),λ_=>rfl,λG2 μ2 n q1 q2 q3=>?_⟩;rw[VR]at hv;rw[VR];exact⟨0,q2,.inl ⟨rfl,none,hv⟩⟩
 ·obtain⟨rfl,rfl⟩:=Prod.mk.inj (oB h);refine⟨λr' he=>(by cases he),λ_=>rfl,λG2 μ2 n q1 q2 q3=>?_⟩;obtain⟨ao,d7⟩:=EB hv;rw[VR];exact⟨0,q2,.inl ⟨rfl,ao,d7⟩⟩
 ·cases h
def CD {α:Type}(μ:Mp)(os:List (Option Nat×List α)):Mp :=
 ⟨λi=>match os[i]? with|some x=>x.1.bind μ.loc|none=>none,λi=>match os[i]? with|some x=>some x.2.length|none=>none,λi=>match os[i]? with|some x=>shO μ x.1|none=>0⟩
theorem aES(hW:aM n0 G μ H w) (ht:∀ u,t≠.rows u) (os:List (Option Nat×List t.den)) (h1:∀ (i r:Nat) (l:List t.den),os[i]?=some (some r,l)->H[r]?=some (some (HC e t l)))
  (hinj:∀ (i j r:Nat) (l l':List t.den),os[i]?=some (some r,l)->os[j]?=some (some r,l')->i=j):aM n0 G (CD μ os) (os.map λx=>some (HC e t x.2)) w:=by
 have at0:∀ (s:Nat) (k:Blk),(os.map λx=>some (HC e t x.2))[s]?=some (some k)->∃ x,os[s]?=some x/\k=HC e t x.2:=by
  intro s k hs;rw[List.getElem?_map]at hs;cases hx:os[s]? with
  | none=>rw[hx]at hs; cases hs
  | some x=>rw[hx]at hs; simp only[Option.map_some,oJ]at hs; exact⟨x,rfl,hs.symm⟩
 have loc0:∀ (s b:Nat) x,os[s]?=some x->(CD μ os).loc s=some b->∃ r,x.1=some r/\μ.loc r=some b/\H[r]?=some (some (HC e t x.2))/\(CD μ os).sh s=μ.sh r:=by
  intro s b x hx hl;obtain⟨o,l⟩:=x;simp only[CD,hx]at hl;cases o with
  | none=>cases hl
  | some r=>exact⟨r,rfl,hl,h1 s r l hx,by simp[CD,hx,shO]⟩
 refine⟨λs k b hs hb=>?_,λs k g hs hg=>?_,λs1 s2 k1 k2 b e1 e2 f1 f2 m1 m2=>?_,hW.lt,λs hs=>?_,hW.base,⟨hW.rows.inj,λj b hj=>?_,hW.rows.cel,λs k u l hs hg htg=>?_,λr s k k' u l u' l' hs hg htg=>?_⟩⟩
 ·obtain⟨x,hx,rfl⟩:=at0 s k hs;obtain⟨r,_,q2,q3,q4⟩:=loc0 s b x hx hb;obtain⟨c,a1,a2,a3,_,a5⟩:=hW.blk r _ b q3 q2;rw[q4];exact⟨c,a1,iQ (eA _ _) a2,a3,(λh=>(by cases h)),a5⟩
 ·obtain⟨x,hx,rfl⟩:=at0 s k hs;cases hg;exact⟨rfl,by simp[CD,hx]⟩
 ·obtain⟨x1,hx1,rfl⟩:=at0 s1 k1 e1;obtain⟨x2,hx2,rfl⟩:=at0 s2 k2 e2;obtain⟨r1,a1,a2,a3,_⟩:=loc0 s1 b x1 hx1 m1;obtain⟨r2,b1,b2,b3,_⟩:=loc0 s2 b x2 hx2 m2;have hr:=hW.inj r1 r2 _ _ b a3 b3 rfl rfl a2 b2;subst hr;obtain⟨o1,l1⟩:=x1;obtain⟨o2,l2⟩:=x2;dsimp only at a1 b1;subst a1; subst b1;exact hinj s1 s2 r1 l1 l2 hx1 hx2
 ·have hn:os[s]?=none:=List.getElem?_eq_none (by simpa using hs);simp[CD,hn]
 ·obtain⟨q1,q2,q3,q4⟩:=hW.rows.sep j b hj;refine⟨q1,q2,q3,λs k hs hf hl=>?_⟩;obtain⟨x,hx,rfl⟩:=at0 s k hs;obtain⟨r,_,b2,b3,_⟩:=loc0 s b x hx hl;exact q4 r _ b3 rfl b2
 ·obtain⟨x,hx,rfl⟩:=at0 s k hs;cases hg
 ·obtain⟨x,hx,rfl⟩:=at0 r k hs;cases hg
theorem aP6(hW:aM n0 G μ H w)(ht:∀ u,t≠.rows u){q v}{y:S3 t}(h:aH7 e t H q=some y)(hv:VR w G μ q v):∃ μ2,aM n0 G μ2 (IP e t y) w/\VR w G μ2 (YC t y 0) v:=by
 unfold aH7 at h;split at h
 ·rename_i k p0 p1 p2;split at h
  ·rename_i a b c ha hb hc;obtain⟨hap,h⟩:=aG h;obtain rfl:=oB h;simp only[oA]at hap;obtain⟨a1,a2⟩:=a;obtain⟨b1,b2⟩:=b;obtain⟨c1,c2⟩:=c;rw[VR]at hv;obtain⟨us,rfl,hv⟩:=hv;rw[VRs]at hv;obtain⟨u0,us0,e0,v0,hv⟩:=hv;rw[VRs]at hv;obtain⟨u1,us1,rfl,v1,hv⟩:=hv;rw[VRs]at hv;obtain⟨u2,us2,rfl,v2,hv⟩:=hv;rw[VRs]at hv;obtain⟨u3,us3,rfl,v3,hv⟩:=hv;rw[VRs]at hv;subst hv;obtain⟨x1,x2,x3⟩:=CE hW ha v1;obtain⟨y1,y2,y3⟩:=CE hW hb v2
   obtain⟨z1,z2,z3⟩:=CE hW hc v3;have ap:∀ {o1 o2:Option Nat} {r:Nat},apart o1 o2=true->o1=some r->o2=some r->False:=by
    rintro _ _ r h rfl rfl;simp[apart]at h
   refine⟨CD μ [(a1,a2),(b1,b2),(c1,c2)],aES (e:=e) hW ht [(a1,a2),(b1,b2),(c1,c2)] (λi r l hi=>?_) (λi j r l l' hi hj=>?_),?_⟩
   ·rcases i with _|_|_|i
    ·cases hi; exact x1 r rfl
    ·cases hi; exact y1 r rfl
    ·cases hi; exact z1 r rfl
    ·simp at hi
   ·rcases i with _|_|_|i <;> rcases j with _|_|_|j <;> first
     | rfl
     | (simp at hi; done)
     | (simp at hj; done)
     | (cases hi; cases hj; exact(ap hap.1.1 rfl rfl).elim)
     | (cases hi; cases hj; exact(ap hap.1.2 rfl rfl).elim)
     | (cases hi; cases hj; exact(ap hap.2 rfl rfl).elim)
   ·unfold YC;rw[VR];refine⟨us,rfl,?_⟩;rw[e0,VRs];refine⟨u0,_,rfl,by rw[VR]at v0 ⊢; exact v0,?_⟩;rw[VRs];refine⟨u1,_,rfl,x3 _ _ 0 rfl rfl rfl,?_⟩;rw[VRs];refine⟨u2,_,rfl,y3 _ _ 1 rfl rfl rfl,?_⟩;rw[VRs];refine⟨u3,_,rfl,z3 _ _ 2 rfl rfl rfl,?_⟩;rw[VRs]
  ·cases h
 ·cases h
def aUG(P:Program) (g:FuncId) (args:List Kd) (e:TypeId) (t:Ty) (f:aL args->Option (S3 t)):Prop :=
 ∀ x y,f x=some y->∀ {n0 G μ w us},aM n0 G μ [] w->VRs w G μ (eX args x) us->lN P n0 w G μ g us.toArray (YC t y 0) (IP e t y)
def aSP(P:Program)(rs:List ResultVar)(e:TypeId)(t:Ty)(ex:Ex)(F:Frm)(H:Heap):Option (S3 t):=match ex with
 | .exit _=>none
 | _=>match jF P F H rs with
  | some vs=>aH7 e t H (cG vs)
  | none=>none
def aAU(P:Program)(E:Env)(fn:Func)(aU:Nat)(hs:Nat->Option (Nat×Nat))(n:Nat)(c:Code)(args:List Kd)(e:TypeId)(t:Ty)(x:aL args):Option (S3 t) :=
 bif Nat.ble (eX args x).length fn.ntmps then s8 P E fn.ntmps aU hs n c (start aU 0 (eX args x)) [] (aSP P fn.results.toList e t) else none
theorem aR6 {E:Env} (hP:tW P) (hE:fC P E) {g:Nat} {fn:Func} (hg:P.funcs[g]?=some fn) {c:Code} (hc:fn.body=some c) {aU n:Nat} {hs:Nat->Option (Nat×Nat)} {args:List Kd} {f:aL args->Option (S3 t)} (ht:∀ u,t≠.rows u)
  (hb:∀ x,aAU P E fn aU hs n c args e t x=f x):aUG P g args e t f:=by
 intro x y hy n0 G μ w us hW hv;rw[<- hb]at hy;unfold aAU at hy;obtain⟨hlen,hy⟩:=aG hy;obtain⟨⟨ex,F',H'⟩,h1,h2,-⟩:=QH hE.callee hP.mixed n c _ _ _ _ hy;obtain⟨vs,hex,hvs,hq⟩:∃ vs,(ex=.normal\/ex=.ret)/\jF P F' H' fn.results.toList=some vs/\aH7 e t H' (cG vs)=some y:=by
  unfold aSP at h1;split at h1
  ·cases h1
  ·rename_i hne;split at h1
   ·rename_i vs hvs;refine⟨vs,?_,hvs,h1⟩;cases ex with
    | normal=>exact .inl rfl
    | ret=>exact .inr rfl
    | exit i=>exact absurd rfl (hne i)
   ·cases h1
 have hfl:∀ r,μ.loc r=none/\μ.len r=none:=λr=>hW.top r (Nat.zero_le _)
 refine⟨enters hg (hP.names g fn hg) (by rw[hc]; rfl) _ _,calls_of_wp hg hc ?_⟩;have hI:I n0 w G μ fn.ntmps (start aU 0 (eX args x)) [] ⟨us.toArray++Array.replicate (fn.ntmps-us.toArray.size) undef,[]⟩ w:=⟨G,μ,Ext.refl _ _ _ _,hW,lB (by simpa using hv) (oL hlen)⟩;refine wp_mono (h2 n0 w G μ _ w hfl hI) ?_;rintro e' a' w' ⟨rfl,G',μ',x',hW',hF'⟩;obtain⟨ws,h3,h4⟩:=gH (P:=P) hW' hF' hvs;have hres:(results fn a'.tmps).run P w'=.ok (if hh:ws.toArray.size=1 then ws.toArray[0] else .tuple ws.toArray) w':=by
  rw[mR,Array.mapM_eq_mapM_toList];simp only[Sem.run_bind,Sem.run_map,h3,Result.andThen_ok,Sem.run_pure]
 obtain⟨μ2,p1,p2⟩:=aP6 hW' ht hq (iH h4);have x2:Ext n0 w G μ w' G' μ2:={
  bS:=x'.bS
  map:=λr b hr=>by rw[(hfl r).1]at hr; cases hr
  len:=λr b hr=>by rw[(hfl r).2]at hr; cases hr
  sh:=λr b hr=>by rw[(hfl r).1]at hr; cases hr
  room:=x'.room
  row:=x'.row
  os:=x'.os
  tape:=x'.tape
  output:=x'.output
  size:=x'.size
  old:=x'.old
  new:=x'.new }
 have hpost:a'.defers=[]/\∃ v,(results fn a'.tmps).run P w'=.ok v w'/\(∃ v' G'' μ'',Ending.returned v=.returned v'/\Ext n0 w G μ w' G'' μ''/\aM n0 G'' μ'' (IP e t y) w'/\VR w' G'' μ'' (YC t y 0) v') :=
  ⟨hF'.defers,_,hres,_,G',μ2,rfl,x2,p1,p2⟩
 rcases hex with rfl|rfl
 ·exact hpost
 ·exact hpost
def s3H(args:List Kd) (e:TypeId) (t:Ty) (f:aL args->Option (S3 t)) (qs:List PV) (H:Heap):Option RK :=
 bif bU.noRefs qs&&(cR.noRows qs&&t.plain) then match TX args qs with
  | some x=>some ⟨S3 t,f x,λy=>(YC t y H.length,H++IP e t y)⟩
  | none=>none
 else none
theorem aS7 {g args f}(hf:aUG P g args e t f):vB P (g,s3H args e t f):=by
 intro qs H r h y hy n0 G μ w vs hW hv;dsimp only at h;unfold s3H at h;obtain⟨hn,h⟩:=IZ h;split at h
 ·rename_i x hx;have h:=oB h;subst h;simp only[oA]at hn;obtain⟨hn,hnr,hpl⟩:=hn;have hW0:aM (nO w) G.bare aF [] w:=⟨λr k b h=>by simp at h,λr k g h=>by simp at h,λr s k l b h=>by simp at h,hW.lt,λ_ _=>⟨rfl,rfl⟩,λ_ h=>h,kH.none _ _ (λ_=>rfl) _ _ (λr k h=>by simp at h)⟩;obtain⟨h1,h2⟩:=hf x y hy hW0 (uK args hx (j9 (G:=G) (G':=G.bare) (λb h=>h) _ _ _ hnr (bG _ _ hn hv)));refine⟨h1,h2.mono ?_⟩;rintro e' w' ⟨v',G',μ1,rfl,e1,e2,e3⟩
  refine⟨v',G'.with G,vE μ μ1 H.length,rfl,UB hW e1,X6 hW e1 e2 rfl (λr k hr=>?_),?_⟩
  ·have hk:∀ l:List t.den,cR.noRows (HC e t l).cells=true/\∀ u l',(HC e t l).tag≠some ⟨.rows u,l'⟩:=λl =>
    ⟨mF _ hpl _,λu l' h=>by obtain⟨rfl,_⟩:=h; cases hpl⟩
   rcases r with _|_|_|r
   ·simp only[IP,List.getElem?_cons_zero,oJ]at hr;subst hr; exact hk _
   ·simp only[IP,List.getElem?_cons_zero,List.getElem?_cons_succ,oJ]at hr;subst hr; exact hk _
   ·simp only[IP,List.getElem?_cons_zero,List.getElem?_cons_succ,oJ]at hr;subst hr; exact hk _
   ·simp[IP]at hr
  ·unfold YC at e3 ⊢;rw[VR]at e3 ⊢;obtain⟨us,q1,q2⟩:=e3;refine⟨us,q1,?_⟩;rw[VRs]at q2 ⊢;obtain⟨u0,us0,a1,a2,a3⟩:=q2;refine⟨u0,us0,a1,by rw[VR]at a2 ⊢; exact a2,?_⟩;rw[VRs]at a3 ⊢;obtain⟨u1,us1,b1,b2,b3⟩:=a3;refine⟨u1,us1,b1,(by have:=LX (H:=H) (μ:=μ) b2; rw[VR]at this ⊢; simpa using this),?_⟩;rw[VRs]at b3 ⊢;obtain⟨u2,us2,c1,c2,c3⟩:=b3;refine⟨u2,us2,c1,(by have:=LX (H:=H) (μ:=μ) c2; rw[VR]at this ⊢; simpa using this),?_⟩
   rw[VRs]at c3 ⊢;obtain⟨u3,us3,d1,d2,d3⟩:=c3;refine⟨u3,us3,d1,(by have:=LX (H:=H) (μ:=μ) d2; rw[VR]at this ⊢; simpa using this),?_⟩;rw[VRs]at d3 ⊢;exact d3
 ·cases h
end
open Go Go.RowKit Go.Proofs Tryz
set_option maxHeartbeats 4000000
def aVM(v0:Ty.den (.prod .bool (.prod (.int .u8) (.prod (.prod (.int .i8) (.prod (.int .i8) (.int .i8))) (.prod (.prod (.int .i8) (.prod (.int .i8) (.int .i8))) (.prod (.int .i8) (.prod (.int .i8) (.int .i8))))))))(t:Int):Option (S3 (.int .i64)) :=
  bif v0.1 then
   bif eqI t 0 then some (2,([],[],[]))
   else bif eqI t 1 then some (2,([(Int.tmod (IntKind.wrap .i64 v0.2.2.1.1) 10)],[(Int.tmod (IntKind.wrap .i64 v0.2.2.2.1.1) 10)],[(Int.tmod (IntKind.wrap .i64 v0.2.2.2.2.1) 10)]))
   else bif eqI t 2 then some (2,([(Int.tmod (IntKind.wrap .i64 v0.2.2.1.1) 10),(Int.tmod (IntKind.wrap .i64 v0.2.2.1.2.1) 10)],[(Int.tmod (IntKind.wrap .i64 v0.2.2.2.1.1) 10),(Int.tmod (IntKind.wrap .i64 v0.2.2.2.1.2.1) 10)],[(Int.tmod (IntKind.wrap .i64 v0.2.2.2.2.1) 10),(Int.tmod (IntKind.wrap .i64 v0.2.2.2.2.2.1) 10)]))
   else bif eqI t 3 then some (2,([(Int.tmod (IntKind.wrap .i64 v0.2.2.1.1) 10),(Int.tmod (IntKind.wrap .i64 v0.2.2.1.2.1) 10),(Int.tmod (IntKind.wrap .i64 v0.2.2.1.2.2) 10)],[(Int.tmod (IntKind.wrap .i64 v0.2.2.2.1.1) 10),(Int.tmod (IntKind.wrap .i64 v0.2.2.2.1.2.1) 10),(Int.tmod (IntKind.wrap .i64 v0.2.2.2.1.2.2) 10)],[(Int.tmod (IntKind.wrap .i64 v0.2.2.2.2.1) 10),(Int.tmod (IntKind.wrap .i64 v0.2.2.2.2.2.1) 10),(Int.tmod (IntKind.wrap .i64 v0.2.2.2.2.2.2) 10)]))
   else none
  else
   bif eqI t 0 then some (1,([],[],[]))
   else bif eqI t 1 then some (1,([(Int.tmod (IntKind.wrap .i64 v0.2.2.1.1) 10)],[(Int.tmod (IntKind.wrap .i64 v0.2.2.2.1.1) 10)],[(Int.tmod (IntKind.wrap .i64 v0.2.2.2.2.1) 10)]))
   else bif eqI t 2 then some (1,([(Int.tmod (IntKind.wrap .i64 v0.2.2.1.1) 10),(Int.tmod (IntKind.wrap .i64 v0.2.2.1.2.1) 10)],[(Int.tmod (IntKind.wrap .i64 v0.2.2.2.1.1) 10),(Int.tmod (IntKind.wrap .i64 v0.2.2.2.1.2.1) 10)],[(Int.tmod (IntKind.wrap .i64 v0.2.2.2.2.1) 10),(Int.tmod (IntKind.wrap .i64 v0.2.2.2.2.2.1) 10)]))
   else bif eqI t 3 then some (1,([(Int.tmod (IntKind.wrap .i64 v0.2.2.1.1) 10),(Int.tmod (IntKind.wrap .i64 v0.2.2.1.2.1) 10),(Int.tmod (IntKind.wrap .i64 v0.2.2.1.2.2) 10)],[(Int.tmod (IntKind.wrap .i64 v0.2.2.2.1.1) 10),(Int.tmod (IntKind.wrap .i64 v0.2.2.2.1.2.1) 10),(Int.tmod (IntKind.wrap .i64 v0.2.2.2.1.2.2) 10)],[(Int.tmod (IntKind.wrap .i64 v0.2.2.2.2.1) 10),(Int.tmod (IntKind.wrap .i64 v0.2.2.2.2.2.1) 10),(Int.tmod (IntKind.wrap .i64 v0.2.2.2.2.2.2) 10)]))
   else none
def GL(x:aL [.agg (.prod .bool (.prod (.int .u8) (.prod (.prod (.int .i8) (.prod (.int .i8) (.int .i8))) (.prod (.prod (.int .i8) (.prod (.int .i8) (.int .i8))) (.prod (.int .i8) (.prod (.int .i8) (.int .i8)))))))]):Option (S3 (.int .i64)):=match x with
 | (v0,())=>aVM v0 (IntKind.wrap .i64 (Int.tmod v0.2.1 4))
theorem aPS:∀ x,aAU Tryz.prog E29 f5 (bO f5) aWE 60 c29 [.agg (.prod .bool (.prod (.int .u8) (.prod (.prod (.int .i8) (.prod (.int .i8) (.int .i8))) (.prod (.prod (.int .i8) (.prod (.int .i8) (.int .i8))) (.prod (.int .i8) (.prod (.int .i8) (.int .i8)))))))] 3 (.int .i64) x=GL x:=by
 rintro⟨⟨a,b,⟨c,d,e⟩,⟨f,g,h⟩,⟨i,j,k⟩⟩,⟨⟩⟩
 kernel_rfl
theorem aWD:aUG Tryz.prog 5 [.agg (.prod .bool (.prod (.int .u8) (.prod (.prod (.int .i8) (.prod (.int .i8) (.int .i8))) (.prod (.prod (.int .i8) (.prod (.int .i8) (.int .i8))) (.prod (.int .i8) (.prod (.int .i8) (.int .i8)))))))] 3 (.int .i64) GL:=aR6 aV aOK func5 (c:=c29) (by kernel_rfl) (λ_ h=>by cases h) aPS
abbrev aVS:Shr:=(5,s3H [.agg (.prod .bool (.prod (.int .u8) (.prod (.prod (.int .i8) (.prod (.int .i8) (.int .i8))) (.prod (.prod (.int .i8) (.prod (.int .i8) (.int .i8))) (.prod (.int .i8) (.prod (.int .i8) (.int .i8)))))))] 3 (.int .i64) GL)
theorem aSG:vB Tryz.prog aVS:=aS7 aWD
def JI(x:aL []):Option (aL [.bool]):=match x with
 | (()) =>
  aB (f12 (())) λy1 =>
  some (y1.1,())
abbrev r9:Ent:=⟨4,[],[.bool],JI⟩
theorem uM:Ent.OK Tryz.prog r9:=oI (aQ (oV aS8 oW)) func4 (by kernel_rfl) (by rintro⟨⟨⟩⟩; kernel_rfl)
def pT(x:aL [.agg (.prod (.int .i64) (.prod (.list (.int .i64)) (.prod (.list (.int .i64)) (.list (.int .i64)))))]):Option (aL [.int .i64]):=match x with
 | (v0,()) =>
  bif !(eqI v0.1 1) then
   bif !(eqI v0.1 2) then
    some (12,())
   else aB (f37 (v0.2.1,())) λy1 =>
   bif !(eqI y1.1 0) then
    some (y1.1,())
   else bif ltI 12 (v0.2.1.length:Int) then
    some (4,())
   else aB (pO ([v0.2.2.1,v0.2.2.2],(v0.2.1.length:Int),())) λy2 =>
   some (y2.1,())
  else aB (f37 (v0.2.1,())) λy3 =>
  bif !(eqI y3.1 0) then
   some (y3.1,())
  else bif ltI 12 (v0.2.1.length:Int) then
   some (4,())
  else aB (pO ([v0.2.2.1,v0.2.2.2],(v0.2.1.length:Int),())) λy4 =>
  some (y4.1,())
abbrev WN:Ent:=⟨22,[.agg (.prod (.int .i64) (.prod (.list (.int .i64)) (.prod (.list (.int .i64)) (.list (.int .i64)))))],[.int .i64],pT⟩
theorem O7:Ent.OK Tryz.prog WN:=oI (aQ (oV ZV (oV DH oW))) func22 (by kernel_rfl) (by rintro⟨v0,⟨⟩⟩; kernel_rfl)
def wM(x:aL [.agg (.prod (.int .i64) (.int .i64))]):Option (aL [.bool]):=match x with
 | (v0,()) =>
  bif ltI 1000000 (if v0.1<v0.2 then v0.2 else v0.1) then
   some (true,())
  else some (ltI (if v0.2<v0.1 then v0.2 else v0.1) (-1000000),())
abbrev aEG:Ent:=⟨23,[.agg (.prod (.int .i64) (.int .i64))],[.bool],wM⟩
theorem UW:Ent.OK Tryz.prog aEG:=oI (aQ oW) func23 (by kernel_rfl) (by rintro⟨v0,⟨⟩⟩; kernel_rfl)
abbrev pS:List (Nat×Kd):=[(2,.box 31 (.prod (.int .i64) (.prod (.list (.int .i64)) (.prod (.list (.int .i64)) (.list (.int .i64)))))),(3,.box 46 (.prod (.int .i64) (.int .i64))),(5,.own 3 (.int .i64)),(16,.int .i64),(17,.int .i64)]
abbrev sI:List (Ex×List (Nat×Kd)):=[(.exit 0,[(5,.own 3 (.int .i64))])]
def pG(x:Shape.den pS):Option (Shape.den pS⊕eB sI):=match x with
 | (v2,v3,v5,v16,v17,()) =>
  bif ltI v17 v16 then
   bif aN v17 v5.length then bif Nat.blt v17.toNat v5.length then bif aN v17 v2.2.2.1.length then bif aN v17 v2.2.2.2.length then bif aN v17 v5.length then bif Nat.blt v17.toNat v5.length then some (.inl ((v2.1,(v2.2.1,(v2.2.2.1,v2.2.2.2))),(v3.1,v3.2),(v5.set v17.toNat (aH .i64 ((v5.getD v17.toNat 0)+(aH .i64 ((aH .i64 (v3.1*(v2.2.2.1.getD v17.toNat 0)))+(aH .i64 (v3.2*(v2.2.2.2.getD v17.toNat 0)))))))),v16,(aH .i64 (v17+1)),())) else none else none else none else none else none else none
  else some (.inr ((v5,())))
def iY(x:Shape.den pS):Option (eB sI):=bF pG (2^64) x
def BA(x:aL [.agg (.prod (.int .i64) (.prod (.list (.int .i64)) (.prod (.list (.int .i64)) (.list (.int .i64))))),.agg (.prod (.int .i64) (.int .i64))]):Option (aL [.list (.int .i64)]):=match x with
 | (v0,v1,()) =>
  bif !(ltI (v0.2.1.length:Int) 0) then bif !(ltI (v0.2.1.length:Int) (v0.2.1.length:Int)) then bif !(ltI 1048576 (v0.2.1.length:Int)) then bif Nat.blt 0 ((List.replicate ((v0.2.1.length:Int).toNat) (0:Ty.den (.int .i64))).length) then bif Nat.ble (0+(List.replicate ((v0.2.1.length:Int).toNat) (0:Ty.den (.int .i64))).length) (List.replicate ((v0.2.1.length:Int).toNat) (0:Ty.den (.int .i64))).length then bif Nat.ble v0.2.1.length ((List.replicate ((v0.2.1.length:Int).toNat) (0:Ty.den (.int .i64))).length) then aB (iY ((v0.1,(v0.2.1,(v0.2.2.1,v0.2.2.2))),(v1.1,v1.2),(spl (List.replicate ((v0.2.1.length:Int).toNat) (0:Ty.den (.int .i64))) 0 v0.2.1),((spl (List.replicate ((v0.2.1.length:Int).toNat) (0:Ty.den (.int .i64))) 0 v0.2.1).length:Int),0,())) λz1 =>
  some (z1.1,()) else none else none else none else none else none else none
def LI:Code:=cM Tryz.f24
abbrev vP:Env:=qK []
theorem pU:fC Tryz.prog vP:=aQ trivial
def uP:Code:=kW LI 0
def BR(id:Nat):Option bT:=bif Nat.beq id 4 then some ⟨pS,sI,iY⟩ else none
theorem OS:∀ x,nP Tryz.prog vP 45 (bO Tryz.f24) BR uP pS sI x=pG x:=by
 rintro⟨v2,v3,v5,v16,v17,⟨⟩⟩
 kernel_rfl
theorem C6:aO uP=4:=by kernel_rfl
theorem GH:fJ Tryz.prog 45 uP ⟨pS,sI,iY⟩:=kT pU.callee aV.mixed _ (bQ (l:=[]) (by kernel_rfl) trivial) OS
theorem aC1:wO Tryz.prog 24 [.agg (.prod (.int .i64) (.prod (.list (.int .i64)) (.prod (.list (.int .i64)) (.list (.int .i64))))),.agg (.prod (.int .i64) (.int .i64))] [.list (.int .i64)] BA:=HO aV pU func24 (c:=LI) (by kernel_rfl) (aU:=bO Tryz.f24) (lt:=BR) (bQ (l:=[uP]) (by kernel_rfl) ⟨j5 C6 rfl GH,trivial⟩) (by rintro⟨v0,v1,⟨⟩⟩; kernel_rfl)
end Go.PM
namespace Go.PM
open Go Go.RowKit
section
variable {P:Program} {cl:Callee} {n0:Nat->Prop} {nt:Nat} {wi w:World} {Gi G:Gd} {μi μ:Mp} {F:Frm} {H:Heap} {a:Act}
theorem LK(hcl:bN P cl) {ops:Array Oper} {Q:Exit->Act->World->Prop} {F':Frm} {H':Heap} {l2:List Oper}:∀ (l:List Oper) (F:Frm) (H:Heap) (a:Act) (w:World),yB P cl nt ops.toList l F H=some (F',H')->I n0 wi Gi μi nt F H a w ->
  (∀ a' w',I n0 wi Gi μi nt F' H' a' w'->wpList P ops Q l2 a' w')->wpList P ops Q (l++l2) a w
 | [],F,H,a,w,h,hI,hQ=>by
  simp only[yB,oJ,oP]at h;obtain⟨rfl,rfl⟩:=h;exact hQ a w hI
 | o::rest,F,H,a,w,h,hI,hQ=>by
  simp only[yB]at h;rw[List.cons_append];split at h
  ·rename_i v H1 c hs;rw[HR]at h;split at h
   ·rename_i F1 hp;rw[sG,Bool.cond_self]at h;obtain⟨G,μ,e,hW,hF⟩:=hI;unfold wpList;rcases yK hcl hs hW hF with ⟨h1,h2⟩|⟨h1,rfl,rfl⟩
    ·rw[if_pos h1];refine .inl (h2 _ _ λv' w' G' μ' e' hW' hv=>?_);exact LK hcl rest F1 H1 _ _ h ⟨G',μ',e.trans e',hW',(hF.mono e'.toMono).N4 hp hv⟩ hQ
    ·rw[h1,if_neg (by decide)];exact LK hcl rest F1 H1 _ _ h ⟨G,μ,e,hW,hF.N4 hp (by rw[VR])⟩ hQ
   ·cases h
  ·cases h
def kS(sl:List Nat) (ex:Ex) (F:Frm) (H:Heap):Option (Ex×List PV×Heap):=some (ex,sl.map (bB F),H)
def kO(sl:List Nat)(F:Frm)(H:Heap):Option (List PV×Heap):=some (sl.map (bB F),H)
theorem I2 F t:∀ sl:List Nat,bB (sl.zip (sl.map (bB F))) t=bB F t\/bB (sl.zip (sl.map (bB F))) t=.junk
 | []=>.inr rfl
 | s::sl=>by
  show bB ((s,bB F s)::sl.zip (sl.map (bB F))) t=bB F t\/bB ((s,bB F s)::sl.zip (sl.map (bB F))) t=.junk;rw[cS]
  by_cases hs:t=s
  ·grind
  ·rw[if_neg hs]; exact I2 F t sl
theorem cY.wP (h:cY w G μ nt F a)(sl:List Nat):cY w G μ nt (sl.zip (sl.map (bB F))) a:=⟨h.size,λt=>by
 rcases I2 F t sl with h1|h1
 ·rw[h1]; exact h.slot t
 ·rw[h1,VR]; simp,h.defers⟩
end
section
variable {P:Program} {n0:Nat->Prop} {w wi:World} {G Gi:Gd} {μ μi:Mp} {H H1:Heap} {F F1:Frm} {nt:Nat}
theorem tY {E:Env} {aU:Nat} {lt:Nat->Option bT} (hcl:bN P (cJ P E)) (hP:P.follows .mixedOrders=true) {c:Code} {sl:List Nat} {ex:Ex} {ps:List PV} {H':Heap} (hl:∀ a∈bI c,∀ s,lt (aO a)=some s->fJ P nt a s)
  (h:jO P E nt aU lt c F H (kS sl)=some (ex,ps,H')):CU P nt c F H (ex,sl.zip ps,H'):=by
 obtain⟨⟨ex1,F1,H1⟩,h1,h2⟩:=fL hcl hP c _ _ _ _ hl h;simp only[kS,oJ,oP]at h1;obtain⟨rfl,rfl,rfl⟩:=h1;intro n0 wi Gi μi a w hfl hI;refine wp_mono (h2 n0 wi Gi μi a w hfl hI) ?_;rintro e a' w' ⟨rfl,hI'⟩;exact⟨rfl,hI'.WG λt=>I2 F1 t sl⟩
theorem rE {x y:Code}{r}(h1:CU P nt x F H (.normal,F1,H1))(h2:CU P nt y F1 H1 r):CU P nt (.seq x y) F H r:=λn0 wi Gi μi a w hfl hI=>wp_seq (wp_mono (h1 n0 wi Gi μi a w hfl hI) λe a' w' h=>by
 obtain⟨rfl,hI'⟩:=h;exact h2 n0 wi Gi μi a' w' hfl hI')
theorem aJH {x:Code}{ex:Ex}{F2:Frm}{H2:Heap}(h1:CU P nt x F H (ex,F1,H1))(h2:∀ {n0 wi Gi μi a w},I n0 wi Gi μi nt F1 H1 a w->I n0 wi Gi μi nt F2 H2 a w):CU P nt x F H (ex,F2,H2):=λn0 wi Gi μi a w hfl hI=>wp_mono (h1 n0 wi Gi μi a w hfl hI) λe a' w' h=>by
 obtain⟨h,hI'⟩:=h;exact⟨h,h2 hI'⟩
theorem aFX {x:Code}{i:Nat}(h1:CU P nt x F H (.exit i,F1,H1)):CU P nt (.block i x) F H (.normal,F1,H1):=λn0 wi Gi μi a w hfl hI=>wp_block (wp_mono (h1 n0 wi Gi μi a w hfl hI) λe a' w' h=>by
 obtain⟨rfl,hI'⟩:=h;simp only[Ex.to,Exit.inBlock,if_true];exact⟨trivial,hI'⟩)
theorem aJZ {c:Code} {σ:Type} (fr:σ->Frm) (hp:σ->Heap) (z:Ex×Frm×Heap) (hz:∃ i,z.1=.exit i) (rank:σ->Nat) (Q:σ->Prop)
  (hr:∀ s,Q s->(∃ s',Q s'/\rank s'<rank s/\CU P nt c (fr s) (hp s) (.normal,fr s',hp s'))\/CU P nt c (fr s) (hp s) z) (s:σ) (hs:Q s):CU P nt (.loop c) (fr s) (hp s) z:=by
 intro n0 wi Gi μi a w hfl hI;refine wp_loop_ghost (λk a w=>∃ s,Q s/\rank s=k/\I n0 wi Gi μi nt (fr s) (hp s) a w) (rank s) ⟨s,hs,rfl,hI⟩ ?_;rintro k a w ⟨s,hs,rfl,hI⟩;rcases hr s hs with ⟨s',q1,q2,q3⟩|q
 ·refine wp_mono (q3 n0 wi Gi μi a w hfl hI) ?_;rintro e a' w' ⟨rfl,hI'⟩;exact⟨rank s',q2,s',q1,rfl,hI'⟩
 ·refine wp_mono (q n0 wi Gi μi a w hfl hI) ?_;obtain⟨i,hi⟩:=hz;obtain⟨e0,F0,H0⟩:=z;dsimp only at hi;subst hi;rintro e a' w' ⟨rfl,hI'⟩;exact⟨rfl,hI'⟩
theorem aB5 {g:Nat} {fn:Func} (hP:tW P) (hg:P.funcs[g]?=some fn) {c:Code} (hc:fn.body=some c) {aU:Nat} {args rets:List Kd} {f:aL args->Option (aL rets)}
  (hb:∀ x y,f x=some y->Nat.ble (eX args x).length fn.ntmps=true/\∃ r,NV P fn.results.toList rets r.1 r.2.1 r.2.2=some y/\CU P fn.ntmps c (start aU 0 (eX args x)) [] r):wO P g args rets f:=by
 intro x y hy;obtain⟨hlen,⟨ex,F',H'⟩,h1,h2⟩:=hb x y hy;obtain⟨vs,q,hex,hvs,hq,hd⟩:∃ vs q,(ex=.normal\/ex=.ret)/\jF P F' H' fn.results.toList=some vs/\ZJ H' (cG vs)=some q/\V5 rets q=some y:=by
  unfold NV at h1;split at h1
  ·cases h1
  ·rename_i hne;split at h1
   ·rename_i vs hvs;split at h1
    ·rename_i q hq;refine⟨vs,q,?_,hvs,hq,h1⟩;cases ex with
     | normal=>exact .inl rfl
     | ret=>exact .inr rfl
     | exit i=>exact absurd rfl (hne i)
    ·cases h1
   ·cases h1
 have hcall:∀ {n0 G μ w us},aM n0 G μ [] w->VRs w G μ (eX args x) us->lN P n0 w G μ g us.toArray (cG vs) H':=by
  intro n0 G μ w us hW hv;refine⟨enters hg (hP.names g fn hg) (by rw[hc]; rfl) _ _,calls_of_wp hg hc ?_⟩;have hI:I n0 w G μ fn.ntmps (start aU 0 (eX args x)) [] ⟨us.toArray++Array.replicate (fn.ntmps-us.toArray.size) undef,[]⟩ w:=⟨G,μ,Ext.refl _ _ _ _,hW,lB (by simpa using hv) (oL hlen)⟩;refine wp_mono (h2 n0 w G μ _ w (λr=>hW.top r (Nat.zero_le _)) hI) ?_;rintro e a' w' ⟨rfl,G',μ',e',hW',hF'⟩;obtain⟨ws,h3,h4⟩:=gH (P:=P) hW' hF' hvs
  have hres:(results fn a'.tmps).run P w'=.ok (if hh:ws.toArray.size=1 then ws.toArray[0] else .tuple ws.toArray) w':=by
   rw[mR,Array.mapM_eq_mapM_toList]
   simp_all
  have hpost:a'.defers=[]/\∃ v,(results fn a'.tmps).run P w'=.ok v w'/\(∃ v' G'' μ'',Ending.returned v=.returned v'/\Ext n0 w G μ w' G'' μ''/\aM n0 G'' μ'' H' w'/\VR w' G'' μ'' (cG vs) v') :=
   ⟨hF'.defers,_,hres,_,G',μ',rfl,e',hW',iH h4⟩
  rcases hex with rfl|rfl
  ·exact hpost
  ·exact hpost
 have hp:=uI hcall (pP hq).1 (pP hq).2;intro w G us hlt hv;obtain⟨h3,h4⟩:=hp w G us hlt hv;refine⟨h3,h4.mono ?_⟩;rintro e w' ⟨v',G',rfl,e1,e2,e3⟩;exact⟨v',G',rfl,e1,e2,BW hd e3⟩
theorem aV2 {a:Act} {b0:Blk} {e eb:TypeId} {t:Ty} {A B C:List t.den} {k:PV} (hI:I n0 wi Gi μi nt F [some b0,some ⟨aD t A,e,true,false,some ⟨t,A⟩⟩,some ⟨aD t B,e,true,false,some ⟨t,B⟩⟩,some ⟨aD t C,e,true,false,some ⟨t,C⟩⟩,some ⟨[k,.own 1 t.size,.own 2 t.size,.own 3 t.size],eb,false,false,none⟩] a w) :
  I n0 wi Gi μi nt F [some b0,some ⟨aD t A,e,true,true,some ⟨t,A⟩⟩,some ⟨aD t B,e,true,true,some ⟨t,B⟩⟩,some ⟨aD t C,e,true,true,some ⟨t,C⟩⟩,some ⟨[k,kD t A none,kD t B none,kD t C none],eb,false,false,none⟩] a w:=by
 obtain⟨G,μ,e0,hW,hF⟩:=hI;obtain⟨e1,w1⟩:=qW hW (r:=1) rfl rfl;obtain⟨e2,w2⟩:=qW w1 (r:=2) rfl rfl;obtain⟨e3,w3⟩:=qW w2 (r:=3) rfl rfl;have w4:=rI w3 (s:=4) (cs:=[k,kD t A none,kD t B none,kD t C none]) rfl rfl λb o hc=>?_
 ·exact⟨_,μ,((e0.trans e1).trans e2).trans e3,w4,((hF.mono e1.toMono).mono e2.toMono).mono e3.toMono⟩
 ·refine⟨?_,rfl⟩;obtain⟨vs,d1,d2⟩:=hc.values;rw[VRs]at d1;obtain⟨v0,vs0,rfl,c0,d1⟩:=d1;rw[VRs]at d1;obtain⟨v1,vs1,rfl,c1,d1⟩:=d1;rw[VRs]at d1;obtain⟨v2,vs2,rfl,c2,d1⟩:=d1;rw[VRs]at d1;obtain⟨v3,vs3,rfl,c3,d1⟩:=d1;have fz:∀ (r:Nat) (L:List t.den) v,((([some b0,some ⟨aD t A,e,true,true,some ⟨t,A⟩⟩,some ⟨aD t B,e,true,true,some ⟨t,B⟩⟩,some ⟨aD t C,e,true,true,some ⟨t,C⟩⟩,some ⟨[k,.own 1 t.size,.own 2 t.size,.own 3 t.size],eb,false,false,none⟩]:Heap)[r]?)=some (some ⟨aD t L,e,true,true,some ⟨t,L⟩⟩)) ->
    VR w (((G.or λx=>μ.loc 1=some x).or λx=>μ.loc 2=some x).or λx=>μ.loc 3=some x) μ (.own r t.size) v->VR w (((G.or λx=>μ.loc 1=some x).or λx=>μ.loc 2=some x).or λx=>μ.loc 3=some x) μ (kD t L none) v:=λr L v hr hv =>
   (rG (g:=⟨t,L⟩) w3 hv (by unfold dY; exact(show (match ([some b0,some ⟨aD t A,e,true,true,some ⟨t,A⟩⟩,some ⟨aD t B,e,true,true,some ⟨t,B⟩⟩,some ⟨aD t C,e,true,true,some ⟨t,C⟩⟩,some ⟨[k,.own 1 t.size,.own 2 t.size,.own 3 t.size],eb,false,false,none⟩]:Heap)[r]? with|some (some k)=>some k|_=>none)=_ by rw[hr])) rfl (λb h=>h) (λb hb=>by
    obtain⟨_,_,_,_,g5,_⟩:=w3.blk r _ b hr hb;exact g5 rfl)).aP
  refine aK.gD (vs:=v0::v1::v2::v3::vs3) ?_ d2;rw[VRs];refine⟨v0,_,rfl,c0,?_⟩;rw[VRs];refine⟨v1,_,rfl,fz 1 A v1 rfl c1,?_⟩;rw[VRs];refine⟨v2,_,rfl,fz 2 B v2 rfl c2,?_⟩;rw[VRs];exact⟨v3,_,rfl,fz 3 C v3 rfl c3,d1⟩
end
def orO {α:Type}:Option α->Option α->Option α
 | some z,_=>some z
 | none,y=>y
section
variable {P:Program} {ae:TypeId} {t:Ty}
theorem aVP {g args rets}{f1 f2:aL args->Option (aL rets)}(h1:wO P g args rets f1)(h2:wO P g args rets f2):wO P g args rets λx=>orO (f1 x) (f2 x):=by
 intro x y hy;dsimp only at hy;cases hz:f1 x with
 | some z=>exact h1 x y (by rw[hz]at hy ⊢; exact hy)
 | none=>exact h2 x y (by rw[hz]at hy; exact hy)
end
open Go Go.RowKit Go.Proofs Tryz
set_option maxHeartbeats 4000000
def sqA:Code->Code
 | .seq a _=>a
 | c=>c
def sqB:Code->Code
 | .seq _ b=>b
 | c=>c
def rgO:Code->Array Oper
 | .region _ ops _=>ops
 | _=>#[]
abbrev lI(n:Int):PV:=.lit (.int .i64 n)
abbrev LyT:Ty:=.prod (.int .i64) (.prod (.list (.int .i64)) (.prod (.list (.int .i64)) (.list (.int .i64))))
abbrev KyT:Ty:=.prod (.int .i64) (.int .i64)
abbrev kpA:List Kd:=[.agg LyT,.agg KyT]
abbrev cA:Code:=LI
abbrev kA:Nat:=bO Tryz.f24
def pA0:Code:=sqA cA
def pA1:Code:=sqA (sqB cA)
def pA2:Code:=sqA (sqB (sqB cA))
def pA3:Code:=sqB (sqB (sqB cA))
def oA2:Array Oper:=rgO pA2
theorem aVW:cA=.seq pA0 (.seq pA1 (.seq pA2 pA3)):=by kernel_rfl
theorem aTC:pA2=.region 2 oA2 false:=by kernel_rfl
def oCp:Oper:=oA2.toList.getD 3 ⟨none,.nilCheck (.const undef),0,"",#[],none⟩
theorem aTR:oA2.toList=oA2.toList.take 3++[oCp]:=by kernel_rfl
theorem aGD:oCp.op=.call { callee:=.builtin .copy,args:=#[.tmp 11,.tmp 13],argTypes:=#[29,29] }/\oCp.dst=some 14/\oCp.guard=none:=⟨by kernel_rfl,by kernel_rfl,by kernel_rfl⟩
theorem WJ(w:World)(ty:TypeId)(x y:Option Addr)(c c':Nat):(Builtin.copy_ #[29,29] ty #[.slice x 0 c,.slice y 0 c']).run Tryz.prog w=.ok (goInt 0) w:=by
 have hq:∃ i:TypeInfo,Tryz.prog.info? 3=some i:=⟨(Tryz.prog.info? 3).get (by kernel_rfl),(Option.some_get _).symm⟩;obtain⟨i,hq⟩:=hq;have hz:∀ a:Addr,(loadCells a 0).run Tryz.prog w=.ok #[] w:=λa=>run_loadCells_list (P:=Tryz.prog) w a [] (λj v h=>by simp at h)
 cases x <;> cases y <;> simp[Builtin.copy_,run_underlying underlying29,Builtin.lenOf,Builtin.firstCells,sizeOf,typeInfo,hq,storeCells,hz]
abbrev H0A(k:Int) (r u:List Int) (X Y:Int):Heap:=[some ⟨enc LyT (k,([],(r,u))),31,false,false,none⟩,some ⟨enc KyT (X,Y),46,false,false,none⟩]
abbrev H1A(k:Int) (r u:List Int) (X Y:Int):Heap:=[some ⟨enc LyT (k,([],(r,u))),31,false,false,none⟩,some ⟨enc KyT (X,Y),46,false,false,none⟩,some ⟨aD (.int .i64) [],3,true,false,some ⟨.int .i64,[]⟩⟩]
abbrev aQ1:PV:=kD (.int .i64) [] none
theorem aXL(k:Int)(r u:List Int)(X Y:Int):jO Tryz.prog vP 45 kA (λ_=>none) pA0 (start kA 0 (eX kpA ((k,([],(r,u))),(X,Y),()))) [] (kS [2,3,4])=some (.normal,[.hptr 0 0,.hptr 1 0,.lit (.slice none 0 0)],H0A k r u X Y):=by kernel_rfl
theorem aXG(k:Int)(r u:List Int)(X Y:Int):jO Tryz.prog vP 45 kA (λ_=>none) pA1 [(2,.hptr 0 0),(3,.hptr 1 0),(4,.lit (.slice none 0 0))] (H0A k r u X Y) (kS [2,3,4,5])=some (.normal,[.hptr 0 0,.hptr 1 0,.lit (.slice none 0 0),.own 2 1],H1A k r u X Y):=by kernel_rfl
theorem aW4(k:Int)(r u:List Int)(X Y:Int):yW Tryz.prog vP 45 oA2.toList (oA2.toList.take 3) [(2,.hptr 0 0),(3,.hptr 1 0),(4,.lit (.slice none 0 0)),(5,.own 2 1)] (H1A k r u X Y) (kO [2,3,4,5,11,13])=some ([.hptr 0 0,.hptr 1 0,.lit (.slice none 0 0),.own 2 1,.own 2 1,aQ1],H1A k r u X Y):=by kernel_rfl
theorem aXU(k:Int)(r u:List Int)(X Y:Int):jO Tryz.prog vP 45 kA BR pA3 [(2,.hptr 0 0),(3,.hptr 1 0),(4,.lit (.slice none 0 0)),(5,.own 2 1)] (H1A k r u X Y) (NV Tryz.prog Tryz.f24.results.toList [.list (.int .i64)])=aB (iY ((k,([],(r,u))),(X,Y),[],0,0,())) λz=>some (z.1,()):=by kernel_rfl
def QC(x:aL kpA):Option (aL [.list (.int .i64)]):=match x with
 | (v0,v1,())=>match v0.2.1 with
  | []=>aB (iY ((v0.1,([],(v0.2.2.1,v0.2.2.2))),(v1.1,v1.2),[],0,0,())) λz=>some (z.1,())
  | _::_=>none
theorem hlA:∀ a∈bI pA3,∀ s,BR (aO a)=some s->fJ Tryz.prog 45 a s:=by
 have h:bI pA3=[uP]:=by kernel_rfl
 exact bQ h ⟨j5 C6 rfl GH,trivial⟩
theorem aUU(k:Int)(r u:List Int)(X Y:Int):CU Tryz.prog 45 pA2 [(2,.hptr 0 0),(3,.hptr 1 0),(4,.lit (.slice none 0 0)),(5,.own 2 1)] (H1A k r u X Y) (.normal,[(2,.hptr 0 0),(3,.hptr 1 0),(4,.lit (.slice none 0 0)),(5,.own 2 1)],H1A k r u X Y):=by
 intro n0 wi Gi μi a w hfl hI;rw[aTC];refine wp_region_list ?_;rw[aTR];obtain⟨F1,H1',h1,h2⟩:=mE (aW4 k r u X Y);simp only[kO,oJ,oP]at h2;obtain⟨h2,rfl⟩:=h2;refine LK pU.callee _ _ _ a w h1 hI λa1 w1 hI1=>?_
 have hI1:=hI1.WG λt=>I2 F1 t [2,3,4,5,11,13]
 rw[h2]at hI1;obtain⟨G1,μ1,e1,hW1,hF1⟩:=hI1;have v11:VR w1 G1 μ1 (.own 2 1) (a1.eval (.tmp 11)):=aZ hF1 (.tmp 11);have v13:VR w1 G1 μ1 aQ1 (a1.eval (.tmp 13)):=aZ hF1 (.tmp 13);have ht:μ1.len 2=some 0:=(hW1.tags 2 _ ⟨.int .i64,[]⟩ rfl rfl).2;obtain⟨x,c,e11⟩:∃ x c,a1.eval (.tmp 11)=.slice x 0 c:=by
  rw[VR]at v11;obtain⟨n,b1,b2⟩:=v11;rw[ht]at b1;cases b1;rcases b2 with ⟨_,ao,b3⟩|⟨b,c,_,b3,_⟩
  ·exact⟨_,_,b3⟩
  ·exact⟨_,_,b3⟩
 obtain⟨x',c',e13⟩:∃ x c,a1.eval (.tmp 13)=.slice x 0 c:=by
  unfold aQ1 kD at v13;rw[VR]at v13;obtain⟨g1,-⟩:=v13;rw[VR]at g1;obtain⟨ao,c,b1,-,-,-⟩:=g1;exact⟨_,_,b1⟩
 have hx:(execOp a1.eval oCp).run Tryz.prog w1=.ok (.value (goInt 0)) w1:=by
  unfold execOp;simp only[aGD.1,resolve,invoke,builtin,Sem.run_bind,Sem.run_pure,Result.andThen_ok,List.map_toArray,List.map_cons,List.map_nil,e11,e13,WJ]
 unfold wpList;rw[if_pos (by simp[Region.wanted,aGD.2.2])];refine .inl ?_;unfold Oper.wp;rw[hx];rw[Oper.upon_value,aGD.2.1];have hF2:=hF1.N4 (d:=some 14) (p:=.lit (goInt 0)) (v:=goInt 0) rfl (by rw[VR]);exact⟨rfl,I.WG ⟨G1,μ1,e1,hW1,hF2⟩ λt=>I2 ((14,.lit (goInt 0))::[2,3,4,5,11,13].zip [.hptr 0 0,.hptr 1 0,.lit (.slice none 0 0),.own 2 1,.own 2 1,aQ1]) t [2,3,4,5]⟩
theorem aAE:wO Tryz.prog 24 kpA [.list (.int .i64)] QC:=by
 refine aB5 aV func24 (c:=cA) (by kernel_rfl) (aU:=kA) ?_;rintro⟨⟨k,o,r,u⟩,⟨X,Y⟩,⟨⟩⟩ y hy;refine⟨rfl,?_⟩;cases o with
 | cons a l=>cases hy
 | nil =>
  have h9:=fL pU.callee aV.mixed pA3 _ _ _ y hlA ((aXU k r u X Y).trans hy);obtain⟨q,hr1,hr2⟩:=h9;refine⟨q,hr1,?_⟩;have nl:∀ {c:Code},∀ a∈bI c,∀ s,(λ_=>none:Nat->Option bT) (aO a)=some s->fJ Tryz.prog 45 a s:=λ_ _ _ h=>by cases h
  rw[aVW];exact rE (tY pU.callee aV.mixed nl (aXL k r u X Y)) (rE (tY pU.callee aV.mixed nl (aXG k r u X Y)) (rE (aUU k r u X Y) hr2))
def qN(x:aL kpA):Option (aL [.list (.int .i64)]):=orO (BA x) (QC x)
theorem aBC:wO Tryz.prog 24 kpA [.list (.int .i64)] qN:=aVP aC1 aAE
abbrev aBW:Ent:=⟨24,kpA,[.list (.int .i64)],qN⟩
theorem U7:Ent.OK Tryz.prog aBW:=aBC
def pE(x:aL [.agg (.prod (.int .i64) (.prod (.list (.int .i64)) (.prod (.list (.int .i64)) (.list (.int .i64))))),.agg (.prod (.int .i64) (.int .i64))]):Option (aL [.list (.int .i64),.int .i64]):=match x with
 | (v0,v1,()) =>
  aB (pT ((v0.1,(v0.2.1,(v0.2.2.1,v0.2.2.2))),())) λy1 =>
  bif !(eqI y1.1 0) then
   some ([],y1.1,())
  else aB (wM ((v1.1,v1.2),())) λy2 =>
  bif y2.1 then
   some ([],3,())
  else aB (qN ((v0.1,(v0.2.1,(v0.2.2.1,v0.2.2.2))),(v1.1,v1.2),())) λy3 =>
  aB (f37 (y3.1,())) λy4 =>
  bif !(eqI y4.1 0) then
   some ([],y4.1,())
  else some (y3.1,0,())
abbrev FH:Ent:=⟨8,[.agg (.prod (.int .i64) (.prod (.list (.int .i64)) (.prod (.list (.int .i64)) (.list (.int .i64))))),.agg (.prod (.int .i64) (.int .i64))],[.list (.int .i64),.int .i64],pE⟩
theorem FW:Ent.OK Tryz.prog FH:=oI (aQ (oV ZV (oV O7 (oV U7 (oV UW oW))))) func8 (by kernel_rfl) (by rintro⟨v0,v1,⟨⟩⟩; kernel_rfl)
end Go.PM
