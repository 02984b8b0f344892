/- Texts of one proof, joined (8). -/
import Derived.Test.YtmghkhgpkefgeaaGreatDoorQE7
set_option linter.unusedSimpArgs false
set_option linter.unusedVariables false
set_option maxRecDepth 100000
noncomputable section
namespace Go.PM
open Go Go.RowKit Go.Proofs Go.Lz
theorem JM {σ τ:Type} {step:σ->Option (σ⊕τ)} {N:Nat} (s:Nat->σ) (k:Nat) (good:Nat->Prop) (P:τ->Prop) (hk:k<N)
  (h:∀ t,t<k->(∀ u,u<t->good u)->(step (s t)=some (.inl (s (t+1)))/\good t)\/∃ e,step (s t)=some (.inr e)/\P e)
  (he:(∀ t,t<k->good t)->∃ e,step (s k)=some (.inr e)/\P e):∃ e,bY step N (s 0)=some e/\P e:=by
 have aux:∀ m j N,j+m=k->m<N->(∀ u,u<j->good u)->∃ e,bY step N (s j)=some e/\P e:=by
  intro m
  induction m with
  | zero =>
   intro j N hj hN hg;obtain rfl:j=k:=by omega
   obtain⟨N,rfl⟩:∃ M,N=M+1:=⟨N-1,by omega⟩;obtain⟨e,h1,h2⟩:=he hg;exact⟨e,by rw[fI,h1],h2⟩
  | succ m ih =>
   intro j N hj hN hg;obtain⟨N,rfl⟩:∃ M,N=M+1:=⟨N-1,by omega⟩;rcases h j (by omega) hg with ⟨h1,h2⟩|⟨e,h1,h2⟩
   ·obtain⟨e,g1,g2⟩:=ih (j+1) N (by omega) (by omega) λu hu=>by
     by_cases e:u=j
     ·subst e; exact h2
     ·exact hg u (by omega)
    exact⟨e,by rw[fI,h1]; exact g1,g2⟩
   ·exact⟨e,by rw[fI,h1],h2⟩
 exact aux k 0 N (by omega) hk λu hu=>by omega
theorem aZV(r:List Int)(hl:r.length<1048576):∃ b,dG (r,(),())=some (b,())/\(b=false->∀ t,t<r.length->(r.getD t 0).natAbs<=1000000000):=by
 obtain⟨e,h1,h2⟩:=JM (step:=bE) (N:=2^64) (λt=>(r,(),(r.length:Int),(t:Int),())) r.length (λt=>(r.getD t 0).natAbs<=1000000000) (λe=>(∃ i:Nat,e=.inl ((i:Int),()))\/(e=.inr ()/\∀ t,t<r.length->(r.getD t 0).natAbs<=1000000000)) (by omega) (λt ht _=>by
  have e1:ltI (t:Int) (r.length:Int)=true:=by rw[aF]; exact oT (by omega)
  have e2:aJ (t:Int) r.length=true:=by rw[aP]; exact oT (by omega)
  have e3:((t:Nat):Int).toNat=t:=oN _;have e4:=cZ t (by omega)
  by_cases g:(r.getD t 0).natAbs<=1000000000
  ·left;have a1:ltI (r.getD t 0) (-1000000000)=false:=by rw[aF]; exact oF (by omega)
   have a2:ltI 1000000000 (r.getD t 0)=false:=by rw[aF]; exact oF (by omega)
   exact⟨by simp only[bE,e1,e2,e3,e4,C1,NF,a1,a2,aE,Bool.not_false,oC,oD],g⟩
  ·right;refine⟨.inl ((t:Int),()),?_,.inl ⟨t,rfl⟩⟩
   by_cases g2:r.getD t 0 < -1000000000
   ·have a1:ltI (r.getD t 0) (-1000000000)=true:=by rw[aF]; exact oT g2
    simp only[bE,e1,e2,e3,e4,C1,NF,a1,aE,Bool.not_true,oC,oD]
   ·have a1:ltI (r.getD t 0) (-1000000000)=false:=by rw[aF]; exact oF g2
    have a2:ltI 1000000000 (r.getD t 0)=true:=by rw[aF]; exact oT (by omega)
    simp only[bE,e1,e2,e3,e4,C1,NF,a1,a2,aE,Bool.not_true,Bool.not_false,oC,oD]) (λhg=>by
  have e1:ltI (r.length:Int) (r.length:Int)=false:=by rw[aF]; exact oF (by omega)
  exact⟨.inr (),by simp only[bE,e1,oD],.inr ⟨rfl,hg⟩⟩)
 have key:fM (r,(),(r.length:Int),0,())=some e:=h1;rcases h2 with ⟨i,rfl⟩|⟨rfl,h2⟩
 ·have e2:ltI (i:Int) 0=false:=by rw[aF]; exact oF (by omega)
  exact⟨true,by simp only[dG,fS,key,aE,qK,e2,Bool.not_false],λh=>by cases h⟩
 ·have e2:ltI (-1) 0=true:=by decide
  exact⟨false,by simp only[dG,fS,key,aE,kE,e2,Bool.not_true],λ_=>h2⟩
theorem aUD(r:List Int)(hl:r.length<1048576):∃ e,vT (r,())=some (e,())/\(e=0->∀ t,t<r.length->(r.getD t 0).natAbs<=1000000000):=by
 by_cases g:64<r.length
 ·have e1:ltI 64 (r.length:Int)=true:=by rw[aF]; exact oT (by omega)
  exact⟨4,by simp only[vT,e1,oC],λh=>by cases h⟩
 ·have e1:ltI 64 (r.length:Int)=false:=by rw[aF]; exact oF (by omega)
  obtain⟨b,h1,h2⟩:=aZV r hl;cases b with
  | true=>exact⟨4,by simp only[vT,e1,oD,h1,aE,oC],λh=>by cases h⟩
  | false=>exact⟨0,by simp only[vT,e1,oD,h1,aE],λ_=>h2 rfl⟩
theorem aVW(rows:List (List Int))(n:Nat)(hk:rows.length<1048576)(hr:∀ r∈rows,r.length<1048576):∃ e,vB (rows,(n:Int),())=some (e,())/\(e=0->∀ t,t<rows.length->(rows.getD t []).length=n/\∀ x,x<n->((rows.getD t []).getD x 0).natAbs<=1000000000):=by
 have e0:eqI 0 0=true:=by decide
 obtain⟨e,h1,h2⟩:=JM (step:=fU) (N:=2^64) (λt=>((n:Int),rows,(rows.length:Int),(t:Int),())) rows.length (λt=>(rows.getD t []).length=n/\∀ x,x<n->((rows.getD t []).getD x 0).natAbs<=1000000000)
  (λe=>(∃ i:Int,i≠0/\e=.inl (i,()))\/(e=.inr ()/\∀ t,t<rows.length->(rows.getD t []).length=n/\∀ x,x<n->((rows.getD t []).getD x 0).natAbs<=1000000000)) (by omega) (λt ht _=>by
  have e1:ltI (t:Int) (rows.length:Int)=true:=by rw[aF]; exact oT (by omega)
  have e2:aJ (t:Int) rows.length=true:=by rw[aP]; exact oT (by omega)
  have e3:((t:Nat):Int).toNat=t:=oN _;have e4:=cZ t (by omega);have hm:rows.getD t []∈rows:=by simp[List.getD,ht]
  obtain⟨w,w1,w2⟩:=aUD (rows.getD t []) (hr _ hm)
  by_cases g:w=0
  ·subst g
   by_cases g2:(rows.getD t []).length=n
   ·left;have e5:eqI ((rows.getD t []).length:Int) (n:Int)=true:=by rw[fO]; exact oT (by omega)
    exact⟨by simp only[fU,e1,e2,e3,e4,w1,e5,e0,aE,Bool.not_true,oC,oD],g2,λx hx=>w2 rfl x (by omega)⟩
   ·right;have e5:eqI ((rows.getD t []).length:Int) (n:Int)=false:=by rw[fO]; exact oF (by omega)
    exact⟨.inl (5,()),by simp only[fU,e1,e2,e3,e4,w1,e5,e0,aE,Bool.not_true,Bool.not_false,oC,oD],.inl ⟨5,by decide,rfl⟩⟩
  ·right;have e5:eqI w 0=false:=by rw[fO]; exact oF g
   exact⟨.inl (w,()),by simp only[fU,e1,e2,e3,e4,w1,e5,aE,Bool.not_false,oC],.inl ⟨w,g,rfl⟩⟩) (λhg=>by
  have e1:ltI (rows.length:Int) (rows.length:Int)=false:=by rw[aF]; exact oF (by omega)
  exact⟨.inr (),by simp only[fU,e1,oD],.inr ⟨rfl,hg⟩⟩)
 have key:vX ((n:Int),rows,(rows.length:Int),0,())=some e:=h1;rcases h2 with ⟨i,hi,rfl⟩|⟨rfl,h2⟩
 ·exact⟨i,by simp only[vB,key,aE,qK],λh=>absurd h hi⟩
 ·exact⟨0,by simp only[vB,key,aE,kE],λ_=>h2⟩
section
variable {k n:Nat} {M:Nat->V}
theorem a4A(hn:n<1048576)(v:V):∃ L:Int,sW (Vr n v,())=some (L,())/\((L = -1/\∀ x,x<n->v x=0)\/∃ x,x<n/\L=(x:Int)/\v x≠0/\∀ y,y<x->v y=0):=by
 have hl:=vG n v;obtain⟨e,h1,h2⟩:=JM (step:=bF) (N:=2^64) (λt=>(Vr n v,(),(n:Int),(t:Int),())) n (λt=>v t=0) (λe=>(∃ x,x<n/\e=.inl ((x:Int),())/\v x≠0/\∀ y,y<x->v y=0)\/(e=.inr ()/\∀ x,x<n->v x=0)) (by omega) (λt ht hg=>by
  have e1:ltI (t:Int) (n:Int)=true:=by rw[aF]; exact oT (by omega)
  have e2:aJ (t:Int) n=true:=by rw[aP]; exact oT (by omega)
  have e3:((t:Nat):Int).toNat=t:=oN _;have e4:=cZ t (by omega)
  by_cases g:v t=0
  ·left;have e5:eqI (v t) 0=true:=by rw[fO]; exact oT g
   exact⟨by simp only[bF,hl,e1,e2,e3,e4,PW v ht,rW,e5,aE,Bool.not_true,oC,oD],g⟩
  ·right;have e5:eqI (v t) 0=false:=by rw[fO]; exact oF g
   exact⟨.inl ((t:Int),()),by simp only[bF,hl,e1,e2,e3,e4,PW v ht,rW,e5,aE,Bool.not_false,oC],.inl ⟨t,ht,rfl,g,hg⟩⟩) (λhg=>by
  have e1:ltI (n:Int) (n:Int)=false:=by rw[aF]; exact oF (by omega)
  exact⟨.inr (),by simp only[bF,e1,oD],.inr ⟨rfl,hg⟩⟩)
 have key:bY bF (2^64) (Vr n v,(),(n:Int),0,())=some e:=h1;rcases h2 with ⟨x,hx,rfl,g1,g2⟩|⟨rfl,h2⟩
 ·exact⟨(x:Int),by simp only[sW,fR,dV,hl,key,aE,qK],.inr ⟨x,hx,rfl,g1,g2⟩⟩
 ·exact⟨-1,by simp only[sW,fR,dV,hl,key,aE,kE],.inl ⟨rfl,h2⟩⟩
theorem a3A {t p:Nat}(hn:n<1048576)(ht:t<1048576)(hp:p<n)(r:V):∃ b,bT (Mr t n M,((p:Int),Vr n r,()),())=some (b,())/\(b=false->∀ s,s<t->0<=M s p/\M s p<r p):=by
 have hl:=vH t n M;obtain⟨e,h1,h2⟩:=JM (step:=aR) (N:=2^64) (λs=>(Mr t n M,((p:Int),Vr n r,()),(t:Int),(s:Int),())) t (λs=>0<=M s p/\M s p<r p) (λe=>(∃ x:Nat,e=.inl ((x:Int),()))\/(e=.inr ()/\∀ s,s<t->0<=M s p/\M s p<r p)) (by omega) (λs hs _=>by
  have e1:ltI (s:Int) (t:Int)=true:=by rw[aF]; exact oT (by omega)
  have e2:aJ (s:Int) t=true:=by rw[aP]; exact oT (by omega)
  have e3:∀ a:Nat,((a:Nat):Int).toNat=a:=λa=>oN _
  have e4:=aO5 (n:=n) M hs [];have e5:aJ (p:Int) n=true:=by rw[aP]; exact oT (by omega)
  have e9:=cZ s (by omega)
  by_cases g1:M s p<0
  ·have e6:ltI (M s p) 0=true:=by rw[aF]; exact oT g1
   exact .inr ⟨.inl ((s:Int),()),by simp only[aR,hl,e1,e2,e3,e4,oO,vG,e5,PW _ hp,e6,e9,aE,oC],.inl ⟨s,rfl⟩⟩
  ·have e6:ltI (M s p) 0=false:=by rw[aF]; exact oF g1
   by_cases g2:M s p<r p
   ·have e7:ltI (M s p) (r p)=true:=by rw[aF]; exact oT g2
    exact .inl ⟨by simp only[aR,hl,e1,e2,e3,e4,oO,vG,e5,PW _ hp,e6,e7,e9,aE,Bool.not_true,oC,oD],by omega,g2⟩
   ·have e7:ltI (M s p) (r p)=false:=by rw[aF]; exact oF g2
    exact .inr ⟨.inl ((s:Int),()),by simp only[aR,hl,e1,e2,e3,e4,oO,vG,e5,PW _ hp,e6,e7,e9,aE,Bool.not_false,oC,oD],.inl ⟨s,rfl⟩⟩) (λhg=>by
  have e1:ltI (t:Int) (t:Int)=false:=by rw[aF]; exact oF (by omega)
  exact⟨.inr (),by simp only[aR,e1,oD],.inr ⟨rfl,hg⟩⟩)
 have key:bY aR (2^64) (Mr t n M,((p:Int),Vr n r,()),(t:Int),0,())=some e:=h1;rcases h2 with ⟨x,rfl⟩|⟨rfl,h2⟩
 ·have e2:ltI (x:Int) 0=false:=by rw[aF]; exact oF (by omega)
  exact⟨true,by simp only[bT,dI,cJ,hl,key,aE,qK,e2,Bool.not_false],λh=>by cases h⟩
 ·have e2:ltI (-1) 0=true:=by decide
  exact⟨false,by simp only[bT,dI,cJ,hl,key,aE,kE,e2,Bool.not_true],λ_=>h2⟩
theorem a1C(hk:k<1048576) (hn:n<1048576):∃ b,qN (Mr k n M,())=some (b,())/\(b=true->∃ p,Hn k M p):=by
 have hl:=vH k n M;obtain⟨L,hL⟩:=Classical.axiomOfChoice λt=>a4A hn (M t)
 obtain⟨q,hq⟩:∃ q:Nat->Int,q=λt=>if t=0 then -1 else L (t-1):=⟨_,rfl⟩
 have q0:q 0 = -1:=by rw[hq]; rfl
 have q1:∀ t,q (t+1)=L t:=λt=>by rw[hq]; simp
 obtain⟨good,hgood⟩:∃ good:Nat->Prop,good=λt=>q t<L t/\∃ x,x<n/\L t=(x:Int)/\0<M t x/\(∀ y,y<x->M t y=0)/\∀ s,s<t->0<=M s x/\M s x<M t x:=⟨_,rfl⟩
 obtain⟨e,h1,h2⟩:=JM (step:=dE) (N:=2^64) (λt=>(Mr k n M,q t,Mr k n M,(k:Int),(t:Int),())) k good (λe=>e=.inl (false,())\/(e=.inr ()/\∀ t,t<k->good t)) (by omega) (λt ht hg=>by
  have e1:ltI (t:Int) (k:Int)=true:=by rw[aF]; exact oT (by omega)
  have e2:aJ (t:Int) k=true:=by rw[aP]; exact oT (by omega)
  have e3:∀ a:Nat,((a:Nat):Int).toNat=a:=λa=>oN _
  have e4:=aO5 (n:=n) M ht [];obtain⟨l1,l2⟩:=hL t;have hqt : -1<=q t:=by
   cases t with
   | zero=>rw[q0]; omega
   | succ t =>
    rw[q1];have:=hg t (by omega);rw[hgood]at this;obtain⟨_,x,_,e,_⟩:=this;omega
  by_cases g:q t<L t
  ·have e6:ltI (q t) (L t)=true:=by rw[aF]; exact oT g
   rcases l2 with ⟨l3,_⟩|⟨x,x1,x2,x3,x4⟩
   ·omega
   rw[x2]at l1 e6;have e7:aJ (x:Int) n=true:=by rw[aP]; exact oT (by omega)
   have e9:ltI (t:Int) 0=false:=by rw[aF]; exact oF (by omega)
   have e10:Nat.ble 0 t=true:=rfl;have e11:Nat.ble t k=true:=by rw[gG]; exact oT (by omega)
   have e12:((Mr k n M).drop 0).take (t-0)=Mr t n M:=by
    rw[List.drop_zero,Nat.sub_zero];unfold Mr;rw[<- List.map_take,List.take_range,Nat.min_eq_left (by omega)]
   have e14:=cZ t (by omega)
   by_cases g3:M t x<0
   ·have e8:ltI (M t x) 0=true:=by rw[aF]; exact oT g3
    exact .inr ⟨.inl (false,()),by simp only[dE,hl,e1,e2,e3,e4,l1,aE,e6,vG,e7,PW _ x1,e8,Bool.not_true,oC,oD],.inl rfl⟩
   ·have e8:ltI (M t x) 0=false:=by rw[aF]; exact oF g3
    obtain⟨b,b1,b2⟩:=a3A (M:=M) hn (show t<1048576 by omega) x1 (M t);cases b with
    | true=>exact .inr ⟨.inl (false,()),by simp only[dE,hl,e1,e2,e3,e4,l1,aE,e6,vG,e7,PW _ x1,e8,e9,e10,e11,e12,b1,Bool.not_true,Bool.not_false,oC,oD],.inl rfl⟩
    | false =>
     left;refine⟨?_,?_⟩
     ·simp only[dE,hl,e1,e2,e3,e4,l1,aE,e6,vG,e7,PW _ x1,e8,e9,e10,e11,e12,b1,e14,q1,x2,Bool.not_true,Bool.not_false,oC,oD]
     ·rw[hgood];exact⟨g,x,x1,x2,by omega,x4,b2 rfl⟩
  ·have e6:ltI (q t) (L t)=false:=by rw[aF]; exact oF g
   exact .inr ⟨.inl (false,()),by simp only[dE,hl,e1,e2,e3,e4,l1,aE,e6,Bool.not_false,oC],.inl rfl⟩) (λhg=>by
  have e1:ltI (k:Int) (k:Int)=false:=by rw[aF]; exact oF (by omega)
  exact⟨.inr (),by simp only[dE,e1,oD],.inr ⟨rfl,hg⟩⟩)
 simp only[q0]at h1;have key:bY dE (2^64) (Mr k n M,-1,Mr k n M,(k:Int),0,())=some e:=h1;rcases h2 with rfl|⟨rfl,h2⟩
 ·exact⟨false,by simp only[qN,o6,hl,key,aE,qK],λh=>by cases h⟩
 ·refine⟨true,by simp only[qN,o6,hl,key,aE,kE],λ_=>⟨λt=>(L t).toNat,?_⟩⟩;rw[hgood]at h2;have step:∀ t,t+1<k->L t<L (t+1):=λt ht=>by
   have:=(h2 (t+1) ht).1;rwa[q1]at this
  have inc:∀ i j,i<j->j<k->L i<L j:=by
   intro i j
   induction j with
   | zero=>intro h; omega
   | succ j ih =>
    intro h hj;have:=step j hj
    by_cases e:i=j
    ·subst e; exact this
    ·have:=ih (by omega) (by omega); omega
  refine⟨λi j hij hj=>?_,λi hi x hx=>?_,λi hi=>?_,λi j hij hj=>?_⟩
  ·obtain⟨_,x,_,e1,_⟩:=h2 i (by omega);have:=inc i j hij hj;show (L i).toNat<(L j).toNat;omega
  ·obtain⟨_,y,_,e1,_,e3,_⟩:=h2 i hi;exact e3 x (by have:x<(L i).toNat:=hx; omega)
  ·obtain⟨_,y,_,e1,e2,_⟩:=h2 i hi;show 0<M i (L i).toNat;rw[e1,oN]; exact e2
  ·obtain⟨_,y,_,e1,_,_,e4⟩:=h2 j hj;show 0<=M i (L j).toNat/\M i (L j).toNat<M j (L j).toNat;rw[e1,oN]; exact e4 i hij
end
theorem a9O(m:List (List Int)) (n:Nat) (h:∀ t,t<m.length->(m.getD t []).length=n):m=Mr m.length n (P8 m):=by
 refine List.ext_getElem (by rw[vH]) λi h1 h2=>?_
 have e1:(Mr m.length n (P8 m))[i]=Vr n (P8 m i):=by simp[Mr]
 rw[e1];have e2:m.getD i []=m[i]:=by simp[List.getD,h1]
 have:=h i h1;rw[e2]at this;unfold P8;rw[e2,<- this,a9U]
theorem aVN(m:List (List Int)) {n:Nat} (hk:m.length<=12) (hr:∀ r∈m,r.length<1048576) (hn:n<=12):∃ e,iL (((n:Int),m),())=some (e,())/\(e=0->∃ M p,m=Mr m.length n M/\Hn m.length M p/\Wd m.length n M/\Big m.length n M 1000000000):=by
 have e0:eqI 0 0=true:=by decide
 have c1:ltI (n:Int) 0=false:=by rw[aF]; exact oF (by omega)
 have c2:ltI 12 (n:Int)=false:=by rw[aF]; exact oF (by omega)
 have c3:ltI 12 (m.length:Int)=false:=by rw[aF]; exact oF (by omega)
 obtain⟨e,h1,h2⟩:=aVW m n (by omega) hr;have hc:s9 ((n:Int),m,())=some (e,()):=by simp only[s9,c1,c2,c3,oD,h1,aE]
 by_cases g:e=0
 ·subst g;have h2:=h2 rfl;have hM:=a9O m n λt ht=>(h2 t ht).1
  have hlen:∀ r∈m,r.length=n:=λr hr=>by
   obtain⟨i,hi,rfl⟩:=List.mem_iff_getElem.1 hr;have:=(h2 i hi).1;simpa[List.getD,hi]using this
  have hle:∀ r∈m,∀ a∈r,a.natAbs<=1000000000:=λr hr a ha=>by
   obtain⟨i,hi,rfl⟩:=List.mem_iff_getElem.1 hr;obtain⟨x,hx,rfl⟩:=List.mem_iff_getElem.1 ha;have h3:=(h2 i hi).2 x (by rw[<- hlen _ hr]; exact hx);have e2:m.getD i []=m[i]:=by simp[List.getD,hi]
   rw[e2]at h3;simpa[List.getD,hx]using h3
  have hw:Wd m.length n (P8 m):=λi hi x hx=>by
   have h3:=(h2 i hi).1;have h4:(m.getD i [])[x]?=none:=List.getElem?_eq_none (by omega);show ((m.getD i [])[x]?).getD 0=0;rw[h4]; rfl
  have hB:Big m.length n (P8 m) 1000000000:=λi hi x hx=>(h2 i hi).2 x hx
  have t1:=aEV m (n:=n) hk hn hlen hle;obtain⟨b,f1,f2⟩:=a1C (k:=m.length) (n:=n) (M:=P8 m) (by omega) (by omega);rw[<- hM]at f1;cases b with
  | true =>
   obtain⟨p,hp⟩:=f2 rfl;exact⟨0,by simp only[iL,hc,aE,e0,Bool.not_true,oD,xN,t1,f1,oC],λ_=>⟨P8 m,p,hM,hp,hw,hB⟩⟩
  | false=>exact⟨7,by simp only[iL,hc,aE,e0,Bool.not_true,oD,xN,t1,f1],λh=>by cases h⟩
 ·have e1:eqI e 0=false:=by rw[fO]; exact oF g
  exact⟨e,by simp only[iL,hc,aE,e1,Bool.not_false,oC],λh=>absurd h g⟩
theorem aKW:∀ (l:List UInt8) (acc m:Nat),Lib.decFrom acc l=some m->acc<=m
 | [],acc,m,h=>by
  simp only[Lib.decFrom]at h;injection h with h; omega
 | c::r,acc,m,h=>by
  by_cases hd:48<=c.toNat/\c.toNat<=57
  ·simp only[Lib.decFrom,Lib.digitVal,if_pos hd]at h;have:=aKW r _ m h;omega
  ·simp only[Lib.decFrom,Lib.digitVal,if_neg hd]at h;cases h
theorem bBX:∀ (l:List UInt8) (acc m:Nat),acc<18446744073709551616->Lib.decFrom acc l=some m->Lib.parseUint10 acc l=if m<18446744073709551616 then .ok m else .range
 | [],acc,m,ha,h=>by
  simp only[Lib.decFrom]at h;injection h with h;subst h;rw[if_pos ha]; rfl
 | c::r,acc,m,ha,h=>by
  by_cases hd:48<=c.toNat/\c.toNat<=57
  ·simp only[Lib.decFrom,Lib.digitVal,if_pos hd]at h;have hge:=aKW r _ m h;simp only[Lib.parseUint10,if_pos hd]
   by_cases h1:1844674407370955162<=acc
   ·rw[if_pos h1,if_neg (by omega)]
   ·rw[if_neg h1]
    by_cases h2:18446744073709551616<=acc*10+(c.toNat-48)
    ·rw[if_pos h2,if_neg (by omega)]
    ·rw[if_neg h2];exact bBX r _ m (by omega) h
  ·simp only[Lib.decFrom,Lib.digitVal,if_neg hd]at h;cases h
theorem aXM {l:List UInt8}{m:Nat}(h:Lib.decNat l=some m):Lib.parseMag l=if m<18446744073709551616 then .ok m else .range:=by
 have hne:l≠[]:=λe=>by subst e; cases h
 have hd:Lib.decFrom 0 l=some m:=by
  unfold Lib.decNat at h;split at h
  ·cases h
  ·exact h
 unfold Lib.parseMag;rw[if_neg hne];exact bBX l 0 m (by decide) hd
theorem aYT {n:Int}(h:Lib.nDigits n.natAbs<=400000):(Zn n).size<=1000000000:=by
 rcases(by omega:n<0\/0<=n)with g|g
 ·rw[E9 g]; omega
 ·rw[PC g,EL]; omega
theorem aNF(n:Int) (h:Lib.nDigits n.natAbs<=400000):∃ v b,p6 (Zn n,())=some (v,b,())/\(b=true->v=n)/\(n.natAbs<=1000000000->b=true):=by
 have e1:Nat.ble (Zn n).size 1000000000=true:=by rw[gG]; simpa using aYT h
 have hmag:=aL8 n.natAbs;rw[yG]at hmag;have hp:=aXM hmag;have hne:∀ c r,Lib.decDigits n.natAbs=c::r->c.toNat≠43/\c.toNat≠45:=λc r he=>by
  have:=HU n.natAbs c (by rw[he]; simp);omega
 have fin:∀ v,Lib.parseIntB 64 (Zn n).data.toList=.ok v->v=n->∃ v b,p6 (Zn n,())=some (v,b,())/\(b=true->v=n)/\(n.natAbs<=1000000000->b=true):=λv hv e=>⟨v,true,by
  unfold p6;simp only[e1,oC,hv],λ_=>e,λ_=>rfl⟩
 have bad:Lib.parseIntB 64 (Zn n).data.toList=.range->1000000000<n.natAbs->∃ v b,p6 (Zn n,())=some (v,b,())/\(b=true->v=n)/\(n.natAbs<=1000000000->b=true):=λhv hb=>⟨0,false,by
  unfold p6;simp only[e1,oC,hv],(λh=>by cases h),λh=>by omega⟩
 rcases(by omega:n<0\/0<=n)with g|g
 ·have ez:Lib.parseIntB 64 (Zn n).data.toList=Lib.signed (Lib.parseMag (Lib.decDigits n.natAbs)):=by
   rw[Lib.parseIntB_64,W6 g,Lib.atoiAll_minus]
  by_cases h1:n.natAbs<18446744073709551616
  ·rw[if_pos h1]at hp;rw[hp]at ez
   by_cases h2:9223372036854775808<n.natAbs
   ·exact bad (by rw[ez]; simp only[Lib.signed,if_pos h2]) (by omega)
   ·exact fin (-(n.natAbs:Int)) (by rw[ez]; simp only[Lib.signed,if_neg h2]) (by omega)
  ·rw[if_neg h1]at hp;rw[hp]at ez;exact bad (by rw[ez]; rfl) (by omega)
 ·have ez:Lib.parseIntB 64 (Zn n).data.toList=Lib.signless (Lib.parseMag (Lib.decDigits n.natAbs)):=by
   rw[Lib.parseIntB_64,PC g,yG];cases he:Lib.decDigits n.natAbs with
   | nil=>exact absurd he (GK _)
   | cons c r =>
    obtain⟨a1,a2⟩:=hne c r he;rw[Lib.atoiAll_plain c r a1 a2]
  by_cases h1:n.natAbs<18446744073709551616
  ·rw[if_pos h1]at hp;rw[hp]at ez
   by_cases h2:9223372036854775808<=n.natAbs
   ·exact bad (by rw[ez]; simp only[Lib.signless,if_pos h2]) (by omega)
   ·exact fin (n.natAbs:Int) (by rw[ez]; simp only[Lib.signless,if_neg h2]) (by omega)
  ·rw[if_neg h1]at hp;rw[hp]at ez;exact bad (by rw[ez]; rfl) (by omega)
theorem aRE {A:List (List ByteArray)} {J o n:Nat} {v:V} {pre:List ByteArray} (hn:n<1048576) (hp:pre.length=o) (hJ:A[J]?=some (pre++Zr n v)) (dg:∀ x,x<n->Lib.nDigits (v x).natAbs<=400000) :
  eC () ((J,o,n),()) A=some ((Vr n v,0,()),A)\/eC () ((J,o,n),()) A=some (([],4,()),A):=by
 obtain⟨e,h1,h2⟩:=JM (step:=bW) (N:=2^64) (λt=>(Vr t v,(J,o,n),(n:Int),(t:Int),A,())) n (λt=>True) (λe=>e=.inr (Vr n v,A,())\/e=.inl ([],4,A,())) (by omega) (λt ht _=>by
  have e1:ltI (t:Int) (n:Int)=true:=by rw[aF]; exact oT (by omega)
  have e2:aJ (t:Int) n=true:=by rw[aP]; exact oT (by omega)
  have e3:(o+((t:Nat):Int).toNat)*1=o+t:=by simp
  have e4:dB A J=o+n:=by rw[dB,aAJ _ hJ,List.length_append,xM,hp]
  have e6:Nat.blt (o+t) (o+n)=true:=by rw[cV]; simpa using ht
  have e7:dS A J (o+t) ByteArray.empty=Zn (v t):=by rw[dS,aAJ _ hJ,YU hp,aLQ _ ht]
  obtain⟨w,b,e8,g1,g2⟩:=aNF (v t) (dg t ht);have e13:=cZ t (by omega);have e14:Vr t v++[v t]=Vr (t+1) v:=by unfold Vr; rw[List.range_succ,List.map_append]; rfl
  have e12:Nat.ble (Vr t v).length 1048576=true:=by rw[gG]; unfold Vr; rw[List.length_map,List.length_range]; exact oT (by omega)
  cases b with
  | false=>exact .inr ⟨.inl ([],4,A,()),by simp only[bW,e1,e2,e3,e4,e6,e7,e8,aE,oC,oD],.inr rfl⟩
  | true =>
   obtain rfl:=g1 rfl
   by_cases b1:1000000000<v t
   ·have e9:ltI 1000000000 (v t)=true:=by rw[aF]; exact oT b1
    exact .inr ⟨.inl ([],4,A,()),by simp only[bW,e1,e2,e3,e4,e6,e7,e8,e9,aE,oC,oD],.inr rfl⟩
   ·have e9:ltI 1000000000 (v t)=false:=by rw[aF]; exact oF b1
    by_cases b2:v t < -1000000000
    ·have e10:ltI (v t) (-1000000000)=true:=by rw[aF]; exact oT b2
     exact .inr ⟨.inl ([],4,A,()),by simp only[bW,e1,e2,e3,e4,e6,e7,e8,e9,e10,aE,oC,oD],.inr rfl⟩
    ·have e10:ltI (v t) (-1000000000)=false:=by rw[aF]; exact oF b2
     have e11:Nat.ble [v t].length 1048576=true:=rfl;exact .inl ⟨by simp only[bW,e1,e2,e3,e4,e6,e7,e8,e9,e10,e11,e12,e13,e14,aE,oC,oD],trivial⟩) (λ_=>by
  have e1:ltI (n:Int) (n:Int)=false:=by rw[aF]; exact oF (by omega)
  exact⟨.inr (Vr n v,A,()),by simp only[bW,e1,oD],.inl rfl⟩)
 have key:bY bW (2^64) ([],(J,o,n),(n:Int),0,A,())=some e:=h1;have e1:ltI (n:Int) 0=false:=by rw[aF]; exact oF (by omega)
 have e2:ltI 1048576 (n:Int)=false:=by rw[aF]; exact oF (by omega)
 rcases h2 with rfl|rfl
 ·left;unfold eC iM;simp only[e1,e2,Bool.not_false,oC,List.replicate_zero,key,aE,kE]
 ·right;unfold eC iM;simp only[e1,e2,Bool.not_false,oC,List.replicate_zero,key,aE,qK]
theorem aSM {o k d n:Nat} {m:List (Nat×Nat×Nat)} {A:List (List ByteArray)} {J:Nat->Nat} {M:Nat->V} (h:mR o k n m A J M) (hd:d<=k) (hk:k<1048576) (hn:n<1048576) (dg:∀ i,i<d->∀ x,x<n->Lib.nDigits (M i x).natAbs<=400000) (cols:Int) :
  bV (m.take d) (cols,()) A=some (((cols,Mr d n M),0,()),A)\/bV (m.take d) (cols,()) A=some (((0,[]),4,()),A):=by
 have hl:(m.take d).length=d:=by rw[List.length_take,h.len]; omega
 have hg:∀ t,t<d->(m.take d).getD t (0,0,0)=(J t,o,n):=λt ht=>by
  rw[<- h.get (show t<k by omega)];simp[List.getD,List.getElem?_take,ht]
 obtain⟨e,h1,h2⟩:=JM (step:=cA) (N:=2^64)
  (λt=>((0,([],())),(cols,((List.range t).map (λi=>Vr n (M i)),())),m.take d,(d:Int),(t:Int),A,())) d (λ_=>True) (λe=>e=.inr ((0,([],())),(cols,((List.range d).map (λi=>Vr n (M i)),())),A,())\/e=.inl ((0,([],())),4,A,())) (by omega) (λt ht _=>by
  obtain⟨pre,p1,p2⟩:=h.at_ t (by omega);have e1:ltI (t:Int) (d:Int)=true:=by rw[aF]; exact oT (by omega)
  have e2:aJ (t:Int) d=true:=by rw[aP]; exact oT (by omega)
  have e3:((t:Nat):Int).toNat=t:=oN _;have e4:Nat.blt t d=true:=by rw[cV]; simpa using ht
  rcases aRE hn p1 p2 (dg t ht)with e5|e5
  ·have e6:eqI 0 0=true:=by decide
   have e7:Nat.ble [Vr n (M t)].length 1048576=true:=rfl;have e8:Nat.ble ((List.range t).map (λi=>Vr n (M i))).length 1048576=true:=by rw[gG,List.length_map,List.length_range]; exact oT (by omega)
   have e9:=cZ t (by omega);have e10:(List.range t).map (λi=>Vr n (M i))++[Vr n (M t)]=(List.range (t+1)).map (λi=>Vr n (M i)):=by rw[List.range_succ,List.map_append]; rfl
   exact .inl ⟨by simp only[cA,hl,e1,e2,e3,e4,hg t ht,e5,e6,e7,e8,e9,e10,aE,oC,Bool.not_true,oD],trivial⟩
  ·have e6:eqI 4 0=false:=by decide
   exact .inr ⟨.inl ((0,([],())),4,A,()),by simp only[cA,hl,e1,e2,e3,e4,hg t ht,e5,e6,aE,oC,Bool.not_false],.inr rfl⟩) (λ_=>by
  have e1:ltI (d:Int) (d:Int)=false:=by rw[aF]; exact oF (by omega)
  exact⟨.inr ((0,([],())),(cols,((List.range d).map (λi=>Vr n (M i)),())),A,()),by simp only[cA,hl,e1,oD],.inl rfl⟩)
 have key:bY cA (2^64) ((0,([],())),(cols,([],())),m.take d,((m.take d).length:Int),0,A,())=some e:=by rw[hl]; exact h1
 rcases h2 with rfl|rfl
 ·left;unfold bV gK;simp only[key,aE,kE];rfl
 ·right;unfold bV gK;simp only[key,aE,qK]
section
variable {d n:Nat} {B:Nat->V}
theorem a26 {r D:Nat}{K:Nat->V}(h:Big r n K (10^D))(hD:D<=399998):∀ i,i<r->∀ x,x<n->Lib.nDigits (K i x).natAbs<=400000:=λi hi x hx=>by
 have h1:=h i hi x hx;have h2:(K i x).natAbs<10^(D+1):=by
  rw[Nat.pow_succ];have:1<=10^D:=Nat.pow_pos (by decide);omega
 have:=JA h2;omega
theorem a9K {q:Nat->Nat}(hH:Hn d B q)(hn:n<=4)(hw:Wd d n B)(hB:Big d n B 1000000000):(∃ r K,r<=4/\dR (((n:Int),Mr d n B),())=some (((n:Int),Mr r n K),0,()))\/dR (((n:Int),Mr d n B),())=some ((0,[]),4,()):=by
 have hd:=(Hn.NK hH hw).1;obtain⟨m,A,a1,a2⟩:=S3 (by omega) (by omega) hw hB;obtain⟨m',A',J',K',p',r',g1,g2,g3,g4,g5,g6,g7⟩:=S9 (by omega) hn hw (by rw[<- p9]; exact hB) a2;have e0:eqI 0 0=true:=by decide
 have hs:=aSM g2 (Nat.le_refl _) (by omega) (by omega) (a26 g7 (by decide)) (n:Int);rw[List.take_of_length_le (by rw[g2.len]; exact Nat.le_refl _)]at hs;rcases hs with hs|hs
 ·exact .inl ⟨r',K',by omega,by simp only[dR,UK hH hw (by omega) (by omega) hB,aE,e0,Bool.not_true,oD,a1,g1,hs]⟩
 ·exact .inr (by simp only[dR,UK hH hw (by omega) (by omega) hB,aE,e0,Bool.not_true,oD,a1,g1,hs])
theorem bAE {q:Nat->Nat}(hH:Hn d B q)(hn:n<=4)(hw:Wd d n B)(hB:Big d n B 1000000000):(∃ r K,r<=4/\fT (((n:Int),Mr d n B),())=some (((n:Int),Mr r n K),0,()))\/fT (((n:Int),Mr d n B),())=some ((0,[]),4,()):=by
 have hd:=(Hn.NK hH hw).1;obtain⟨m,A,a1,a2⟩:=S3 (by omega) (by omega) hw hB;obtain⟨m',A',J',K',p',r',g1,g2,g3,g4,g5,g6,g7⟩:=S9 (by omega) hn hw (by rw[<- p9]; exact hB) a2;obtain⟨m2,A2,J2,S,p2,t,b1,b2,b3,b4,b5,b6,b7⟩:=aHX (by omega) hn g6 g7 g2;have e0:eqI 0 0=true:=by decide
 have hs:=aSM b2 (Nat.le_refl _) (by omega) (by omega) (a26 b7 (by decide)) (n:Int);rw[List.take_of_length_le (by rw[b2.len]; exact Nat.le_refl _)]at hs;rcases hs with hs|hs
 ·exact .inl ⟨t,S,by omega,by simp only[fT,UK hH hw (by omega) (by omega) hB,aE,e0,Bool.not_true,oD,a1,g1,b1,hs]⟩
 ·exact .inr (by simp only[fT,UK hH hw (by omega) (by omega) hB,aE,e0,Bool.not_true,oD,a1,g1,b1,hs])
end
theorem aZ6 {ps:List Int} {n:Nat} (hp:pW (ps,())=some (0,())) (hl:ps.length=n) (hn:n<=4) (m Kt:List (List Int)) (hk:m.length<=12) (hr:∀ r∈m,r.length<1048576):∃ w,bG ((ps,(m,Kt)),())=some (w,()):=by
 have e0:eqI 0 0=true:=by decide
 have e4:eqI 4 0=false:=by decide
 have e1:((ps.length:Nat):Int)=(n:Int):=by rw[hl]
 obtain⟨e,c1,c2⟩:=aVN m (n:=n) hk hr (by omega)
 by_cases g:e=0
 ·subst g;obtain⟨M,p,hM,hH,hw,hB⟩:=c2 rfl;generalize m.length=k at hM hH hw hB hk;subst hM;have hk4:=(Hn.NK hH hw).1;rcases bAE hH hn hw hB with ⟨r,K,r4,s1⟩|s1
  ·have hEq:=aG4 (n:Int) (n:Int) (Mr r n K) (Mr k n M) (by rw[vH]; omega) (aUE hn);cases hb:(decide ((n:Int)=(n:Int))&&decide (Mr r n K=Mr k n M))with
   | true =>
    rw[hb]at hEq;rcases a9K hH hn hw hB with ⟨r',K',r4',s2⟩|s2
    ·have hSame:=a2X (Mr r' n K') Kt (by rw[vH]; omega) (aUE hn);cases hb2:decide (Mr r' n K'=Kt)with
     | true=>rw[hb2]at hSame; exact⟨0,by simp only[bG,hp,aE,e0,Bool.not_true,oD,e1,c1,s1,hEq,oC,s2,hSame]⟩
     | false=>rw[hb2]at hSame; exact⟨14,by simp only[bG,hp,aE,e0,Bool.not_true,oD,e1,c1,s1,hEq,oC,s2,hSame]⟩
    ·exact⟨14,by simp only[bG,hp,aE,e0,e4,Bool.not_true,Bool.not_false,oD,e1,c1,s1,hEq,oC,s2]⟩
   | false=>rw[hb]at hEq; exact⟨7,by simp only[bG,hp,aE,e0,Bool.not_true,oD,e1,c1,s1,hEq]⟩
  ·exact⟨7,by simp only[bG,hp,aE,e0,e4,Bool.not_true,Bool.not_false,oD,oC,e1,c1,s1]⟩
 ·have e5:eqI e 0=false:=by rw[fO]; exact oF g
  exact⟨e,by simp only[bG,hp,aE,e0,e5,Bool.not_true,Bool.not_false,oD,oC,e1,c1]⟩
theorem aFF(l:List TT)(hl:l.length<1048576){x:Nat}(hx:x<l.length)(hc:∀ i,i<x->bG (l.getD i zT,())=some (0,())){w:Int}(hw:w≠0)(he:bG (l.getD x zT,())=some (w,())):bP (l,())=some (w,()):=by
 have e0:eqI 0 0=true:=by decide
 have ew:eqI w 0=false:=by rw[fO]; exact oF hw
 have key:=cC (step:=gM) (N:=2^64) (λt=>(l,l,(l.length:Int),(t:Int),())) x (.inl (w,())) (by omega) (λt ht=>?_) ?_
 ·have key:qD (l,l,(l.length:Int),0,())=_:=key;simp only[bP,key,aE,qK]
 ·have e1:ltI (t:Int) (l.length:Int)=true:=by rw[aF]; exact oT (by omega)
  have e2:aJ (t:Int) l.length=true:=by rw[aP]; exact oT (by omega)
  have e3:((t:Nat):Int).toNat=t:=oN _;have e4:=cZ t (by omega);have e5:bG (((l.getD t zT).1,((l.getD t zT).2.1,(l.getD t zT).2.2)),())=some (0,()):=hc t ht;simp only[gM,e1,e2,e3,oC];show aC (bG (((l.getD t zT).1,((l.getD t zT).2.1,(l.getD t zT).2.2)),())) _=_;rw[e5];simp only[aE,e0,Bool.not_true,oD,e4]
 ·have e1:ltI (x:Int) (l.length:Int)=true:=by rw[aF]; exact oT (by omega)
  have e2:aJ (x:Int) l.length=true:=by rw[aP]; exact oT (by omega)
  have e3:((x:Nat):Int).toNat=x:=oN _;have e5:bG (((l.getD x zT).1,((l.getD x zT).2.1,(l.getD x zT).2.2)),())=some (w,()):=he;simp only[gM,e1,e2,e3,oC];show aC (bG (((l.getD x zT).1,((l.getD x zT).2.1,(l.getD x zT).2.2)),())) _=_;rw[e5];simp only[aE,ew,Bool.not_false,oC]
theorem a1J(m:List (List Int))(hl:m.length<1048576):∃ b,cQ (m,(),())=some (b,())/\(b=false->∀ t,t<m.length->(m.getD t []).length<=6):=by
 obtain⟨e,h1,h2⟩:=JM (step:=cI) (N:=2^64) (λt=>(m,(),(m.length:Int),(t:Int),())) m.length (λt=>(m.getD t []).length<=6) (λe=>(∃ i:Nat,e=.inl ((i:Int),()))\/(e=.inr ()/\∀ t,t<m.length->(m.getD t []).length<=6)) (by omega) (λt ht _=>by
  have e1:ltI (t:Int) (m.length:Int)=true:=by rw[aF]; exact oT (by omega)
  have e2:aJ (t:Int) m.length=true:=by rw[aP]; exact oT (by omega)
  have e3:((t:Nat):Int).toNat=t:=oN _;have e4:=cZ t (by omega)
  by_cases g:(m.getD t []).length<=6
  ·have e5:ltI 6 ((m.getD t []).length:Int)=false:=by rw[aF]; exact oF (by omega)
   exact .inl ⟨by simp only[cI,e1,e2,e3,e4,gR,e5,aE,oC,oD],g⟩
  ·have e5:ltI 6 ((m.getD t []).length:Int)=true:=by rw[aF]; exact oT (by omega)
   exact .inr ⟨.inl ((t:Int),()),by simp only[cI,e1,e2,e3,e4,gR,e5,aE,oC],.inl ⟨t,rfl⟩⟩) (λhg=>by
  have e1:ltI (m.length:Int) (m.length:Int)=false:=by rw[aF]; exact oF (by omega)
  exact⟨.inr (),by simp only[cI,e1,oD],.inr ⟨rfl,hg⟩⟩)
 have key:fF (m,(),(m.length:Int),0,())=some e:=h1;rcases h2 with ⟨i,rfl⟩|⟨rfl,h2⟩
 ·have e2:ltI (i:Int) 0=false:=by rw[aF]; exact oF (by omega)
  exact⟨true,by simp only[cQ,eS,key,aE,qK,e2,Bool.not_false],λh=>by cases h⟩
 ·have e2:ltI (-1) 0=true:=by decide
  exact⟨false,by simp only[cQ,eS,key,aE,kE,e2,Bool.not_true],λ_=>h2⟩
theorem aXZ {ps:List Int} {n d r:Nat} {C K:Nat->V} (h:RT ps n d r C K) (m:List (List Int)) (hm3:m.length<=3) (p:Int×List (Int×Int×Int×Int)×Bool)
  (hf:rL (p,())=some (true,())) (hm:rX (p,())=some ((ps,(Mr d n C,Mr r n K)),())):dC (p,m,())=some (true,()):=by
 obtain⟨p1,p2,p3⟩:=p;have kn:fC (())=some (true,()):=rfl;have c3:ltI 3 (m.length:Int)=false:=by rw[aF]; exact oF (by omega)
 obtain⟨b,q1,q2⟩:=a1J m (by omega);cases b with
 | true=>simp only[dC,kn,aE,oC,hf,c3,oD,q1]
 | false =>
  have q2:=q2 rfl;have hr:∀ r∈m,r.length<1048576:=λr hr=>by
   obtain⟨i,hi,rfl⟩:=List.mem_iff_getElem.1 hr;have:=q2 i hi;have e2:m.getD i []=m[i]:=by simp[List.getD,hi]
   rw[e2]at this;omega
  obtain⟨w,hw⟩:=aZ6 h.pr h.len h.n4 m (Mr r n K) (by omega) hr
  by_cases w0:w=0
  ·subst w0;have e0:eqI 0 0=true:=by decide
   simp only[dC,kn,aE,oC,hf,c3,oD,q1,hm,hw,e0]
  ·have ew0:eqI w 0=false:=by rw[fO]; exact oF w0
   have eww:eqI w w=true:=by rw[fO]; exact oT rfl
   have e0:eqI 0 0=true:=by decide
   have k1:bP ([(ps,(m,Mr r n K))],())=some (w,()):=aFF _ (by show 1<_; omega) (x:=0) (by show 0<1; omega) (λi hi=>by omega) w0 hw;have kt:bP ([(ps,(Mr d n C,Mr r n K))],())=some (0,()):=a4E _ (by show 1<_; omega) (λi hi=>by
    obtain rfl:i=0:=by have:i<1:=hi; omega
    exact h.check) (λi hi=>by
    obtain rfl:i=0:=by have:i<1:=hi; omega
    exact h.bCQ) (λi hi=>by
    obtain rfl:i=0:=by have:i<1:=hi; omega
    rfl)
   have k2:bP ([(ps,(Mr d n C,Mr r n K)),(ps,(m,Mr r n K))],())=some (w,()):=aFF _ (by show 2<_; omega) (x:=1) (by show 1<2; omega) (λi hi=>by
    obtain rfl:i=0:=by omega
    exact h.check) w0 hw
   have k3:bP ([(ps,(m,Mr r n K)),(ps,(Mr d n C,Mr r n K))],())=some (w,()):=aFF _ (by show 2<_; omega) (x:=0) (by show 0<2; omega) (λi hi=>by omega) w0 hw;have k4:bP ([(ps,(m,Mr r n K)),(ps,(Mr d n C,Mr r n K)),(ps,(Mr d n C,Mr r n K))],())=some (w,()):=aFF _ (by show 3<_; omega) (x:=0) (by show 0<3; omega) (λi hi=>by omega) w0 hw;have hprod:n7 ((ps,(Mr d n C,Mr r n K)),(ps,(m,Mr r n K)),([],([],[])),[(ps,(Mr d n C,Mr r n K)),(ps,(m,Mr r n K))],2,0,())=some (.inl (([],([],[])),w,())):=by
    refine cC (step:=nV) (N:=2^64) (λt=>((ps,(Mr d n C,Mr r n K)),(ps,(m,Mr r n K)),([],([],[])),[(ps,(Mr d n C,Mr r n K)),(ps,(m,Mr r n K))],2,(t:Int),())) 1 (.inl (([],([],[])),w,())) (by omega) (λt ht=>?_) ?_
    ·obtain rfl:t=0:=by omega
     have e1:ltI ((0:Nat):Int) 2=true:=by decide
     have e2:aJ ((0:Nat):Int) 2=true:=by decide
     simp only[nV,e1,oC];show (bif aJ ((0:Nat):Int) 2 then aC (bP ([(ps,(Mr d n C,Mr r n K))],())) _ else none)=_;simp only[e2,oC,kt,aE,e0,Bool.not_true,oD];rfl
    ·have e1:ltI ((1:Nat):Int) 2=true:=by decide
     have e2:aJ ((1:Nat):Int) 2=true:=by decide
     simp only[nV,e1,oC];show (bif aJ ((1:Nat):Int) 2 then aC (bP ([(ps,(m,Mr r n K))],())) _ else none)=_;simp only[e2,oC,k1,aE,ew0,Bool.not_false,oC]
   have he:iK ((([]:List Int),(([]:List (List Int)),([]:List (List Int)))),())=some (true,()):=rfl;have hz:eqI (aB .i64 ((([]:List (List Int×List (List Int)×List (List Int))).length:Int)+(([]:List (List Int×List (List Int)×List (List Int))).length:Int))) 0=true:=rfl;have f1:gA ((ps,(Mr d n C,Mr r n K)),(ps,(m,Mr r n K)),())=some (false,w,()):=by simp only[gA,k2,aE,ew0,Bool.not_false,oC]
   have f1':gA ((ps,(m,Mr r n K)),(ps,(Mr d n C,Mr r n K)),())=some (false,w,()):=by simp only[gA,k3,aE,ew0,Bool.not_false,oC]
   have f2:uI ((ps,(m,Mr r n K)),(ps,(Mr d n C,Mr r n K)),(ps,(Mr d n C,Mr r n K)),())=some (false,w,()):=by simp only[uI,k4,aE,ew0,Bool.not_false,oC]
   have f3:pS ((ps,(Mr d n C,Mr r n K)),(ps,(m,Mr r n K)),())=some (0,w,()):=by simp only[pS,qE,f1,aE,ew0,Bool.not_false,oC]
   have f4:tH ((ps,(m,Mr r n K)),(ps,(Mr d n C,Mr r n K)),())=some ([],w,()):=by simp only[tH,qE,f1',aE,ew0,Bool.not_false,oC]
   have f5:rP ((ps,(Mr d n C,Mr r n K)),(ps,(m,Mr r n K)),())=some (([],([],[])),w,()):=by simp only[rP,k2,aE,ew0,Bool.not_false,oC]
   have f6:rN ((ps,(m,Mr r n K)),(ps,(Mr d n C,Mr r n K)),())=some (([],([],[])),w,()):=by simp only[rN,k3,aE,ew0,Bool.not_false,oC]
   have f7:rK ((ps,(m,Mr r n K)),[],())=some (([],([],[])),w,()):=by simp only[rK,k1,aE,ew0,Bool.not_false,oC]
   have f8:oU ((ps,(m,Mr r n K)),ps,())=some (([],([],[])),w,()):=by simp only[oU,vS,k1,aE,ew0,Bool.not_false,oC]
   have f9:rS ((ps,(m,Mr r n K)),ps,())=some (([],([],[])),w,()):=by simp only[rS,wE,k1,aE,ew0,Bool.not_false,oC]
   have f10:qI ((ps,(Mr d n C,Mr r n K)),(ps,(m,Mr r n K)),())=some (([],([],[])),w,()):=by
    have hp2:n7 ((ps,(Mr d n C,Mr r n K)),(ps,(m,Mr r n K)),([],([],[])),[(ps,(Mr d n C,Mr r n K)),(ps,(m,Mr r n K))],([(ps,(Mr d n C,Mr r n K)),(ps,(m,Mr r n K))].length:Int),0,())=some (.inl (([],([],[])),w,())):=hprod;simp only[qI,hp2,aE,qK]
   have f11:mS ((ps,(m,Mr r n K)),7,0,())=some ([],w,()):=by simp only[mS,k1,aE,ew0,Bool.not_false,oC]
   simp only[dC,kn,aE,oC,hf,c3,oD,q1,hm,hw,ew0,f1,f2,f3,f4,f5,f6,f7,f8,f9,f10,f11,eww,e0,he];exact congrArg (λb=>bif b then some (true,()) else some (false,())) hz
theorem aYK(p:Int×List (Int×Int×Int×Int)×Bool)(m:List (List Int))(hA:a6I p):dC (p,m,())=some (true,()):=by
 have kn:fC (())=some (true,()):=rfl;have hf:=bA2 p;obtain⟨a1,a2,a3⟩:=p
 by_cases ha:a2.length<=3
 ·rw[oT ha]at hf
  by_cases hm:m.length<=3
  ·obtain⟨d,r,C,K,m1,h1⟩:=a9W a1 hA.1.1 hA.1.2 a2 ha hA.2 a3;exact aXZ h1 m hm (a1,a2,a3) hf m1
  ·have c3:ltI 3 (m.length:Int)=true:=by rw[aF]; exact oT (by omega)
   simp only[dC,kn,aE,oC,hf,c3]
 ·rw[oF ha]at hf;simp only[dC,kn,aE,oC,hf,oD]
end Go.PM
