/- Texts of one proof, joined (10). -/
import Derived.Test.YtmghkhgpkefgeaaGreatDoorQR9
set_option linter.unusedSimpArgs false
set_option linter.unusedVariables false
set_option maxRecDepth 100000
noncomputable section
namespace Go.PM
open Go Go.RowKit Go.Proofs Go.Lz
theorem aH6(q:List Int)(x:Int)(hl:q.length<1048576):(x ∉ q/\eO (q,x,())=some (-1,()))\/∃ i,i<q.length/\q.getD i 0=x/\eO (q,x,())=some ((i:Int),()):=by
 obtain⟨e,h1,h2⟩:=LZ (step:=fU) (N:=2^64) (λt=>(q,x,(q.length:Int),(t:Int),())) q.length (λt=>q.getD t 0≠x) (λe=>(∃ i:Nat,i<q.length/\q.getD i 0=x/\e=.inl ((i:Int),()))\/(e=.inr ()/\x ∉ q)) Z (λt ht _=>by
  have e1:ltI (t:Int) (q.length:Int)=true:=by rw[aE]; exact oT Z
  have e2:aF (t:Int) q.length=true:=by rw[aL]; exact oT Z
  have e3:((t:Nat):Int).toNat=t:=oN _;have e4:=bO t Z
  by_cases g:q.getD t 0=x
  ·have e5:eqI x (q.getD t 0)=true:=by rw[dW]; exact oT g.symm
   exact .inr ⟨.inl ((t:Int),()),by simp only[fU,e1,e2,e3,e5,oC],.inl ⟨t,ht,g,rfl⟩⟩
  ·have e5:eqI x (q.getD t 0)=false:=by rw[dW]; exact oF λh=>g h.symm
   exact .inl ⟨by simp only[fU,e1,e2,e3,e4,e5,oC,oD],g⟩) (λhg=>by
  have e1:ltI (q.length:Int) (q.length:Int)=false:=by rw[aE]; exact oF Z
  exact⟨.inr (),by simp only[fU,e1,oD],.inr ⟨rfl,λhx=>by
   obtain⟨l,l1,l2⟩:=V9 hx;exact hg l l1 l2⟩⟩)
 have key:qH (q,x,(q.length:Int),0,())=some e:=h1;rcases h2 with ⟨i,a1,a2,rfl⟩|⟨rfl,h2⟩
 ·exact .inr ⟨i,a1,a2,by simp only[eO,key,aD,tX]⟩
 ·exact .inl ⟨h2,by simp only[eO,key,aD,fZ]⟩
theorem OD(q:List Int)(x:Int)(hl:q.length<1048576):cJ (q,x,())=some (decide (x∈q),()):=by
 rcases aH6 q x hl with ⟨h1,h2⟩|⟨i,h1,h2,h3⟩
 ·have e2:ltI (-1) 0=true:=O
  simp only[cJ,h2,aD,e2,Bool.not_true,oF h1]
 ·have e2:ltI (i:Int) 0=false:=by rw[aE]; exact oF Z
  have h4:x∈q:=h2 ▸ vX h1;simp only[cJ,h3,aD,e2,Bool.not_false,oT h4]
theorem aXJ {q:List Int}{x:Int}(hl:q.length<1048576)(h:x ∉ q):CO (q,x,())=some (0,false,()):=by
 rcases aH6 q x hl with ⟨h1,h2⟩|⟨i,h1,h2,h3⟩
 ·simp only[CO,h2,aD];rfl
 ·exact absurd (h2 ▸ vX h1) h
theorem aHW {q:List Int}{x:Int}(hl:q.length<1048576)(hu:Up q)(h:x∈q):CO (q,x,())=some ((q.idxOf x:Int),true,()):=by
 rcases aH6 q x hl with ⟨h1,h2⟩|⟨i,h1,h2,h3⟩
 ·exact absurd h h1
 ·have e2:ltI (i:Int) 0=false:=by rw[aE]; exact oF Z
  have e4:i=q.idxOf x:=hu.inj h1 (B3 h).1 (h2.trans (B3 h).2.symm);subst e4;simp only[CO,h3,aD,e2,Bool.not_false];rw[if_neg (show ¬ ((q.idxOf x:Nat):Int)<0 by omega)]
theorem cfw(p q:List Int)(hp:p.length<1048576)(hq:q.length<1048576):eR (p,(q,()),())=some (!decide (∀ n∈p,n∈q),()):=by
 obtain⟨e,h1,h2⟩:=LZ (step:=eD) (N:=2^64) (λt=>(p,(q,()),(p.length:Int),(t:Int),())) p.length (λt=>p.getD t 0∈q) (λe=>(∃ i:Nat,e=.inl ((i:Int),())/\¬ ∀ n∈p,n∈q)\/(e=.inr ()/\∀ n∈p,n∈q)) Z (λt ht _=>by
  have e1:ltI (t:Int) (p.length:Int)=true:=by rw[aE]; exact oT Z
  have e2:aF (t:Int) p.length=true:=by rw[aL]; exact oT Z
  have e3:((t:Nat):Int).toNat=t:=oN _;have e4:=bO t Z;have e5:=OD q (p.getD t 0) hq
  by_cases g:p.getD t 0∈q
  ·rw[oT g]at e5;exact .inl ⟨by simp only[eD,e1,e2,e3,e4,GK,e5,aD,oC,oD],g⟩
  ·rw[oF g]at e5;exact .inr ⟨.inl ((t:Int),()),by simp only[eD,e1,e2,e3,e4,GK,e5,aD,oC,oD],.inl ⟨t,rfl,λh=>g (h _ (vX ht))⟩⟩) (λhg=>by
  have e1:ltI (p.length:Int) (p.length:Int)=false:=by rw[aE]; exact oF Z
  exact⟨.inr (),by simp only[eD,e1,oD],.inr ⟨rfl,λn hn=>by
   obtain⟨l,l1,l2⟩:=V9 hn;rw[<- l2]; exact hg l l1⟩⟩)
 have key:l8 (p,(q,()),(p.length:Int),0,())=some e:=h1;rcases h2 with ⟨i,rfl,h2⟩|⟨rfl,h2⟩
 ·have e2:ltI (i:Int) 0=false:=by rw[aE]; exact oF Z
  rw[oF h2];simp only[eR,kO,key,aD,tX,e2]
 ·have e2:ltI (-1) 0=true:=O
  rw[oT h2];simp only[eR,kO,key,aD,fZ,e2]
theorem cf1(p q:List Int)(hp:p.length<1048576)(hq:q.length<1048576)(A B:List (List Int)):cP (p,((q,(A,B)),()),())=some (!decide (∀ n∈p,n∈q),()):=by
 obtain⟨e,h1,h2⟩:=LZ (step:=eC) (N:=2^64) (λt=>(p,((q,(A,B)),()),(p.length:Int),(t:Int),())) p.length (λt=>p.getD t 0∈q) (λe=>(∃ i:Nat,e=.inl ((i:Int),())/\¬ ∀ n∈p,n∈q)\/(e=.inr ()/\∀ n∈p,n∈q)) Z (λt ht _=>by
  have e1:ltI (t:Int) (p.length:Int)=true:=by rw[aE]; exact oT Z
  have e2:aF (t:Int) p.length=true:=by rw[aL]; exact oT Z
  have e3:((t:Nat):Int).toNat=t:=oN _;have e4:=bO t Z;have e5:=OD q (p.getD t 0) hq
  by_cases g:p.getD t 0∈q
  ·rw[oT g]at e5;exact .inl ⟨by simp only[eC,e1,e2,e3,e4,iL,e5,aD,oC,oD],g⟩
  ·rw[oF g]at e5;exact .inr ⟨.inl ((t:Int),()),by simp only[eC,e1,e2,e3,e4,iL,e5,aD,oC,oD],.inl ⟨t,rfl,λh=>g (h _ (vX ht))⟩⟩) (λhg=>by
  have e1:ltI (p.length:Int) (p.length:Int)=false:=by rw[aE]; exact oF Z
  exact⟨.inr (),by simp only[eC,e1,oD],.inr ⟨rfl,λn hn=>by
   obtain⟨l,l1,l2⟩:=V9 hn;rw[<- l2]; exact hg l l1⟩⟩)
 have key:lV (p,((q,(A,B)),()),(p.length:Int),0,())=some e:=h1;rcases h2 with ⟨i,rfl,h2⟩|⟨rfl,h2⟩
 ·have e2:ltI (i:Int) 0=false:=by rw[aE]; exact oF Z
  rw[oF h2];simp only[cP,kI,key,aD,tX,e2]
 ·have e2:ltI (-1) 0=true:=O
  rw[oT h2];simp only[cP,kI,key,aD,fZ,e2]
theorem cf2(p q:List Int)(hp:p.length<1048576)(hq:q.length<1048576):bG (p,(q,()),())=some (!decide (∀ n∈p,n∈q),()):=by
 obtain⟨e,h1,h2⟩:=LZ (step:=eA) (N:=2^64) (λt=>(p,(q,()),(p.length:Int),(t:Int),())) p.length (λt=>p.getD t 0∈q) (λe=>(∃ i:Nat,e=.inl ((i:Int),())/\¬ ∀ n∈p,n∈q)\/(e=.inr ()/\∀ n∈p,n∈q)) Z (λt ht _=>by
  have e1:ltI (t:Int) (p.length:Int)=true:=by rw[aE]; exact oT Z
  have e2:aF (t:Int) p.length=true:=by rw[aL]; exact oT Z
  have e3:((t:Nat):Int).toNat=t:=oN _;have e4:=bO t Z;have e5:=OD q (p.getD t 0) hq
  by_cases g:p.getD t 0∈q
  ·rw[oT g]at e5;exact .inl ⟨by simp only[eA,e1,e2,e3,e4,iM,e5,aD,oC,oD],g⟩
  ·rw[oF g]at e5;exact .inr ⟨.inl ((t:Int),()),by simp only[eA,e1,e2,e3,e4,iM,e5,aD,oC,oD],.inl ⟨t,rfl,λh=>g (h _ (vX ht))⟩⟩) (λhg=>by
  have e1:ltI (p.length:Int) (p.length:Int)=false:=by rw[aE]; exact oF Z
  exact⟨.inr (),by simp only[eA,e1,oD],.inr ⟨rfl,λn hn=>by
   obtain⟨l,l1,l2⟩:=V9 hn;rw[<- l2]; exact hg l l1⟩⟩)
 have key:l4 (p,(q,()),(p.length:Int),0,())=some e:=h1;rcases h2 with ⟨i,rfl,h2⟩|⟨rfl,h2⟩
 ·have e2:ltI (i:Int) 0=false:=by rw[aE]; exact oF Z
  rw[oF h2];simp only[bG,kK,key,aD,tX,e2]
 ·have e2:ltI (-1) 0=true:=O
  rw[oT h2];simp only[bG,kK,key,aD,fZ,e2]
theorem aNI {p q:List Int}(hp:aU (p,())=some (0,()))(hq:aU (q,())=some (0,()))(lp:p.length<1048576)(lq:q.length<1048576):IG (p,q,())=some (decide (∀ n∈p,n∈q),0,()):=by
 have e0:eqI 0 0=true:=O
 have h:=cfw p q lp lq;simp only[IG,L9,hp,hq,aD,e0,Bool.not_true,oD,h];cases decide (∀ n∈p,n∈q) <;> rfl
theorem bBN {p q:List Int}(hp:aU (p,())=some (0,()))(hq:aU (q,())=some (0,())):L9 (p,q,())=some (0,()):=by
 have e0:eqI 0 0=true:=O
 simp only[L9,hp,hq,aD,e0,Bool.not_true,oD]
section
variable {ps qs:List Int} {n d r:Nat} {C K:Nat->V}
theorem aPK(h:RT ps n d r C K):lK ([(ps,(Mr d n C,Mr r n K))],())=some (0,()) :=
 a1R [(ps,(Mr d n C,Mr r n K))] (by show 1<_; omega) (λi hi=>by
  obtain rfl:i=0:=by have hi:i<1:=hi; omega
  exact h.check) (λi hi=>by
  obtain rfl:i=0:=by have hi:i<1:=hi; omega
  exact h.aZF) λi hi=>by
  obtain rfl:i=0:=by have hi:i<1:=hi; omega
  rfl
theorem a0V(h:RT ps n d r C K)(lq:qs.length<1048576):∃ w,aU (qs,())=some (w,())/\rG ((ps,(Mr d n C,Mr r n K)),qs,(),())=some (if w≠0 then w else if ∀ n∈ps,n∈qs then 0 else 25,()):=by
 obtain⟨w,hw,_⟩:=aEF qs lq;have e0:eqI 0 0=true:=O
 have k1:=aPK h;refine⟨w,hw,?_⟩
 by_cases g:w=0
 ·subst g;have h3:=aNI h.pr hw h.aZF lq
  by_cases g2:∀ n∈ps,n∈qs
  ·rw[oT g2]at h3;rw[if_neg R,if_pos g2];simp only[rG,k1,aD,e0,Bool.not_true,oD,hw,h3,oC]
  ·rw[oF g2]at h3;rw[if_neg R,if_neg g2];simp only[rG,k1,aD,e0,Bool.not_true,oD,hw,h3]
 ·have ew:eqI w 0=false:=by rw[dW]; exact oF g
  rw[if_pos g];simp only[rG,k1,aD,e0,Bool.not_true,oD,hw,ew,Bool.not_false,oC]
theorem aZ8(h:RT ps n d r C K)(lq:qs.length<1048576):∃ w,aU (qs,())=some (w,())/\rF ((ps,(Mr d n C,Mr r n K)),qs,(),())=some (if w≠0 then w else if ∀ n∈qs,n∈ps then 0 else 25,()):=by
 obtain⟨w,hw,_⟩:=aEF qs lq;have e0:eqI 0 0=true:=O
 have k1:=aPK h;refine⟨w,hw,?_⟩
 by_cases g:w=0
 ·subst g;have h3:=aNI hw h.pr lq h.aZF
  by_cases g2:∀ n∈qs,n∈ps
  ·rw[oT g2]at h3;rw[if_neg R,if_pos g2];simp only[rF,uG,k1,aD,e0,Bool.not_true,oD,hw,h3,oC]
  ·rw[oF g2]at h3;rw[if_neg R,if_neg g2];simp only[rF,uG,k1,aD,e0,Bool.not_true,oD,hw,h3]
 ·have ew:eqI w 0=false:=by rw[dW]; exact oF g
  rw[if_pos g];simp only[rF,k1,aD,e0,Bool.not_true,oD,hw,ew,Bool.not_false,oC]
end
theorem aSJ {n i:Nat}{u:V}{a:Int}(h:i<n):(Vr n u).set i a=Vr n (λx=>if i=x then a else u x):=by
 refine List.ext_getElem (by simp[Vr]) λj h1 h2=>?_
 rw[List.getElem_set];simp[Vr]
theorem aKS(n:Nat):List.replicate n (0:Int)=Vr n (λ_=>0):=by
 refine List.ext_getElem (by simp[Vr]) λj h1 h2=>?_
 simp[Vr]
theorem VZ {n:Nat}{u v:V}(h:∀ x,x<n->u x=v x):Vr n u=Vr n v:=List.map_congr_left λx hx=>h x (List.mem_range.1 hx)
section
variable {ps qs:List Int}
theorem a9N(hp:ps.length<1000)(hq:qs.length<1000)(uq:Up qs)(hs:∀ n∈ps,n∈qs)(v:V):sB (ps,qs,Vr ps.length v,())=some (Vr qs.length (exv (ixP ps qs) ps.length v),()):=by
 have key:=aY (step:=iH) (N:=2^64) (λt=>(ps,qs,Vr qs.length (exv (ixP ps qs) t v),Vr ps.length v,(ps.length:Int),(t:Int),())) ps.length (Vr qs.length (exv (ixP ps qs) ps.length v),()) Z (λt ht=>?_) ?_
 ·have key:xP (ps,qs,Vr qs.length (λ_=>0),Vr ps.length v,(ps.length:Int),0,())=_:=key;have a1:ltI (qs.length:Int) 0=false:=by rw[aE]; exact oF Z
  have a2:ltI (qs.length:Int) (qs.length:Int)=false:=by rw[aE]; exact oF Z
  have a3:ltI 1048576 (qs.length:Int)=false:=by rw[aE]; exact oF Z
  have a4:List.replicate (((qs.length:Nat):Int).toNat) (0:Ty.den (.int .i64))=Vr qs.length (λ_=>0):=by rw[oN]; exact aKS _
  simp only[sB,a1,a2,a3,Bool.not_false,oC,a4,gU,key,aD]
 ·have e1:ltI (t:Int) (ps.length:Int)=true:=by rw[aE]; exact oT Z
  have e2:aF (t:Int) ps.length=true:=by rw[aL]; exact oT Z
  have e3:((t:Nat):Int).toNat=t:=oN _;have e4:=bO t Z;have hm:=hs _ (vX ht);have e5:=aHW (show qs.length<1048576 by omega) uq hm;have hi:=(B3 hm).1;have e6:aF ((qs.idxOf (ps.getD t 0):Nat):Int) qs.length=true:=by rw[aL]; exact oT Z
  have e7:((qs.idxOf (ps.getD t 0):Nat):Int).toNat=qs.idxOf (ps.getD t 0):=oN _;have e8:Nat.blt (qs.idxOf (ps.getD t 0)) qs.length=true:=by rw[cA]; exact oT hi
  have e9:(Vr qs.length (exv (ixP ps qs) t v)).set (qs.idxOf (ps.getD t 0)) (v t)=Vr qs.length (exv (ixP ps qs) (t+1) v):=aSJ hi;simp only[iH,e1,gU,e2,e3,e5,aD,e6,e7,e8,SR v ht,e9,e4,oC]
 ·have e1:ltI (ps.length:Int) (ps.length:Int)=false:=by rw[aE]; exact oF Z
  simp only[iH,e1,oD]
theorem a4D(hp:ps.length<1000)(hq:qs.length<1000)(uq:Up qs)(hs:∀ n∈ps,n∈qs)(v:V):T1 (ps,qs,Vr ps.length v,())=some (Vr qs.length (exv (ixP ps qs) ps.length v),false,()):=by
 have key:=aY (step:=FZ) (N:=2^64) (λt=>(ps,qs,Vr qs.length (exv (ixP ps qs) t v),false,Vr ps.length v,(ps.length:Int),(t:Int),())) ps.length (Vr qs.length (exv (ixP ps qs) ps.length v),false,()) Z (λt ht=>?_) ?_
 ·have key:L4 (ps,qs,Vr qs.length (λ_=>0),false,Vr ps.length v,(ps.length:Int),0,())=_:=key;have a1:ltI (qs.length:Int) 0=false:=by rw[aE]; exact oF Z
  have a2:ltI (qs.length:Int) (qs.length:Int)=false:=by rw[aE]; exact oF Z
  have a3:ltI 1048576 (qs.length:Int)=false:=by rw[aE]; exact oF Z
  have a4:List.replicate (((qs.length:Nat):Int).toNat) (0:Ty.den (.int .i64))=Vr qs.length (λ_=>0):=by rw[oN]; exact aKS _
  simp only[T1,a1,a2,a3,Bool.not_false,oC,a4,gU,key,aD]
 ·have e1:ltI (t:Int) (ps.length:Int)=true:=by rw[aE]; exact oT Z
  have e2:aF (t:Int) ps.length=true:=by rw[aL]; exact oT Z
  have e3:((t:Nat):Int).toNat=t:=oN _;have e4:=bO t Z;have hm:=hs _ (vX ht);have e5:=aHW (show qs.length<1048576 by omega) uq hm;have hi:=(B3 hm).1;have e6:aF ((qs.idxOf (ps.getD t 0):Nat):Int) qs.length=true:=by rw[aL]; exact oT Z
  have e7:((qs.idxOf (ps.getD t 0):Nat):Int).toNat=qs.idxOf (ps.getD t 0):=oN _;have e8:Nat.blt (qs.idxOf (ps.getD t 0)) qs.length=true:=by rw[cA]; exact oT hi
  have e9:(Vr qs.length (exv (ixP ps qs) t v)).set (qs.idxOf (ps.getD t 0)) (v t)=Vr qs.length (exv (ixP ps qs) (t+1) v):=aSJ hi;simp only[FZ,e1,gU,e2,e3,e5,aD,e6,e7,e8,SR v ht,e9,e4,oC]
 ·have e1:ltI (ps.length:Int) (ps.length:Int)=false:=by rw[aE]; exact oF Z
  simp only[FZ,e1,oD]
theorem a8S(hp:ps.length<1000)(hq:qs.length<1000)(up:Up ps)(uq:Up qs)(hs:∀ n∈qs,n∈ps)(v:V):sB (ps,qs,Vr ps.length v,())=some (Vr qs.length (cpv (ixP qs ps) qs.length v),()):=by
 have he:=aWW uq up hs;have key:=aY (step:=iH) (N:=2^64) (λt=>(ps,qs,Vr qs.length (λl=>if ixP qs ps l<t then v (ixP qs ps l) else 0),Vr ps.length v,(ps.length:Int),(t:Int),())) ps.length (Vr qs.length (cpv (ixP qs ps) qs.length v),()) Z (λt ht=>?_) ?_
 ·have key:xP (ps,qs,Vr qs.length (λl=>if ixP qs ps l<0 then v (ixP qs ps l) else 0),Vr ps.length v,(ps.length:Int),0,())=_:=key;have a0:Vr qs.length (λl=>if ixP qs ps l<0 then v (ixP qs ps l) else 0)=Vr qs.length (λ_=>0):=VZ λx _=>if_neg (Nat.not_lt_zero _)
  rw[a0]at key;have a1:ltI (qs.length:Int) 0=false:=by rw[aE]; exact oF Z
  have a2:ltI (qs.length:Int) (qs.length:Int)=false:=by rw[aE]; exact oF Z
  have a3:ltI 1048576 (qs.length:Int)=false:=by rw[aE]; exact oF Z
  have a4:List.replicate (((qs.length:Nat):Int).toNat) (0:Ty.den (.int .i64))=Vr qs.length (λ_=>0):=by rw[oN]; exact aKS _
  simp only[sB,a1,a2,a3,Bool.not_false,oC,a4,gU,key,aD]
 ·have e1:ltI (t:Int) (ps.length:Int)=true:=by rw[aE]; exact oT Z
  have e2:aF (t:Int) ps.length=true:=by rw[aL]; exact oT Z
  have e3:((t:Nat):Int).toNat=t:=oN _;have e4:=bO t Z
  by_cases hm:ps.getD t 0∈qs
  ·have e5:=aHW (show qs.length<1048576 by omega) uq hm;have hi:=B3 hm;have ht2:ixP qs ps (qs.idxOf (ps.getD t 0))=t:=by
    unfold ixP;rw[hi.2];exact up.inj (B3 (vX ht)).1 ht (B3 (vX ht)).2
   have e6:aF ((qs.idxOf (ps.getD t 0):Nat):Int) qs.length=true:=by rw[aL]; exact oT Z
   have e7:((qs.idxOf (ps.getD t 0):Nat):Int).toNat=qs.idxOf (ps.getD t 0):=oN _;have e8:Nat.blt (qs.idxOf (ps.getD t 0)) qs.length=true:=by rw[cA]; exact oT hi.1
   have e9:(Vr qs.length (λl=>if ixP qs ps l<t then v (ixP qs ps l) else 0)).set (qs.idxOf (ps.getD t 0)) (v t)=Vr qs.length (λl=>if ixP qs ps l<t+1 then v (ixP qs ps l) else 0):=by
    rw[aSJ hi.1];refine VZ λx hx=>?_
    by_cases g:qs.idxOf (ps.getD t 0)=x
    ·rw[if_pos g,<- g,ht2,if_pos Z]
    ·rw[if_neg g];have hne:ixP qs ps x≠t:=λq=>g (by
      rcases Nat.lt_trichotomy (qs.idxOf (ps.getD t 0)) x with a|a|a
      ·have:=he.inc _ _ a hx; omega
      ·exact a
      ·have:=he.inc _ _ a hi.1; omega)
     by_cases g2:ixP qs ps x<t
     ·rw[if_pos g2,if_pos Z]
     ·rw[if_neg g2,if_neg Z]
   simp only[iH,e1,gU,e2,e3,e5,aD,e6,e7,e8,SR v ht,e9,e4,oC]
  ·have e5:=aXJ (show qs.length<1048576 by omega) hm;have e9:Vr qs.length (λl=>if ixP qs ps l<t then v (ixP qs ps l) else 0)=Vr qs.length (λl=>if ixP qs ps l<t+1 then v (ixP qs ps l) else 0):=by
    refine VZ λx hx=>?_
    have hne:ixP qs ps x≠t:=λq=>hm (by
     have h1:=(B3 (hs _ (vX hx))).2;have h2:ps.idxOf (qs.getD x 0)=t:=q;rw[h2]at h1;rw[h1]; exact vX hx)
    by_cases g2:ixP qs ps x<t
    ·rw[if_pos g2,if_pos Z]
    ·rw[if_neg g2,if_neg Z]
   simp only[iH,e1,gU,e2,e3,e5,aD,e4,oC,oD];rw[e9]
 ·have e1:ltI (ps.length:Int) (ps.length:Int)=false:=by rw[aE]; exact oF Z
  have e9:Vr qs.length (λl=>if ixP qs ps l<ps.length then v (ixP qs ps l) else 0)=Vr qs.length (cpv (ixP qs ps) qs.length v):=VZ λx hx=>by rw[if_pos (he.lt x hx),CD hx]
  simp only[iH,e1,oD];rw[e9]
end
theorem aFQ(t n:Nat)(M:Nat->V):Mr t n M++[Vr n (M t)]=Mr (t+1) n M:=by
 unfold Mr;rw[List.range_succ,List.map_append];rfl
theorem a9H(t:Nat)(v:V):Vr t v++[v t]=Vr (t+1) v:=by
 unfold Vr;rw[List.range_succ,List.map_append];rfl
section
variable {ps qs:List Int} {d r:Nat} {C K:Nat->V}
abbrev exM(ps qs:List Int) (C:Nat->V):Nat->V:=λi=>exv (ixP ps qs) ps.length (C i)
theorem aWO(Kl:List (List Int))(Z:List Int×List (List Int)×List (List Int))(hp:ps.length<1000)(hq:qs.length<1000)(hd:d<1000)(uq:Up qs)(hs:∀ n∈ps,n∈qs) :
  A0 (qs,(ps,(Mr d ps.length C,Kl)),(Z.1,(Z.2.1,Z.2.2)),[],Mr d ps.length C,(d:Int),0,())=some (qs,(Z.1,(Z.2.1,Z.2.2)),Mr d qs.length (exM ps qs C),()):=by
 refine aY (step:=tT) (N:=2^64) (λt=>(qs,(ps,(Mr d ps.length C,Kl)),(Z.1,(Z.2.1,Z.2.2)),Mr t qs.length (exM ps qs C),Mr d ps.length C,(d:Int),(t:Int),())) d _ za (λt ht=>?_) ?_
 ·have e1:ltI (t:Int) (d:Int)=true:=by rw[aE]; exact oT za
  have e2:aF (t:Int) d=true:=by rw[aL]; exact oT za
  have e3:((t:Nat):Int).toNat=t:=oN _;have e4:=bO t za;have e5:=a9N hp hq uq hs (C t);have e6:Nat.ble [Vr qs.length (exv (ixP ps qs) ps.length (C t))].length 1048576=true:=rfl;have e7:Nat.ble t 1048576=true:=by rw[dM]; exact oT za
  have e8:=aFQ t qs.length (exM ps qs C);have e8:Mr t qs.length (exM ps qs C)++[Vr qs.length (exv (ixP ps qs) ps.length (C t))]=_:=e8;simp only[tT,e1,cH,e2,e3,VF C ht,e5,aD,e6,e7,e8,e4,oC]
 ·have e1:ltI (d:Int) (d:Int)=false:=by rw[aE]; exact oF za
  simp only[tT,e1,oD]
theorem aPT(h:RT ps ps.length d r C K)(hq:aU (qs,())=some (0,()))(lq:qs.length<=12)(uq:Up qs)(hs:∀ n∈ps,n∈qs) :
  ∃ r' K',RG qs qs.length d r' (gP ps qs) (λ_=>0) (exM ps qs C) K'/\wD ((ps,(Mr d ps.length C,Mr r ps.length K)),qs,())=some ((qs,(Mr d qs.length (exM ps qs C),Mr r' qs.length K')),0,())/\dU ((ps,(Mr d ps.length C,Mr r ps.length K)),qs,())=some ((qs,(Mr d qs.length (exM ps qs C),Mr r' qs.length K')),0,()) /\
   aN (qs,Mr d qs.length (exM ps qs C),())=some ((qs,(Mr d qs.length (exM ps qs C),Mr r' qs.length K')),0,()):=by
 have up:=(aHH h.pr h.aZF).2;have n4:=h.n4;obtain⟨c,hc⟩:=h.hc;have d4:=(Hn.fH hc h.wc).1;obtain⟨r',K',g1,g2⟩:=bAQ h hq rfl lq (aWW up uq hs) bAO;have e0:eqI 0 0=true:=O
 have k:=aWO (C:=C) (d:=d) (Mr r ps.length K) ([],[],[]) Z Z Z uq hs;have hx:wD ((ps,(Mr d ps.length C,Mr r ps.length K)),qs,())=some ((qs,(Mr d qs.length (exM ps qs C),Mr r' qs.length K')),0,()):=by simp only[wD,cH,k,aD,g2]
 obtain⟨w,hw,hl⟩:=a0V h (show qs.length<1048576 by omega);rw[hq]at hw;obtain rfl:w=0:=by simpa using hw.symm
 rw[if_neg R,if_pos hs]at hl;exact⟨r',K',g1,hx,by simp only[dU,hl,aD,e0,Bool.not_true,oD,hx],g2⟩
theorem aYG(T:List (List Int)×List (List Int))(Z:List Int×List (List Int)×List (List Int))(hp:ps.length<1000)(hq:qs.length<1000)(up:Up ps)(uq:Up qs)(hs:∀ n∈qs,n∈ps) :
  qV (qs,(ps,(T.1,T.2)),(Z.1,(Z.2.1,Z.2.2)),[],ps,(ps.length:Int),0,())=some (qs,(ps,(T.1,T.2)),(Z.1,(Z.2.1,Z.2.2)),Mr qs.length ps.length (λj=>un (ixP qs ps j)),()):=by
 have he:=aWW uq up hs;have hm:=he.cnt;have hle:∀ t,cnt (gP qs ps) 0 t<=t:=λt=>by
  induction t with
  | zero=>exact oM _
  | succ t ih =>
   have:cnt (gP qs ps) 0 (t+1)=cnt (gP qs ps) 0 t+ind (gP qs ps) 0 t:=rfl;have h2:ind (gP qs ps) 0 t<=1:=by unfold ind; split <;> omega
   omega
 refine aY (step:=iR) (N:=2^64) (λt=>(qs,(ps,(T.1,T.2)),(Z.1,(Z.2.1,Z.2.2)),Mr (cnt (gP qs ps) 0 t) ps.length (λj=>un (ixP qs ps j)),ps,(ps.length:Int),(t:Int),())) ps.length _ za (λt ht=>?_) ?_
 ·have e1:ltI (t:Int) (ps.length:Int)=true:=by rw[aE]; exact oT za
  have e2:aF (t:Int) ps.length=true:=by rw[aL]; exact oT za
  have e3:((t:Nat):Int).toNat=t:=oN _;have e4:=bO t za;have e5:=OD qs (ps.getD t 0) za
  by_cases g:ps.getD t 0∈qs
  ·have hg:gP qs ps t=0:=by unfold gP; rw[if_pos g]
   obtain⟨g1,g2,g3⟩:=he.a4P ht hg;rw[oT g]at e5;have a1:ltI (ps.length:Int) 0=false:=by rw[aE]; exact oF za
   have a2:ltI (ps.length:Int) (ps.length:Int)=false:=by rw[aE]; exact oF za
   have a3:ltI 1048576 (ps.length:Int)=false:=by rw[aE]; exact oF za
   have a4:List.replicate (((ps.length:Nat):Int).toNat) (0:Ty.den (.int .i64))=Vr ps.length (λ_=>0):=by rw[oN]; exact aKS _
   have a5:(Vr ps.length (λ_=>0)).set t 1=Vr ps.length (un (ixP qs ps (cnt (gP qs ps) 0 t))):=by
    rw[aSJ ht,g2];refine VZ λx hx=>?_
    unfold un
    by_cases q:t=x
    ·rw[if_pos q,if_pos q.symm]
    ·rw[if_neg q,if_neg λh=>q h.symm]
   have a6:Nat.blt t ps.length=true:=by rw[cA]; exact oT ht
   have a7:Nat.ble [Vr ps.length (un (ixP qs ps (cnt (gP qs ps) 0 t)))].length 1048576=true:=rfl;have a8:Nat.ble (cnt (gP qs ps) 0 t) 1048576=true:=by rw[dM]; exact oT (by have:=hle t; omega)
   have a9:Mr (cnt (gP qs ps) 0 t) ps.length (λj=>un (ixP qs ps j))++[Vr ps.length (un (ixP qs ps (cnt (gP qs ps) 0 t)))]=Mr (cnt (gP qs ps) 0 (t+1)) ps.length (λj=>un (ixP qs ps j)):=by rw[g3]; exact aFQ _ _ _
   simp only[iR,e1,e2,e3,e5,aD,a1,a2,a3,a4,gU,a6,Bool.not_false,oC];simp only[a5,a7,cH,a8,a9,e4,oC]
  ·have hg:gP qs ps t≠0:=by unfold gP; rw[if_neg g]; omega
   rw[oF g]at e5;simp only[iR,e1,e2,e3,e5,aD,oC,oD,e4];rw[a6T hg]
 ·have e1:ltI (ps.length:Int) (ps.length:Int)=false:=by rw[aE]; exact oF za
  simp only[iR,e1,oD];rw[<- hm]
theorem aZU {s:Nat}{I L:Nat->V}(T:List (List Int)×List (List Int))(Z:List Int×List (List Int)×List (List Int))(hp:ps.length<1000)(hq:qs.length<1000)(hd:s<1000)(up:Up ps)(uq:Up qs)(hs:∀ n∈qs,n∈ps)(hL:∀ i,i<s->cpv (ixP qs ps) qs.length (I i)=L i) :
  qR (qs,(ps,(T.1,T.2)),(Z.1,(Z.2.1,Z.2.2)),[],Mr s ps.length I,(s:Int),0,())=some (qs,(Z.1,(Z.2.1,Z.2.2)),Mr s qs.length L,()):=by
 refine aY (step:=lZ) (N:=2^64) (λt=>(qs,(ps,(T.1,T.2)),(Z.1,(Z.2.1,Z.2.2)),Mr t qs.length L,Mr s ps.length I,(s:Int),(t:Int),())) s _ za (λt ht=>?_) ?_
 ·have e1:ltI (t:Int) (s:Int)=true:=by rw[aE]; exact oT za
  have e2:aF (t:Int) s=true:=by rw[aL]; exact oT za
  have e3:((t:Nat):Int).toNat=t:=oN _;have e4:=bO t za;have e5:=a8S hp hq up uq hs (I t);rw[hL t ht]at e5;have e6:Nat.ble [Vr qs.length (L t)].length 1048576=true:=rfl;have e7:Nat.ble t 1048576=true:=by rw[dM]; exact oT za
  simp only[lZ,e1,cH,e2,e3,VF I ht,e5,aD,e6,e7,aFQ,e4,oC]
 ·have e1:ltI (s:Int) (s:Int)=false:=by rw[aE]; exact oF za
  simp only[lZ,e1,oD]
theorem a3B(v:V)(T:List (List Int)×List (List Int))(Z:List Int×List (List Int)×List (List Int))(v6 v15:List (List Int))(v16 v17:Int)(hp:ps.length<1000)(hq:qs.length<1000)(up:Up ps)(uq:Up qs)(hs:∀ n∈qs,n∈ps) :
  mN (qs,(ps,(T.1,T.2)),(Z.1,(Z.2.1,Z.2.2)),v6,Vr ps.length v,[],v15,v16,v17,ps,(ps.length:Int),0,())=some (qs,(ps,(T.1,T.2)),(Z.1,(Z.2.1,Z.2.2)),v6,Vr qs.length (cpv (ixP qs ps) qs.length v),v15,v16,v17,()):=by
 have he:=aWW uq up hs;have hm:=he.cnt;have hle:∀ t,cnt (gP qs ps) 0 t<=t:=λt=>by
  induction t with
  | zero=>exact oM _
  | succ t ih =>
   have:cnt (gP qs ps) 0 (t+1)=cnt (gP qs ps) 0 t+ind (gP qs ps) 0 t:=rfl;have h2:ind (gP qs ps) 0 t<=1:=by unfold ind; split <;> omega
   omega
 refine aY (step:=fD) (N:=2^64) (λt=>(qs,(ps,(T.1,T.2)),(Z.1,(Z.2.1,Z.2.2)),v6,Vr ps.length v,Vr (cnt (gP qs ps) 0 t) (λl=>v (ixP qs ps l)),v15,v16,v17,ps,(ps.length:Int),(t:Int),())) ps.length _ za (λt ht=>?_) ?_
 ·have e1:ltI (t:Int) (ps.length:Int)=true:=by rw[aE]; exact oT za
  have e2:aF (t:Int) ps.length=true:=by rw[aL]; exact oT za
  have e3:((t:Nat):Int).toNat=t:=oN _;have e4:=bO t za;have e5:=OD qs (ps.getD t 0) za
  by_cases g:ps.getD t 0∈qs
  ·have hg:gP qs ps t=0:=by unfold gP; rw[if_pos g]
   obtain⟨g1,g2,g3⟩:=he.a4P ht hg;rw[oT g]at e5;have a7:Nat.ble [v t].length 1048576=true:=rfl;have a8:Nat.ble (cnt (gP qs ps) 0 t) 1048576=true:=by rw[dM]; exact oT (by have:=hle t; omega)
   have a9:Vr (cnt (gP qs ps) 0 t) (λl=>v (ixP qs ps l))++[v t]=Vr (cnt (gP qs ps) 0 (t+1)) (λl=>v (ixP qs ps l)):=by rw[g3,<- a9H,g2]
   simp only[fD,e1,e2,e3,e5,aD,gU,SR v ht,a7,a8,a9,e4,oC]
  ·have hg:gP qs ps t≠0:=by unfold gP; rw[if_neg g]; omega
   rw[oF g]at e5;simp only[fD,e1,e2,e3,e5,aD,oC,oD,e4];rw[a6T hg]
 ·have e1:ltI (ps.length:Int) (ps.length:Int)=false:=by rw[aE]; exact oF za
  have e9:Vr qs.length (λl=>v (ixP qs ps l))=Vr qs.length (cpv (ixP qs ps) qs.length v):=VZ λx hx=>by rw[CD hx]
  simp only[fD,e1,oD];rw[<- hm,e9]
theorem aH4(Cl:List (List Int))(Z:List Int×List (List Int)×List (List Int))(hp:ps.length<1000)(hq:qs.length<1000)(hr:r<1000)(up:Up ps)(uq:Up qs)(hs:∀ n∈qs,n∈ps) :
  mJ (qs,(ps,(Cl,Mr r ps.length K)),(Z.1,(Z.2.1,Z.2.2)),[],Mr r ps.length K,(r:Int),0,())=some (qs,(Z.1,(Z.2.1,Z.2.2)),Mr r qs.length (λi=>cpv (ixP qs ps) qs.length (K i)),()):=by
 refine aY (step:=jD) (N:=2^64) (λt=>(qs,(ps,(Cl,Mr r ps.length K)),(Z.1,(Z.2.1,Z.2.2)),Mr t qs.length (λi=>cpv (ixP qs ps) qs.length (K i)),Mr r ps.length K,(r:Int),(t:Int),())) r _ za (λt ht=>?_) ?_
 ·have e1:ltI (t:Int) (r:Int)=true:=by rw[aE]; exact oT za
  have e2:aF (t:Int) r=true:=by rw[aL]; exact oT za
  have e3:((t:Nat):Int).toNat=t:=oN _;have e4:=bO t za;have e5:=a3B (K t) (Cl,Mr r ps.length K) Z (Mr t qs.length (λi=>cpv (ixP qs ps) qs.length (K i))) (Mr r ps.length K) (r:Int) (t:Int) hp hq up uq hs;have e6:Nat.ble [Vr qs.length (cpv (ixP qs ps) qs.length (K t))].length 1048576=true:=rfl;have e7:Nat.ble t 1048576=true:=by rw[dM]; exact oT za
  have e8:Mr t qs.length (λi=>cpv (ixP qs ps) qs.length (K i))++[Vr qs.length (cpv (ixP qs ps) qs.length (K t))]=_:=aFQ t qs.length (λi=>cpv (ixP qs ps) qs.length (K i));simp only[jD,e1,cH,e2,e3,VF K ht,e5,aD,e6,e7,e8,e4,oC]
 ·have e1:ltI (r:Int) (r:Int)=false:=by rw[aE]; exact oF za
  simp only[jD,e1,oD]
theorem aV7(h:RS ps ps.length d r C K)(hq:aU (qs,())=some (0,()))(lq:qs.length<=12)(uq:Up qs)(hs:∀ n∈qs,n∈ps) :
  ∃ s a L K2,RT qs qs.length s a L K2/\eI ((ps,(Mr d ps.length C,Mr r ps.length K)),qs,())=some ((qs,(Mr s qs.length L,Mr a qs.length K2)),0,()) /\
   dN ((ps,(Mr d ps.length C,Mr r ps.length K)),qs,())=some ((qs,(Mr s qs.length L,Mr a qs.length K2)),true,()):=by
 have up:=(aHH h.pr h.aZF).2;have n4:=h.n4;obtain⟨k,hk⟩:=h.hk;have r4:=(Hn.fH hk h.wk).1;obtain⟨s,a,L,K2,g1,g2,g3,g4,g5,g6⟩:=a5U h hq rfl (aWW uq up hs);obtain⟨l,hl⟩:=g1.hc;have s4:=(Hn.fH hl g1.wc).1;have e0:eqI 0 0=true:=O
 obtain⟨w,hw,hls⟩:=aZ8 h.toRT (show qs.length<1048576 by omega);rw[hq]at hw;obtain rfl:w=0:=by simpa using hw.symm
 rw[if_neg R,if_pos hs]at hls;have k1:=aYG (ps:=ps) (qs:=qs) (Mr d ps.length C,Mr r ps.length K) ([],[],[]) Z Z up uq hs;have k2:=aZU (ps:=ps) (qs:=qs) (s:=s) (I:=λi=>exv (ixP qs ps) qs.length (L i)) (L:=L) (Mr d ps.length C,Mr r ps.length K) ([],[],[]) Z Z Z up uq hs g6;have k3:=aH4 (ps:=ps) (qs:=qs) (r:=r) (K:=K) (Mr d ps.length C) ([],[],[]) Z Z Z up uq hs
 refine⟨s,a,L,K2,g1,?_,?_⟩
 ·simp only[eI,hls,aD,e0,Bool.not_true,oD,k1,g2,j4,g3,cH,k2,g4]
 ·simp only[dN,cH,k3,aD,g5,e0]
theorem a7E(v:V)(hp:ps.length<1000):∃ w,NG (ps,Vr ps.length v,())=some (w,()):=by
 have e1:eqI (ps.length:Int) (ps.length:Int)=true:=by rw[dW]; exact oT rfl
 obtain⟨e,h1,h2⟩:=LZ (step:=dK) (N:=2^64) (λt=>(Vr ps.length v,(),(ps.length:Int),(t:Int),())) ps.length (λ_=>True) (λe=>(∃ i:Nat,e=.inl ((i:Int),()))\/e=.inr ()) Z (λt ht _=>by
  have e1:ltI (t:Int) (ps.length:Int)=true:=by rw[aE]; exact oT Z
  have e2:aF (t:Int) ps.length=true:=by rw[aL]; exact oT Z
  have e3:((t:Nat):Int).toNat=t:=oN _;have e4:=bO t Z;cases g1:ltI 1000 (v t)with
  | true=>exact .inr ⟨.inl ((t:Int),()),by simp only[dK,e1,gU,e2,e3,SR v ht,KD,g1,aD,oC],.inl ⟨t,rfl⟩⟩
  | false =>
   cases g2:ltI (v t) (-1000)with
   | true=>exact .inr ⟨.inl ((t:Int),()),by simp only[dK,e1,gU,e2,e3,SR v ht,KD,g1,g2,aD,oC,oD],.inl ⟨t,rfl⟩⟩
   | false=>exact .inl ⟨by simp only[dK,e1,gU,e2,e3,SR v ht,KD,g1,g2,e4,aD,oC,oD],trivial⟩) (λ_=>by
  have e1:ltI (ps.length:Int) (ps.length:Int)=false:=by rw[aE]; exact oF Z
  exact⟨.inr (),by simp only[dK,e1,oD],.inr rfl⟩)
 have key:nU (Vr ps.length v,(),(ps.length:Int),0,())=some e:=h1;rcases h2 with ⟨i,rfl⟩|rfl
 ·have e2:ltI (i:Int) 0=false:=by rw[aE]; exact oF Z
  exact⟨4,by simp only[NG,gU,e1,Bool.not_true,oD,X4,kM,mP,key,aD,tX,e2,Bool.not_false,oC]⟩
 ·have e2:ltI (-1) 0=true:=O
  exact⟨0,by simp only[NG,gU,e1,Bool.not_true,oD,X4,kM,mP,key,aD,fZ,e2]⟩
theorem a4A(hp:aU (ps,())=some (0,()))(hq:aU (qs,())=some (0,()))(lp:ps.length<1000)(lq:qs.length<1000)(uq:Up qs)(hs:∀ n∈ps,n∈qs)(v:V) :
  (∃ w,w≠0/\GP (ps,qs,Vr ps.length v,())=some ([],w,()))\/GP (ps,qs,Vr ps.length v,())=some (Vr qs.length (exv (ixP ps qs) ps.length v),0,()):=by
 have e0:eqI 0 0=true:=O
 have h2:=bBN hp hq;obtain⟨w,hw⟩:=a7E (ps:=ps) v lp;have h3:=a4D lp lq uq hs v
 by_cases g:w=0
 ·subst g;exact .inr (by simp only[GP,h2,aD,e0,Bool.not_true,oD,hw,h3])
 ·have ew:eqI w 0=false:=by rw[dW]; exact oF g
  exact .inl ⟨w,g,by simp only[GP,h2,aD,e0,Bool.not_true,oD,hw,ew,Bool.not_false,oC]⟩
end
end Go.PM
namespace Go.PM
open Go Go.RowKit Go.Proofs Tryz
set_option maxHeartbeats 4000000
abbrev mZ:List (Nat×Kd):=[(4,.box 31 (.list (.int .i64))),(7,.box 35 (.prod (.list (.int .i64)) (.prod (.list (.list (.int .i64))) (.list (.list (.int .i64)))))),(10,.box 35 (.prod (.list (.int .i64)) (.prod (.list (.list (.int .i64))) (.list (.list (.int .i64)))))),(11,.int .i64),(17,.own 53 (.list (.int .i64))),(141,.list (.list (.int .i64))),(142,.int .i64),(143,.int .i64)]
abbrev uW:List (Ex×List (Nat×Kd)):=[(.ret,[(6,.bool)]),(.exit 0,[(4,.box 31 (.list (.int .i64))),(10,.box 35 (.prod (.list (.int .i64)) (.prod (.list (.list (.int .i64))) (.list (.list (.int .i64)))))),(11,.int .i64),(17,.own 53 (.list (.int .i64)))])]
def eE(x:Shape.den mZ):Option (Shape.den mZ⊕fQ uW):=match x with
 | (v4,v7,v10,v11,v17,v141,v142,v143,()) =>
  bif ltI v143 v142 then
   bif aF v143 v141.length then aB (GP (v7.1,v4,(v141.getD v143.toNat []),())) λy17 =>
   bif !(eqI y17.2.1 0) then
    some (.inr (.inl (true,())))
   else bif Nat.ble [y17.1].length 1048576 then bif Nat.ble v17.length 1048576 then some (.inl (v4,(v7.1,(v7.2.1,v7.2.2)),(v10.1,(v10.2.1,v10.2.2)),v11,(v17++[y17.1]),v141,v142,(aC .i64 (v143+1)),())) else none else none else none
  else some (.inr (.inr ((v4,(v10.1,(v10.2.1,v10.2.2)),v11,v17,()))))
def aM(x:Shape.den mZ):Option (fQ uW):=bH eE (2^64) x
def qG(x:aK [.agg (.prod (.int .u8) (.prod (.list (.prod (.int .i8) (.prod (.int .i8) (.prod (.int .i8) (.int .i8))))) .bool)),.list (.int .i64),.int .u8]):Option (aK [.bool]):=match x with
 | (v0,v1,v2,()) =>
  aB (dH (())) λy1 =>
  bif y1.1 then
   aB (xB ((v0.1,(v0.2.1,v0.2.2)),())) λy2 =>
   bif y2.1 then
    bif ltI 8 (v1.length:Int) then
     aB (dH (())) λy3 =>
     some (y3.1,())
    else aB (xH ((v0.1,(v0.2.1,v0.2.2)),())) λy4 =>
    bif eqI (v2.tmod 2) 0 then
     aB (uA (y4.1.1,(aC .u8 (v2.tdiv 2)),())) λy5 =>
     aB (eI ((y4.1.1,(y4.1.2.1,y4.1.2.2)),y5.1,())) λy6 =>
     aB (dU ((y4.1.1,(y4.1.2.1,y4.1.2.2)),y5.1,())) λy7 =>
     aB (aU (y5.1,())) λy8 =>
     bif !(eqI y8.1 0) then
      bif eqI y6.2.1 y8.1 then
       bif eqI y7.2.1 y8.1 then
        aB (bJ ((y6.1.1,(y6.1.2.1,y6.1.2.2)),())) λy9 =>
        bif y9.1 then
         aB (bJ ((y7.1.1,(y7.1.2.1,y7.1.2.2)),())) λy10 =>
         some (y10.1,())
        else some (false,())
       else some (false,())
      else some (false,())
     else aB (cP (y5.1,((y4.1.1,(y4.1.2.1,y4.1.2.2)),()),())) λy11 =>
     bif y11.1 then
      aB (bG (y4.1.1,(y5.1,()),())) λy12 =>
      bif y12.1 then
       bif !(eqI y6.2.1 25) then
        some (false,())
       else aB (bJ ((y6.1.1,(y6.1.2.1,y6.1.2.2)),())) λy13 =>
       bif y13.1 then
        bif !(eqI y7.2.1 25) then
         some (false,())
        else aB (bJ ((y7.1.1,(y7.1.2.1,y7.1.2.2)),())) λy14 =>
        bif y14.1 then
         some (true,())
        else some (false,())
       else some (false,())
      else bif !(eqI y6.2.1 25) then
       some (false,())
      else aB (bJ ((y6.1.1,(y6.1.2.1,y6.1.2.2)),())) λy15 =>
      bif y15.1 then
       aB (aM (y5.1,(y4.1.1,(y4.1.2.1,y4.1.2.2)),(y7.1.1,(y7.1.2.1,y7.1.2.2)),y7.2.1,[],y4.1.2.1,(y4.1.2.1.length:Int),0,())) λz18 =>
       l9 z18 (λa19=>some (a19.1,())) λb20 =>
       aB (aN (b20.1,b20.2.2.2.1,())) λy21 =>
       bif eqI y21.2.1 0 then
        bif eqI b20.2.2.1 0 then
         aB (aX ((b20.2.1.1,(b20.2.1.2.1,b20.2.1.2.2)),(y21.1.1,(y21.1.2.1,y21.1.2.2)),())) λy22 =>
         some (y22.1,())
        else some (false,())
       else some (false,())
      else some (false,())
     else aB (bG (y4.1.1,(y5.1,()),())) λy23 =>
     bif y23.1 then
      bif !(eqI y7.2.1 25) then
       some (false,())
      else aB (bJ ((y7.1.1,(y7.1.2.1,y7.1.2.2)),())) λy24 =>
      bif y24.1 then
       aB (dN ((y4.1.1,(y4.1.2.1,y4.1.2.2)),y5.1,())) λy25 =>
       bif y25.2.1 then
        bif !(eqI y6.2.1 0) then
         some (false,())
        else aB (aX ((y6.1.1,(y6.1.2.1,y6.1.2.2)),(y25.1.1,(y25.1.2.1,y25.1.2.2)),())) λy26 =>
        bif y26.1 then
         bif y25.2.1 then
          some (true,())
         else bif !(eqI y6.2.1 4) then
          some (false,())
         else some (true,())
        else some (false,())
       else bif y25.2.1 then
        some (true,())
       else bif !(eqI y6.2.1 4) then
        some (false,())
       else some (true,())
      else some (false,())
     else aB (dN ((y4.1.1,(y4.1.2.1,y4.1.2.2)),y5.1,())) λy27 =>
     bif y27.2.1 then
      bif !(eqI y6.2.1 0) then
       some (false,())
      else aB (aX ((y6.1.1,(y6.1.2.1,y6.1.2.2)),(y27.1.1,(y27.1.2.1,y27.1.2.2)),())) λy28 =>
      bif y28.1 then
       bif y27.2.1 then
        aB (aM (y5.1,(y4.1.1,(y4.1.2.1,y4.1.2.2)),(y7.1.1,(y7.1.2.1,y7.1.2.2)),y7.2.1,[],y4.1.2.1,(y4.1.2.1.length:Int),0,())) λz29 =>
        l9 z29 (λa30=>some (a30.1,())) λb31 =>
        aB (aN (b31.1,b31.2.2.2.1,())) λy32 =>
        bif eqI y32.2.1 0 then
         bif eqI b31.2.2.1 0 then
          aB (aX ((b31.2.1.1,(b31.2.1.2.1,b31.2.1.2.2)),(y32.1.1,(y32.1.2.1,y32.1.2.2)),())) λy33 =>
          some (y33.1,())
         else some (false,())
        else some (false,())
       else bif !(eqI y6.2.1 4) then
        some (false,())
       else aB (aM (y5.1,(y4.1.1,(y4.1.2.1,y4.1.2.2)),(y7.1.1,(y7.1.2.1,y7.1.2.2)),y7.2.1,[],y4.1.2.1,(y4.1.2.1.length:Int),0,())) λz34 =>
       l9 z34 (λa35=>some (a35.1,())) λb36 =>
       aB (aN (b36.1,b36.2.2.2.1,())) λy37 =>
       bif eqI y37.2.1 0 then
        bif eqI b36.2.2.1 0 then
         aB (aX ((b36.2.1.1,(b36.2.1.2.1,b36.2.1.2.2)),(y37.1.1,(y37.1.2.1,y37.1.2.2)),())) λy38 =>
         some (y38.1,())
        else some (false,())
       else some (false,())
      else some (false,())
     else bif y27.2.1 then
      aB (aM (y5.1,(y4.1.1,(y4.1.2.1,y4.1.2.2)),(y7.1.1,(y7.1.2.1,y7.1.2.2)),y7.2.1,[],y4.1.2.1,(y4.1.2.1.length:Int),0,())) λz39 =>
      l9 z39 (λa40=>some (a40.1,())) λb41 =>
      aB (aN (b41.1,b41.2.2.2.1,())) λy42 =>
      bif eqI y42.2.1 0 then
       bif eqI b41.2.2.1 0 then
        aB (aX ((b41.2.1.1,(b41.2.1.2.1,b41.2.1.2.2)),(y42.1.1,(y42.1.2.1,y42.1.2.2)),())) λy43 =>
        some (y43.1,())
       else some (false,())
      else some (false,())
     else bif !(eqI y6.2.1 4) then
      some (false,())
     else aB (aM (y5.1,(y4.1.1,(y4.1.2.1,y4.1.2.2)),(y7.1.1,(y7.1.2.1,y7.1.2.2)),y7.2.1,[],y4.1.2.1,(y4.1.2.1.length:Int),0,())) λz44 =>
     l9 z44 (λa45=>some (a45.1,())) λb46 =>
     aB (aN (b46.1,b46.2.2.2.1,())) λy47 =>
     bif eqI y47.2.1 0 then
      bif eqI b46.2.2.1 0 then
       aB (aX ((b46.2.1.1,(b46.2.1.2.1,b46.2.1.2.2)),(y47.1.1,(y47.1.2.1,y47.1.2.2)),())) λy48 =>
       some (y48.1,())
      else some (false,())
     else some (false,())
    else aB (eI ((y4.1.1,(y4.1.2.1,y4.1.2.2)),v1,())) λy49 =>
    aB (dU ((y4.1.1,(y4.1.2.1,y4.1.2.2)),v1,())) λy50 =>
    aB (aU (v1,())) λy51 =>
    bif !(eqI y51.1 0) then
     bif eqI y49.2.1 y51.1 then
      bif eqI y50.2.1 y51.1 then
       aB (bJ ((y49.1.1,(y49.1.2.1,y49.1.2.2)),())) λy52 =>
       bif y52.1 then
        aB (bJ ((y50.1.1,(y50.1.2.1,y50.1.2.2)),())) λy53 =>
        some (y53.1,())
       else some (false,())
      else some (false,())
     else some (false,())
    else aB (cP (v1,((y4.1.1,(y4.1.2.1,y4.1.2.2)),()),())) λy54 =>
    bif y54.1 then
     aB (bG (y4.1.1,(v1,()),())) λy55 =>
     bif y55.1 then
      bif !(eqI y49.2.1 25) then
       some (false,())
      else aB (bJ ((y49.1.1,(y49.1.2.1,y49.1.2.2)),())) λy56 =>
      bif y56.1 then
       bif !(eqI y50.2.1 25) then
        some (false,())
       else aB (bJ ((y50.1.1,(y50.1.2.1,y50.1.2.2)),())) λy57 =>
       bif y57.1 then
        some (true,())
       else some (false,())
      else some (false,())
     else bif !(eqI y49.2.1 25) then
      some (false,())
     else aB (bJ ((y49.1.1,(y49.1.2.1,y49.1.2.2)),())) λy58 =>
     bif y58.1 then
      aB (aM (v1,(y4.1.1,(y4.1.2.1,y4.1.2.2)),(y50.1.1,(y50.1.2.1,y50.1.2.2)),y50.2.1,[],y4.1.2.1,(y4.1.2.1.length:Int),0,())) λz59 =>
      l9 z59 (λa60=>some (a60.1,())) λb61 =>
      aB (aN (b61.1,b61.2.2.2.1,())) λy62 =>
      bif eqI y62.2.1 0 then
       bif eqI b61.2.2.1 0 then
        aB (aX ((b61.2.1.1,(b61.2.1.2.1,b61.2.1.2.2)),(y62.1.1,(y62.1.2.1,y62.1.2.2)),())) λy63 =>
        some (y63.1,())
       else some (false,())
      else some (false,())
     else some (false,())
    else aB (bG (y4.1.1,(v1,()),())) λy64 =>
    bif y64.1 then
     bif !(eqI y50.2.1 25) then
      some (false,())
     else aB (bJ ((y50.1.1,(y50.1.2.1,y50.1.2.2)),())) λy65 =>
     bif y65.1 then
      aB (dN ((y4.1.1,(y4.1.2.1,y4.1.2.2)),v1,())) λy66 =>
      bif y66.2.1 then
       bif !(eqI y49.2.1 0) then
        some (false,())
       else aB (aX ((y49.1.1,(y49.1.2.1,y49.1.2.2)),(y66.1.1,(y66.1.2.1,y66.1.2.2)),())) λy67 =>
       bif y67.1 then
        bif y66.2.1 then
         some (true,())
        else bif !(eqI y49.2.1 4) then
         some (false,())
        else some (true,())
       else some (false,())
      else bif y66.2.1 then
       some (true,())
      else bif !(eqI y49.2.1 4) then
       some (false,())
      else some (true,())
     else some (false,())
    else aB (dN ((y4.1.1,(y4.1.2.1,y4.1.2.2)),v1,())) λy68 =>
    bif y68.2.1 then
     bif !(eqI y49.2.1 0) then
      some (false,())
     else aB (aX ((y49.1.1,(y49.1.2.1,y49.1.2.2)),(y68.1.1,(y68.1.2.1,y68.1.2.2)),())) λy69 =>
     bif y69.1 then
      bif y68.2.1 then
       aB (aM (v1,(y4.1.1,(y4.1.2.1,y4.1.2.2)),(y50.1.1,(y50.1.2.1,y50.1.2.2)),y50.2.1,[],y4.1.2.1,(y4.1.2.1.length:Int),0,())) λz70 =>
       l9 z70 (λa71=>some (a71.1,())) λb72 =>
       aB (aN (b72.1,b72.2.2.2.1,())) λy73 =>
       bif eqI y73.2.1 0 then
        bif eqI b72.2.2.1 0 then
         aB (aX ((b72.2.1.1,(b72.2.1.2.1,b72.2.1.2.2)),(y73.1.1,(y73.1.2.1,y73.1.2.2)),())) λy74 =>
         some (y74.1,())
        else some (false,())
       else some (false,())
      else bif !(eqI y49.2.1 4) then
       some (false,())
      else aB (aM (v1,(y4.1.1,(y4.1.2.1,y4.1.2.2)),(y50.1.1,(y50.1.2.1,y50.1.2.2)),y50.2.1,[],y4.1.2.1,(y4.1.2.1.length:Int),0,())) λz75 =>
      l9 z75 (λa76=>some (a76.1,())) λb77 =>
      aB (aN (b77.1,b77.2.2.2.1,())) λy78 =>
      bif eqI y78.2.1 0 then
       bif eqI b77.2.2.1 0 then
        aB (aX ((b77.2.1.1,(b77.2.1.2.1,b77.2.1.2.2)),(y78.1.1,(y78.1.2.1,y78.1.2.2)),())) λy79 =>
        some (y79.1,())
       else some (false,())
      else some (false,())
     else some (false,())
    else bif y68.2.1 then
     aB (aM (v1,(y4.1.1,(y4.1.2.1,y4.1.2.2)),(y50.1.1,(y50.1.2.1,y50.1.2.2)),y50.2.1,[],y4.1.2.1,(y4.1.2.1.length:Int),0,())) λz80 =>
     l9 z80 (λa81=>some (a81.1,())) λb82 =>
     aB (aN (b82.1,b82.2.2.2.1,())) λy83 =>
     bif eqI y83.2.1 0 then
      bif eqI b82.2.2.1 0 then
       aB (aX ((b82.2.1.1,(b82.2.1.2.1,b82.2.1.2.2)),(y83.1.1,(y83.1.2.1,y83.1.2.2)),())) λy84 =>
       some (y84.1,())
      else some (false,())
     else some (false,())
    else bif !(eqI y49.2.1 4) then
     some (false,())
    else aB (aM (v1,(y4.1.1,(y4.1.2.1,y4.1.2.2)),(y50.1.1,(y50.1.2.1,y50.1.2.2)),y50.2.1,[],y4.1.2.1,(y4.1.2.1.length:Int),0,())) λz85 =>
    l9 z85 (λa86=>some (a86.1,())) λb87 =>
    aB (aN (b87.1,b87.2.2.2.1,())) λy88 =>
    bif eqI y88.2.1 0 then
     bif eqI b87.2.2.1 0 then
      aB (aX ((b87.2.1.1,(b87.2.1.2.1,b87.2.1.2.2)),(y88.1.1,(y88.1.2.1,y88.1.2.2)),())) λy89 =>
      some (y89.1,())
     else some (false,())
    else some (false,())
   else aB (dH (())) λy90 =>
   some (y90.1,())
  else aB (dH (())) λy91 =>
  some (y91.1,())
theorem IZ:ZM Tryz.prog 7 [.agg (.prod (.int .u8) (.prod (.list (.prod (.int .i8) (.prod (.int .i8) (.prod (.int .i8) (.int .i8))))) .bool)),.list (.int .i64),.int .u8] [.bool] qG:=oU (aQ (oV uO (oV aJ8 (oV YY (oV UL (oV ZP (oV ZK (oV X5 (oV YC (oV O0 (oV ZX (oV aAM (oV EL (oV EK (oV iZ oW))))))))))))))) func7 23 (lp:=aM) rfl Y (by rintro⟨v4,v7,v10,v11,v17,v141,v142,v143,⟨⟩⟩; kernel_rfl) (by rintro⟨v0,v1,v2,⟨⟩⟩; kernel_rfl)
end Go.PM
namespace Go.PM
open Go Go.RowKit Go.Proofs Go.Lz
theorem aAR(a:List Int) (ha:a.length<1048576):pS (a,a,())=some (true,()):=by
 have e0:eqI (a.length:Int) (a.length:Int)=true:=by rw[dW]; exact oT rfl
 have key:=aY (step:=pB) (N:=2^64) (λt=>(a,a,(t:Int),())) a.length (.inr ()) Z (λt ht=>?_) ?_
 ·have key:uI (a,a,0,())=_:=key;simp only[pS,e0,Bool.not_true,oD,key,aD,fZ]
 ·have e1:ltI (t:Int) (a.length:Int)=true:=by rw[aE]; exact oT Z
  have e2:aF (t:Int) a.length=true:=by rw[aL]; exact oT Z
  have e5:=bO t Z;have e6:eqI (a.getD ((t:Nat):Int).toNat 0) (a.getD ((t:Nat):Int).toNat 0)=true:=by rw[dW]; exact oT rfl
  simp only[pB,e1,e2,e5,e6,oC,Bool.not_true,oD]
 ·have e1:ltI (a.length:Int) (a.length:Int)=false:=by rw[aE]; exact oF Z
  simp only[pB,e1,oD]
theorem aGO(a:List (List Int))(ha:a.length<1048576)(hr:∀ r∈a,r.length<1048576):uY (a,a,())=some (true,()):=by
 have e0:eqI (a.length:Int) (a.length:Int)=true:=by rw[dW]; exact oT rfl
 have key:=aY (step:=sS) (N:=2^64) (λt=>(a,a,(t:Int),())) a.length (.inr ()) Z (λt ht=>?_) ?_
 ·have key:zR (a,a,0,())=_:=key;simp only[uY,e0,Bool.not_true,oD,key,aD,fZ]
 ·have e1:ltI (t:Int) (a.length:Int)=true:=by rw[aE]; exact oT Z
  have e2:aF (t:Int) a.length=true:=by rw[aL]; exact oT Z
  have e3:((t:Nat):Int).toNat=t:=oN _;have e5:=bO t Z;have e4:a.getD t []=a[t]:=by simp[List.getD,ht]
  have e6:=aAR a[t] (hr _ (List.getElem_mem ht));simp only[sS,e1,e2,e3,e4,e5,e6,oC,aD]
 ·have e1:ltI (a.length:Int) (a.length:Int)=false:=by rw[aE]; exact oF Z
  simp only[sS,e1,oD]
theorem aA1(ps:List Int)(A B:List (List Int))(h1:ps.length<1048576)(h2:A.length<1048576)(h3:∀ r∈A,r.length<1048576)(h4:B.length<1048576)(h5:∀ r∈B,r.length<1048576):aX ((ps,(A,B)),(ps,(A,B)),())=some (true,()):=by simp only[aX,IU,IT,aAR ps h1,aGO A h2 h3,aGO B h4 h5,aD,oC]
def tlR(T:List Int×List (List Int)×List (List Int)) (q:List Int):Option (aK [.bool]) :=
 aB (eI ((T.1,(T.2.1,T.2.2)),q,())) λy49 =>
 aB (dU ((T.1,(T.2.1,T.2.2)),q,())) λy50 =>
 aB (aU (q,())) λy51 =>
 bif !(eqI y51.1 0) then
  bif eqI y49.2.1 y51.1 then
   bif eqI y50.2.1 y51.1 then
    aB (bJ ((y49.1.1,(y49.1.2.1,y49.1.2.2)),())) λy52 =>
    bif y52.1 then
     aB (bJ ((y50.1.1,(y50.1.2.1,y50.1.2.2)),())) λy53 =>
     some (y53.1,())
    else some (false,())
   else some (false,())
  else some (false,())
 else aB (cP (q,((T.1,(T.2.1,T.2.2)),()),())) λy54 =>
 bif y54.1 then
  aB (bG (T.1,(q,()),())) λy55 =>
  bif y55.1 then
   bif !(eqI y49.2.1 25) then
    some (false,())
   else aB (bJ ((y49.1.1,(y49.1.2.1,y49.1.2.2)),())) λy56 =>
   bif y56.1 then
    bif !(eqI y50.2.1 25) then
     some (false,())
    else aB (bJ ((y50.1.1,(y50.1.2.1,y50.1.2.2)),())) λy57 =>
    bif y57.1 then
     some (true,())
    else some (false,())
   else some (false,())
  else bif !(eqI y49.2.1 25) then
   some (false,())
  else aB (bJ ((y49.1.1,(y49.1.2.1,y49.1.2.2)),())) λy58 =>
  bif y58.1 then
   aB (aM (q,(T.1,(T.2.1,T.2.2)),(y50.1.1,(y50.1.2.1,y50.1.2.2)),y50.2.1,[],T.2.1,(T.2.1.length:Int),0,())) λz59 =>
   l9 z59 (λa60=>some (a60.1,())) λb61 =>
   aB (aN (b61.1,b61.2.2.2.1,())) λy62 =>
   bif eqI y62.2.1 0 then
    bif eqI b61.2.2.1 0 then
     aB (aX ((b61.2.1.1,(b61.2.1.2.1,b61.2.1.2.2)),(y62.1.1,(y62.1.2.1,y62.1.2.2)),())) λy63 =>
     some (y63.1,())
    else some (false,())
   else some (false,())
  else some (false,())
 else aB (bG (T.1,(q,()),())) λy64 =>
 bif y64.1 then
  bif !(eqI y50.2.1 25) then
   some (false,())
  else aB (bJ ((y50.1.1,(y50.1.2.1,y50.1.2.2)),())) λy65 =>
  bif y65.1 then
   aB (dN ((T.1,(T.2.1,T.2.2)),q,())) λy66 =>
   bif y66.2.1 then
    bif !(eqI y49.2.1 0) then
     some (false,())
    else aB (aX ((y49.1.1,(y49.1.2.1,y49.1.2.2)),(y66.1.1,(y66.1.2.1,y66.1.2.2)),())) λy67 =>
    bif y67.1 then
     bif y66.2.1 then
      some (true,())
     else bif !(eqI y49.2.1 4) then
      some (false,())
     else some (true,())
    else some (false,())
   else bif y66.2.1 then
    some (true,())
   else bif !(eqI y49.2.1 4) then
    some (false,())
   else some (true,())
  else some (false,())
 else aB (dN ((T.1,(T.2.1,T.2.2)),q,())) λy68 =>
 bif y68.2.1 then
  bif !(eqI y49.2.1 0) then
   some (false,())
  else aB (aX ((y49.1.1,(y49.1.2.1,y49.1.2.2)),(y68.1.1,(y68.1.2.1,y68.1.2.2)),())) λy69 =>
  bif y69.1 then
   bif y68.2.1 then
    aB (aM (q,(T.1,(T.2.1,T.2.2)),(y50.1.1,(y50.1.2.1,y50.1.2.2)),y50.2.1,[],T.2.1,(T.2.1.length:Int),0,())) λz70 =>
    l9 z70 (λa71=>some (a71.1,())) λb72 =>
    aB (aN (b72.1,b72.2.2.2.1,())) λy73 =>
    bif eqI y73.2.1 0 then
     bif eqI b72.2.2.1 0 then
      aB (aX ((b72.2.1.1,(b72.2.1.2.1,b72.2.1.2.2)),(y73.1.1,(y73.1.2.1,y73.1.2.2)),())) λy74 =>
      some (y74.1,())
     else some (false,())
    else some (false,())
   else bif !(eqI y49.2.1 4) then
    some (false,())
   else aB (aM (q,(T.1,(T.2.1,T.2.2)),(y50.1.1,(y50.1.2.1,y50.1.2.2)),y50.2.1,[],T.2.1,(T.2.1.length:Int),0,())) λz75 =>
   l9 z75 (λa76=>some (a76.1,())) λb77 =>
   aB (aN (b77.1,b77.2.2.2.1,())) λy78 =>
   bif eqI y78.2.1 0 then
    bif eqI b77.2.2.1 0 then
     aB (aX ((b77.2.1.1,(b77.2.1.2.1,b77.2.1.2.2)),(y78.1.1,(y78.1.2.1,y78.1.2.2)),())) λy79 =>
     some (y79.1,())
    else some (false,())
   else some (false,())
  else some (false,())
 else bif y68.2.1 then
  aB (aM (q,(T.1,(T.2.1,T.2.2)),(y50.1.1,(y50.1.2.1,y50.1.2.2)),y50.2.1,[],T.2.1,(T.2.1.length:Int),0,())) λz80 =>
  l9 z80 (λa81=>some (a81.1,())) λb82 =>
  aB (aN (b82.1,b82.2.2.2.1,())) λy83 =>
  bif eqI y83.2.1 0 then
   bif eqI b82.2.2.1 0 then
    aB (aX ((b82.2.1.1,(b82.2.1.2.1,b82.2.1.2.2)),(y83.1.1,(y83.1.2.1,y83.1.2.2)),())) λy84 =>
    some (y84.1,())
   else some (false,())
  else some (false,())
 else bif !(eqI y49.2.1 4) then
  some (false,())
 else aB (aM (q,(T.1,(T.2.1,T.2.2)),(y50.1.1,(y50.1.2.1,y50.1.2.2)),y50.2.1,[],T.2.1,(T.2.1.length:Int),0,())) λz85 =>
 l9 z85 (λa86=>some (a86.1,())) λb87 =>
 aB (aN (b87.1,b87.2.2.2.1,())) λy88 =>
 bif eqI y88.2.1 0 then
  bif eqI b87.2.2.1 0 then
   aB (aX ((b87.2.1.1,(b87.2.1.2.1,b87.2.1.2.2)),(y88.1.1,(y88.1.2.1,y88.1.2.2)),())) λy89 =>
   some (y89.1,())
  else some (false,())
 else some (false,())
theorem bBI(v0:Int×List (Int×Int×Int×Int)×Bool)(v1:List Int)(v2:Int):qG (v0,v1,v2,()) =
  aB (dH (())) λy1 =>
  bif y1.1 then
   aB (xB ((v0.1,(v0.2.1,v0.2.2)),())) λy2 =>
   bif y2.1 then
    bif ltI 8 (v1.length:Int) then
     aB (dH (())) λy3 =>
     some (y3.1,())
    else aB (xH ((v0.1,(v0.2.1,v0.2.2)),())) λy4 =>
    bif eqI (v2.tmod 2) 0 then
     aB (uA (y4.1.1,(aC .u8 (v2.tdiv 2)),())) λy5=>tlR y4.1 y5.1
    else tlR y4.1 v1
   else aB (dH (())) λy90 =>
   some (y90.1,())
  else aB (dH (())) λy91 =>
  some (y91.1,()):=rfl
section
variable {ps qs:List Int} {d r:Nat} {C K:Nat->V}
theorem aLJ(X:List Int×List (List Int)×List (List Int))(f:Int)(Kl:List (List Int))(hp:aU (ps,())=some (0,()))(hq:aU (qs,())=some (0,()))(lp:ps.length<1000)(lq:qs.length<1000)(ld:d<1000)(uq:Up qs)(hs:∀ n∈ps,n∈qs) :
  ∃ z,aM (qs,(ps,(Mr d ps.length C,Kl)),(X.1,(X.2.1,X.2.2)),f,[],Mr d ps.length C,(d:Int),0,())=some z/\(z=.inl (true,())\/z=.inr (qs,(X.1,(X.2.1,X.2.2)),f,Mr d qs.length (exM ps qs C),())) :=
 LZ (step:=eE) (N:=2^64) (λt=>(qs,(ps,(Mr d ps.length C,Kl)),(X.1,(X.2.1,X.2.2)),f,Mr t qs.length (exM ps qs C),Mr d ps.length C,(d:Int),(t:Int),())) d (λ_=>True) (λz=>z=.inl (true,())\/z=.inr (qs,(X.1,(X.2.1,X.2.2)),f,Mr d qs.length (exM ps qs C),())) Z (λt ht _=>by
  have e1:ltI (t:Int) (d:Int)=true:=by rw[aE]; exact oT Z
  have e2:aF (t:Int) d=true:=by rw[aL]; exact oT Z
  have e3:((t:Nat):Int).toNat=t:=oN _;have e4:=bO t Z;have e0:eqI 0 0=true:=O
  rcases a4A hp hq lp lq uq hs (C t)with ⟨w,hw,h⟩|h
  ·have ew:eqI w 0=false:=by rw[dW]; exact oF hw
   exact .inr ⟨.inl (true,()),by simp only[eE,e1,cH,e2,e3,VF C ht,h,aD,ew,Bool.not_false,oC],.inl rfl⟩
  ·have e6:Nat.ble [Vr qs.length (exv (ixP ps qs) ps.length (C t))].length 1048576=true:=rfl;have e7:Nat.ble t 1048576=true:=by rw[dM]; exact oT Z
   have e8:Mr t qs.length (exM ps qs C)++[Vr qs.length (exv (ixP ps qs) ps.length (C t))]=_:=aFQ t qs.length (exM ps qs C);exact .inl ⟨by simp only[eE,e1,cH,e2,e3,VF C ht,h,aD,e0,Bool.not_true,oD,e6,e7,e8,e4,oC],trivial⟩) (λ_=>by
  have e1:ltI (d:Int) (d:Int)=false:=by rw[aE]; exact oF Z
  exact⟨_,by simp only[eE,e1,oD],.inr rfl⟩)
theorem a5S(h:RS ps ps.length d r C K)(lq:qs.length<=8):tlR (ps,(Mr d ps.length C,Mr r ps.length K)) qs=some (true,()):=by
 have n4:=h.n4;obtain⟨c,hc⟩:=h.hc;have d4:=(Hn.fH hc h.wc).1;have e0:eqI 0 0=true:=O
 have e25:eqI 25 25=true:=O
 have f25:eqI 25 0=false:=O
 have he:bJ ((([]:List Int),(([]:List (List Int)),([]:List (List Int)))),())=some (true,()):=rfl;obtain⟨w,hw,hlr⟩:=aZ8 h.toRT (show qs.length<1048576 by omega);obtain⟨w',hw',hlw⟩:=a0V h.toRT (show qs.length<1048576 by omega);rw[hw]at hw';obtain rfl:w=w':=by simpa using hw'
 by_cases g:w=0
 ·subst g;have uq:=(aHH hw Z).2;rw[if_neg R]at hlr hlw;have c1:=cf1 qs ps Z h.aZF (Mr d ps.length C) (Mr r ps.length K);have c2:=cf2 ps qs h.aZF Z
  by_cases less:∀ n∈qs,n∈ps
  ·rw[oT less]at c1;obtain⟨s,a,L,K2,g1,g2,g3⟩:=aV7 h hw Z uq less;obtain⟨lq2,hl⟩:=g1.hc;obtain⟨kq2,hk2⟩:=g1.hk;have s4:=(Hn.fH hl g1.wc).1;have a4:=(Hn.fH hk2 g1.wk).1;have smq:=aA1 qs (Mr s qs.length L) (Mr a qs.length K2) Z (by rw[cH]; omega) (aBU Z) (by rw[cH]; omega) (aBU Z)
   by_cases more:∀ n∈ps,n∈qs
   ·rw[oT more]at c2;obtain⟨r',K',k1,k2,k3,k4⟩:=aPT h.toRT hw Z uq more;obtain⟨kq3,hk3⟩:=k1.hk;have r12:=(Hn.fH hk3 k1.wk).1;have smq2:=aA1 qs (Mr d qs.length (exM ps qs C)) (Mr r' qs.length K') Z (by rw[cH]; omega) (aBU Z) (by rw[cH]; omega) (aBU Z);obtain⟨z,z1,z2⟩:=aLJ (C:=C) (d:=d) (qs,(Mr d qs.length (exM ps qs C),Mr r' qs.length K')) 0 (Mr r ps.length K) h.pr hw Z Z Z uq more
    rcases z2 with rfl|rfl
    ·simp only[tlR,g2,g3,k3,hw,aD,e0,Bool.not_true,oD,c1,c2,smq,oC,cH,z1,tX]
    ·simp only[tlR,g2,g3,k3,hw,aD,e0,Bool.not_true,oD,c1,c2,smq,oC,cH,z1,fZ,k4,smq2]
   ·rw[oF more]at c2;rw[if_neg more]at hlw;have k3:dU ((ps,(Mr d ps.length C,Mr r ps.length K)),qs,())=some (([],([],[])),25,()):=by simp only[dU,hlw,aD,f25,Bool.not_false,oC]
    simp only[tlR,g2,g3,k3,hw,aD,e0,e25,he,Bool.not_true,Bool.not_false,oD,c1,c2,smq,oC]
  ·rw[oF less]at c1;rw[if_neg less]at hlr;have k2':eI ((ps,(Mr d ps.length C,Mr r ps.length K)),qs,())=some (([],([],[])),25,()):=by simp only[eI,hlr,aD,f25,Bool.not_false,oC]
   by_cases more:∀ n∈ps,n∈qs
   ·rw[oT more]at c2;obtain⟨r',K',k1,k2,k3,k4⟩:=aPT h.toRT hw Z uq more;obtain⟨kq3,hk3⟩:=k1.hk;have r12:=(Hn.fH hk3 k1.wk).1;have smq2:=aA1 qs (Mr d qs.length (exM ps qs C)) (Mr r' qs.length K') Z (by rw[cH]; omega) (aBU Z) (by rw[cH]; omega) (aBU Z);obtain⟨z,z1,z2⟩:=aLJ (C:=C) (d:=d) (qs,(Mr d qs.length (exM ps qs C),Mr r' qs.length K')) 0 (Mr r ps.length K) h.pr hw Z Z Z uq more
    rcases z2 with rfl|rfl
    ·simp only[tlR,k2',k3,hw,aD,e0,e25,he,Bool.not_true,Bool.not_false,oD,c1,c2,oC,cH,z1,tX]
    ·simp only[tlR,k2',k3,hw,aD,e0,e25,he,Bool.not_true,Bool.not_false,oD,c1,c2,oC,cH,z1,fZ,k4,smq2]
   ·rw[oF more]at c2;rw[if_neg more]at hlw;have k3:dU ((ps,(Mr d ps.length C,Mr r ps.length K)),qs,())=some (([],([],[])),25,()):=by simp only[dU,hlw,aD,f25,Bool.not_false,oC]
    simp only[tlR,k2',k3,hw,aD,e0,e25,he,Bool.not_true,Bool.not_false,oD,c1,c2,oC]
 ·have ew:eqI w 0=false:=by rw[dW]; exact oF g
  have eww:eqI w w=true:=by rw[dW]; exact oT rfl
  rw[if_pos g]at hlr hlw;have k2:eI ((ps,(Mr d ps.length C,Mr r ps.length K)),qs,())=some (([],([],[])),w,()):=by simp only[eI,hlr,aD,ew,Bool.not_false,oC]
  have k3:dU ((ps,(Mr d ps.length C,Mr r ps.length K)),qs,())=some (([],([],[])),w,()):=by simp only[dU,hlw,aD,ew,Bool.not_false,oC]
  simp only[tlR,k2,k3,hw,aD,ew,eww,he,Bool.not_false,oC]
theorem a8Z(b:Int)(h0:0<ps.length)(lp:ps.length<=4):∃ q,uA (ps,b,())=some (q,())/\q.length<=4:=by
 obtain⟨z,z1,q,z2,z3⟩:=W6 (step:=vG) (N:=2^64) ps.length (λt x=>∃ q:List Int,q.length<=t/\x=(ps,b,q,ps,(ps.length:Int),(t:Int),())) (λz=>∃ q:List Int,q.length<=ps.length/\z=(ps,q,())) Z (ps,b,[],ps,(ps.length:Int),((0:Nat):Int),()) ⟨[],oM _,rfl⟩ (λt x ht hx=>by
  obtain⟨q,hq,rfl⟩:=hx;have e1:ltI (t:Int) (ps.length:Int)=true:=by rw[aE]; exact oT Z
  have e2:aF (t:Int) ps.length=true:=by rw[aL]; exact oT Z
  have e4:=bO t Z;have e5:ltI (t:Int) 0=false:=by rw[aE]; exact oF Z
  have e6:Nat.ble [ps.getD ((t:Nat):Int).toNat 0].length 1048576=true:=rfl;have e7:Nat.ble q.length 1048576=true:=by rw[dM]; exact oT Z
  simp only[vG,e1,e2,e4,e5,e6,e7,oC,oD];generalize eqI (IntKind.wrap .u8 _) 1=cc;cases cc with
  | true=>exact⟨_,rfl,_,by rw[oH]; show q.length+1<=_; omega,rfl⟩
  | false=>exact⟨_,rfl,q,by omega,rfl⟩) (λx hx=>by
  obtain⟨q,hq,rfl⟩:=hx;have e1:ltI (ps.length:Int) (ps.length:Int)=false:=by rw[aE]; exact oF Z
  exact⟨_,by simp only[vG,e1,oD],q,hq,rfl⟩)
 subst z3;have key:B8 (ps,b,[],ps,(ps.length:Int),0,())=_:=z1;have e2:aF 0 ps.length=true:=by rw[aL]; exact oT Z
 cases g:eqI (q.length:Int) 0 with
 | true=>exact⟨[ps.getD 0 0],by simp only[uA,key,aD,g,e2,oC],by show 1<=4; decide⟩
 | false=>exact⟨q,by simp only[uA,key,aD,g,oD],by omega⟩
end
theorem aL3(p:Int×List (Int×Int×Int×Int)×Bool)(q:List Int)(b:Int)(hA:a4F p):qG (p,q,b,())=some (true,()):=by
 have kn:dH (())=some (true,()):=rfl;have hf:=bAN p;obtain⟨a1,a2,a3⟩:=p;rw[bBI]
 by_cases ha:a2.length<=3
 ·rw[oT ha]at hf
  by_cases hq:q.length<=8
  ·have c8:ltI 8 (q.length:Int)=false:=by rw[aE]; exact oF Z
   obtain⟨d,r,C,K,m1,h1⟩:=a8G a1 hA.1.1 hA.1.2 a2 ha hA.2 a3;generalize L12.getD (a1%10).toNat []=ps at m1 h1;obtain⟨q2,k1,k2⟩:=a8Z (ps:=ps) (aC .u8 (b.tdiv 2)) (aEK h1.pr) h1.n4;have t1:=a5S (qs:=q) h1 hq;have t2:=a5S (qs:=q2) h1 Z;simp only[kn,aD,oC,hf,c8,oD,m1,k1,t1,t2];cases eqI (b.tmod 2) 0 <;> rfl
  ·have c8:ltI 8 (q.length:Int)=true:=by rw[aE]; exact oT Z
   simp only[kn,aD,oC,hf,c8]
 ·rw[oF ha]at hf;simp only[kn,aD,oC,hf,oD]
end Go.PM
