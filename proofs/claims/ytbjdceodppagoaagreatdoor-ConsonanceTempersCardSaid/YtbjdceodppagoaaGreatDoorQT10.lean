/- Texts of one proof, joined (10). -/
import Derived.Shelf.SlSortCmp.Whole1
import Derived.Ground.SlsfProg
import Derived.Test.YtbjdceodppagoaaGreatDoorProg
import Derived.Shelf.Sort.Plain
import Derived.WalkKit
import Derived.Lib.Walk
import Derived.Lib.SliceRun
import Derived.Test.YtbjdceodppagoaaGreatDoorQT9
set_option linter.unusedSimpArgs false
set_option linter.unusedVariables false
set_option maxRecDepth 100000
noncomputable section
namespace Go.PM
open Go Go.RowKit Go.Proofs Go.Lz
theorem IF {a b E F}:∀ {n},(∀ x,x<n->(a x).natAbs<=E)->(∀ x,x<n->(b x).natAbs<=F)->(dot n a b).natAbs<=n*(E*F)
 | 0,_,_=>by simp[dot]
 | n+1,ha,hb=>by
  have h1:=IF (n:=n) (λx hx=>ha x (by omega)) (λx hx=>hb x (by omega));have h2:=AG (ha n (by simp)) (hb n (by simp));rw[Nat.succ_mul];show (dot n a b+a n*b n).natAbs<=_;omega
section
variable {n r:Nat} {K:Nat->V}
theorem C3(hn:n<=12)(hr:r<=12)(ps:List Int)(C:List (List Int))(x:List Int)(hl:x.length=n)(hx:∀ a∈x,a.natAbs<=1000000000)(hw:Wd r n K)(hK:Big r n K 1000000000) :
  nM ((ps,(C,Mr r n K)),x,())=some ((List.range r).map (λi=>Zn (dot n (dK x) (K i))),()):=by
 have hxv:∀ t,t<n->(dK x t).natAbs<=1000000000:=λt ht=>by
  unfold dK;have:x.getD t 0=x[t]'(by omega):=by simp[List.getD,show t<x.length by omega]
  rw[this];exact hx _ (List.getElem_mem _)
 have inner:∀ i,i<r->∀ (v5:List ByteArray) (v12:List (List Int)) (v13 v14:Int),j5 (x,v5,Vr n (K i),ByteArray.mk #[48],v12,v13,v14,x,(x.length:Int),0,())=some (x,v5,Zn (dot n (dK x) (K i)),v12,v13,v14,()):=λi hi v5 v12 v13 v14=>by
  have key:=aQ (step:=fU) (N:=2^64) (λt=>(x,v5,Vr n (K i),Zn (dot t (dK x) (K i)),v12,v13,v14,x,(x.length:Int),(t:Int),())) n (x,v5,Zn (dot n (dK x) (K i)),v12,v13,v14,()) (by omega) (λt ht=>?_) ?_
  ·have z:Zn (dot 0 (dK x) (K i))=ByteArray.mk #[48]:=by
    show Zn 0=_
    kernel_rfl
   have key:j5 (x,v5,Vr n (K i),Zn (dot 0 (dK x) (K i)),v12,v13,v14,x,(x.length:Int),0,())=_:=key;rwa[z]at key
  ·have e1:ltI (t:Int) (x.length:Int)=true:=by rw[aE]; exact oT (by omega)
   have e2:aF (t:Int) x.length=true:=by rw[aG]; exact oT (by omega)
   have e3:((t:Nat):Int).toNat=t:=oN _;have e4:aF (t:Int) n=true:=by rw[aG]; exact oT (by omega)
   have b1:=hxv t ht;have b2:=hK i hi t ht;have b3:=IF (n:=t) (a:=dK x) (b:=K i) (λy hy=>hxv y (by omega)) (λy hy=>hK i hi y (by omega));have b4:=AG b1 b2;have e5:dM (x.getD t 0,())=some (Zn (dK x t),()):=iP _ (by have:x.getD t 0=dK x t:=rfl; omega) (by have:x.getD t 0=dK x t:=rfl; omega);have e6:dM ((Vr n (K i)).getD t 0,())=some (Zn (K i t),()):=by rw[BS _ ht]; exact iP _ (by omega) (by omega)
   have d1:=gM (u:=(dK x t).natAbs) (k:=9) (by omega);have d2:=gM (u:=(K i t).natAbs) (k:=9) (by omega);have e7:=BD (dK x t) (K i t) (by omega);have d3:=gM (u:=(dot t (dK x) (K i)).natAbs) (k:=20) (by omega);have d4:=gM (u:=(dK x t*K i t).natAbs) (k:=20) (by omega);have e8:=A9 (dot t (dK x) (K i)) (dK x t*K i t) (by omega) (by omega);have e9:=aT t (by omega);have e10:dot t (dK x) (K i)+dK x t*K i t=dot (t+1) (dK x) (K i):=rfl
   simp only[fU,e1,e2,e3,e5,aD,q8,e4,e6,e7,e8,e9,e10,oC]
  ·have e1:ltI (n:Int) (x.length:Int)=false:=by rw[aE]; exact oF (by omega)
   simp only[fU,e1,oD]
 have key:=aQ (step:=fW) (N:=2^64) (λt=>(x,(List.range t).map (λi=>Zn (dot n (dK x) (K i))),Mr r n K,((Mr r n K).length:Int),(t:Int),())) r ((List.range r).map (λi=>Zn (dot n (dK x) (K i))),()) (by omega) (λt ht=>?_) ?_
 ·have key:nT (x,[],Mr r n K,((Mr r n K).length:Int),0,())=_:=key;simp only[nM,key,aD]
 ·have e1:ltI (t:Int) (r:Int)=true:=by rw[aE]; exact oT (by omega)
  have e2:aF (t:Int) r=true:=by rw[aG]; exact oT (by omega)
  have e3:((t:Nat):Int).toNat=t:=oN _;have e4:∀ s:ByteArray,Nat.ble [s].length 1048576=true:=λ_=>rfl
  have e5:Nat.ble ((List.range t).map (λi=>Zn (dot n (dK x) (K i)))).length 1048576=true:=by rw[bY,List.length_map,List.length_range]; exact oT (by omega)
  have e6:=aT t (by omega);have e7:(List.range (t+1)).map (λi=>Zn (dot n (dK x) (K i)))=(List.range t).map (λi=>Zn (dot n (dK x) (K i)))++[Zn (dot n (dK x) (K t))]:=by rw[List.range_succ,List.map_append]; rfl
  simp only[fW,kJ,e1,e2,e3,EU K ht,inner t ht,aD,e4,e5,e6,e7,oC]
 ·have e1:ltI (r:Int) (r:Int)=false:=by rw[aE]; exact oF (by omega)
  simp only[fW,kJ,e1,oD]
end
section
variable {ps:List Int} {n d r:Nat} {C K:Nat->V}
theorem GP(h:RT ps n d r C K)(x:List Int)(hl:x.length=n)(hx:∀ a∈x,a.natAbs<=1000000000):n9 ((ps,(Mr d n C,Mr r n K)),[x],())=some (0,()):=by
 have n4:=h.n4;have e0:eqI 0 0=true:=by decide
 have c1:=yM x (by omega) hx;have e1:eqI ((x.length:Nat):Int) ((ps.length:Nat):Int)=true:=by rw[bT]; exact oT (by rw[hl,h.len])
 have key:=aQ (step:=kB) (N:=2^64) (λt=>((ps,(Mr d n C,Mr r n K)),[x],1,(t:Int),())) 1 (.inr ()) (by omega) (λt ht=>?_) ?_
 ·have key:pF ((ps,(Mr d n C,Mr r n K)),[x],([x].length:Int),0,())=_:=key;simp only[n9,h.check,aD,e0,Bool.not_true,oD,key,eG]
 ·obtain rfl:t=0:=by omega
  have e2:ltI ((0:Nat):Int) 1=true:=by decide
  have e3:=aT 0 (by omega);simp only[kB,e2,oC,e3];show (bif aF ((0:Nat):Int) 1 then aC (mI (x,())) _ else none)=_;have e4:aF ((0:Nat):Int) 1=true:=by decide
  simp only[e4,oC,c1,aD,e0,Bool.not_true,oD];grind
 rfl
def tmp(n r:Nat) (K:Nat->V) (x:List Int):List Int:=Vr r λi=>dot n (dK x) (K i)
theorem J5(h:RT ps n d r C K) x (hl:x.length=n)(hx:∀ a∈x,a.natAbs<=1000000000)(hd:∀ i,i<r->(dot n (dK x) (K i)).natAbs<=1000000000) :
  fF ((ps,(Mr d n C,Mr r n K)),x,())=some (tmp n r K x,0,()):=by
 have n4:=h.n4;obtain⟨p,hk⟩:=h.hk;have r4:=(Hn.rM hk h.wk).1;have e0:eqI 0 0=true:=by decide
 have t1:=C3 (by omega) (by omega) ps (Mr d n C) x hl hx h.wk h.bk;generalize hz:(List.range r).map (λi=>Zn (dot n (dK x) (K i)))=zs at t1;have hzl:zs.length=r:=by rw[<- hz]; simp
 have key:=aQ (step:=bC) (N:=2^64) (λt=>((List.range t).map (λi=>dot n (dK x) (K i)),zs,(r:Int),(t:Int),())) r (.inr (tmp n r K x,())) (by omega) (λt ht=>?_) ?_
 ·have key:j0 ([],zs,(zs.length:Int),0,())=some (.inr (tmp n r K x,())):=by rw[hzl]; exact key
  simp only[fF,GP h x hl hx,aD,e0,Bool.not_true,oD,t1,key,eG]
 ·have e2:ltI (t:Int) (r:Int)=true:=by rw[aE]; exact oT (by omega)
  have e3:aF (t:Int) zs.length=true:=by rw[aG]; exact oT (by omega)
  have e4:zs.getD ((t:Int)).toNat ByteArray.empty=Zn (dot n (dK x) (K t)):=by rw[<- hz]; simp[List.getD,ht]
  have hb:=hd t ht;have e5:=zN (dot n (dK x) (K t)) (by have:=gM (u:=(dot n (dK x) (K t)).natAbs) (k:=17) (by omega); omega);have e6:ltI 1000000000 (dot n (dK x) (K t))=false:=by rw[aE]; exact oF (by omega)
  have e7:ltI (dot n (dK x) (K t)) (-1000000000)=false:=by rw[aE]; exact oF (by omega)
  have e8:Nat.ble [dot n (dK x) (K t)].length 1048576=true:=rfl;have e9:Nat.ble ((List.range t).map (λi=>dot n (dK x) (K i))).length 1048576=true:=Nat.ble_eq_true_of_le (by simp; omega);have e10:=aT t (by omega);simp only[bC,e2,oC,e3,e4,e5,aD,e6,oD,e7,e8,e9,e10];rw[List.range_succ,List.map_append]; rfl
 ·have e2:ltI (r:Int) (r:Int)=false:=by rw[aE]; exact oF (by omega)
  simp only[bC,e2,oD]; rfl
end
theorem yC:∀ (l:List UInt8) (acc m:Nat),Lib.decFrom acc l=some m->acc<=m
 | [],acc,m,h=>by
  simp only[Lib.decFrom]at h;injection h with h; omega
 | c::r,acc,m,h=>by
  by_cases hd:48<=c.toNat/\c.toNat<=57
  ·simp only[Lib.decFrom,Lib.digitVal,if_pos hd]at h;have:=yC r _ m h;omega
  ·simp only[Lib.decFrom,Lib.digitVal,if_neg hd]at h;cases h
theorem P8:∀ (l:List UInt8) (acc m:Nat),acc<18446744073709551616->Lib.decFrom acc l=some m->Lib.parseUint10 acc l=if m<18446744073709551616 then .ok m else .range
 | [],acc,m,ha,h=>by
  simp only[Lib.decFrom]at h;injection h with h;subst h;rw[if_pos ha]; rfl
 | c::r,acc,m,ha,h=>by
  by_cases hd:48<=c.toNat/\c.toNat<=57
  ·simp only[Lib.decFrom,Lib.digitVal,if_pos hd]at h;have hge:=yC r _ m h;simp only[Lib.parseUint10,if_pos hd]
   by_cases h1:1844674407370955162<=acc
   ·rw[if_pos h1,if_neg (by omega)]
   ·rw[if_neg h1]
    by_cases h2:18446744073709551616<=acc*10+(c.toNat-48)
    ·rw[if_pos h2,if_neg (by omega)]
    ·rw[if_neg h2];exact P8 r _ m (by omega) h
  ·simp only[Lib.decFrom,Lib.digitVal,if_neg hd]at h;cases h
theorem FC {l:List UInt8}{m:Nat}(h:Lib.decNat l=some m):Lib.parseMag l=if m<18446744073709551616 then .ok m else .range:=by
 have hne:l≠[]:=λe=>by subst e; cases h
 have hd:Lib.decFrom 0 l=some m:=by
  unfold Lib.decNat at h;split at h
  ·cases h
  ·exact h
 unfold Lib.parseMag;rw[if_neg hne];exact P8 l 0 m (by decide) hd
theorem FP {n:Int}(h:Lib.nDigits n.natAbs<=400000):(Zn n).size<=1000000000:=by
 rcases(by omega:n<0\/0<=n)with g|g
 ·rw[mC g]; omega
 ·rw[r7 g,lX]; omega
theorem AL(n:Int) (h:Lib.nDigits n.natAbs<=400000):∃ v b,gV (Zn n,())=some (v,b,())/\(b=true->v=n)/\(n.natAbs<=1000000000->b=true):=by
 have e1:Nat.ble (Zn n).size 1000000000=true:=by rw[bY]; simpa using FP h
 have hmag:=zH n.natAbs;rw[jW]at hmag;have hp:=FC hmag;have hne:∀ c r,Lib.decDigits n.natAbs=c::r->c.toNat≠43/\c.toNat≠45:=λc r he=>by
  have:=nV n.natAbs c (by rw[he]; simp);omega
 have fin:∀ v,Lib.parseIntB 64 (Zn n).data.toList=.ok v->v=n->∃ v b,gV (Zn n,())=some (v,b,())/\(b=true->v=n)/\(n.natAbs<=1000000000->b=true):=λv hv e=>⟨v,true,by
  unfold gV;simp only[e1,oC,hv],λ_=>e,λ_=>rfl⟩
 have bad:Lib.parseIntB 64 (Zn n).data.toList=.range->1000000000<n.natAbs->∃ v b,gV (Zn n,())=some (v,b,())/\(b=true->v=n)/\(n.natAbs<=1000000000->b=true):=λhv hb=>⟨0,false,by
  unfold gV;simp only[e1,oC,hv],(λh=>by cases h),λh=>by omega⟩
 rcases(by omega:n<0\/0<=n)with g|g
 ·have ez:Lib.parseIntB 64 (Zn n).data.toList=Lib.signed (Lib.parseMag (Lib.decDigits n.natAbs)):=by
   rw[Lib.parseIntB_64,tY g,Lib.atoiAll_minus]
  by_cases h1:n.natAbs<18446744073709551616
  ·rw[if_pos h1]at hp;rw[hp]at ez
   by_cases h2:9223372036854775808<n.natAbs
   ·exact bad (by rw[ez]; simp only[Lib.signed,if_pos h2]) (by omega)
   ·exact fin (-(n.natAbs:Int)) (by rw[ez]; simp only[Lib.signed,if_neg h2]) (by omega)
  ·rw[if_neg h1]at hp;rw[hp]at ez;exact bad (by rw[ez]; rfl) (by omega)
 ·have ez:Lib.parseIntB 64 (Zn n).data.toList=Lib.signless (Lib.parseMag (Lib.decDigits n.natAbs)):=by
   rw[Lib.parseIntB_64,r7 g,jW];cases he:Lib.decDigits n.natAbs with
   | nil=>exact absurd he (nA _)
   | cons c r =>
    obtain⟨a1,a2⟩:=hne c r he;rw[Lib.atoiAll_plain c r a1 a2]
  by_cases h1:n.natAbs<18446744073709551616
  ·rw[if_pos h1]at hp;rw[hp]at ez
   by_cases h2:9223372036854775808<=n.natAbs
   ·exact bad (by rw[ez]; simp only[Lib.signless,if_pos h2]) (by omega)
   ·exact fin (n.natAbs:Int) (by rw[ez]; simp only[Lib.signless,if_neg h2]) (by omega)
  ·rw[if_neg h1]at hp;rw[hp]at ez;exact bad (by rw[ez]; rfl) (by omega)
section
variable {ps:List Int} {n d r:Nat} {C K:Nat->V}
theorem N3 {n:Nat}{A B:Nat}{u v:V}(hu:∀ i,i<n->(u i).natAbs<=A)(hv:∀ i,i<n->(v i).natAbs<=B):(dot n u v).natAbs<=n*(A*B):=by
 induction n with
 | zero=>simp[dot]
 | succ n ih =>
  have h1:=ih (λi hi=>hu i (by omega)) (λi hi=>hv i (by omega));have h2:(u n*v n).natAbs<=A*B:=by
   rw[Int.natAbs_mul];exact Nat.mul_le_mul (hu n (by omega)) (hv n (by omega))
  show (dot n u v+u n*v n).natAbs<=_;rw[Nat.succ_mul];omega
theorem HV(h:RT ps n d r C K) (x:List Int) (hl:x.length=n) (hx:∀ a∈x,a.natAbs<=1000000000) :
  ∃ y e,fF ((ps,(Mr d n C,Mr r n K)),x,())=some (y,e,())/\(e=0->y.length=r/\∀ a∈y,a.natAbs<=1000000000)/\y.length<=4:=by
 have n4:=h.n4;obtain⟨p,hk⟩:=h.hk;have r4:=(Hn.rM hk h.wk).1
 by_cases hd:∀ i,i<r->(dot n (dK x) (K i)).natAbs<=1000000000
 ·refine⟨_,_,J5 h x hl hx hd,λ_=>⟨by simp[tmp,Vr],λa ha=>?_⟩,by simp[tmp,Vr]; omega⟩;obtain⟨i,hi,rfl⟩:=List.mem_map.1 ha;exact hd i (List.mem_range.1 hi)
 ·have e0:eqI 0 0=true:=by decide
  have t1:=C3 (by omega) (by omega) ps (Mr d n C) x hl hx h.wk h.bk;generalize hz:(List.range r).map (λi=>Zn (dot n (dK x) (K i)))=zs at t1;have hzl:zs.length=r:=by rw[<- hz]; simp
  have key:∀ m j,j+m=r->(∀ i,i<j->(dot n (dK x) (K i)).natAbs<=1000000000)->∀ N,m<N->aO bC N ((List.range j).map (λi=>dot n (dK x) (K i)),zs,(r:Int),(j:Int),())=some (.inl ([],4,())):=by
   intro m
   induction m with
   | zero =>
    intro j hj hg N hN;exact(hd λi hi=>hg i (by omega)).elim
   | succ m ih =>
    intro j hj hg N hN;obtain⟨N,rfl⟩:∃ M,N=M+1:=⟨N-1,by omega⟩;have e2:ltI (j:Int) (r:Int)=true:=by rw[aE]; exact oT (by omega)
    have e3:aF (j:Int) zs.length=true:=by rw[aG]; exact oT (by omega)
    have e4:zs.getD ((j:Int)).toNat ByteArray.empty=Zn (dot n (dK x) (K j)):=by rw[<- hz]; simp[List.getD,show j<r by omega]
    have hb:(dot n (dK x) (K j)).natAbs<=n*(1000000000*1000000000):=N3 (λi hi=>by
     unfold dK;have:x.getD i 0=x[i]'(by omega):=by simp[List.getD,show i<x.length by omega]
     rw[this]; exact hx _ (List.getElem_mem _)) (λi hi=>h.bk j (by omega) i hi)
    have hb2:n*(1000000000*1000000000)<=4*(1000000000*1000000000):=Nat.mul_le_mul_right _ n4;obtain⟨v,b,s1,s2,s3⟩:=AL (dot n (dK x) (K j)) (by have:=gM (u:=(dot n (dK x) (K j)).natAbs) (k:=30) (by omega); omega)
    by_cases g:(dot n (dK x) (K j)).natAbs<=1000000000
    ·obtain rfl:=s3 g;obtain rfl:=s2 rfl;have e6:ltI 1000000000 (dot n (dK x) (K j))=false:=by rw[aE]; exact oF (by omega)
     have e7:ltI (dot n (dK x) (K j)) (-1000000000)=false:=by rw[aE]; exact oF (by omega)
     have e8:Nat.ble [dot n (dK x) (K j)].length 1048576=true:=rfl;have e9:Nat.ble ((List.range j).map (λi=>dot n (dK x) (K i))).length 1048576=true:=Nat.ble_eq_true_of_le (by simp; omega);have e10:=aT j (by omega);have st:bC ((List.range j).map (λi=>dot n (dK x) (K i)),zs,(r:Int),(j:Int),())=some (.inl ((List.range (j+1)).map (λi=>dot n (dK x) (K i)),zs,(r:Int),((j+1:Nat):Int),())):=by
      simp only[bC,e2,oC,e3,e4,s1,aD,e6,oD,e7,e8,e9,e10];rw[List.range_succ,List.map_append]; rfl
     rw[aV,st];exact ih (j+1) (by omega) (λi hi=>by
      by_cases e:i=j
      ·subst e; exact g
      ·exact hg i (by omega)) N (by omega)
    ·have st:bC ((List.range j).map (λi=>dot n (dK x) (K i)),zs,(r:Int),(j:Int),())=some (.inr (.inl ([],4,()))):=by
      cases b with
      | false=>simp only[bC,e2,oC,e3,e4,s1,aD,oD]
      | true =>
       obtain rfl:=s2 rfl
       by_cases g2:1000000000<dot n (dK x) (K j)
       ·have e6:ltI 1000000000 (dot n (dK x) (K j))=true:=by rw[aE]; exact oT g2
        simp only[bC,e2,oC,e3,e4,s1,aD,e6]
       ·have e6:ltI 1000000000 (dot n (dK x) (K j))=false:=by rw[aE]; exact oF g2
        have e7:ltI (dot n (dK x) (K j)) (-1000000000)=true:=by rw[aE]; exact oT (by omega)
        simp only[bC,e2,oC,e3,e4,s1,aD,e6,oD,e7]
     rw[aV,st]
  have key:=key r 0 (by omega) (λi hi=>by omega) (2^64) (by omega);have key:j0 ([],zs,(zs.length:Int),0,())=some (.inl ([],4,())):=by rw[hzl]; exact key
  exact⟨[],4,by simp only[fF,GP h x hl hx,aD,e0,Bool.not_true,oD,t1,key,pN],(λh=>by cases h),by simp⟩
end
end Go.PM
namespace Go.PM
open Go Go.RowKit Go.Proofs Tryz
set_option maxHeartbeats 4000000
def qE(x:aL [.int .i64]):Option (aL [.bool]):=match x with
 | (v0,()) =>
  some (!(eqI v0 v0),())
abbrev aT5:Ent:=⟨148,_,_,qE⟩
theorem aQJ:Ent.OK Tryz.prog aT5:=oI (RU oW) func148 (by kernel_rfl) (by rintro⟨v0,⟨⟩⟩; kernel_rfl)
def q9(x:aL [.int .i64,.int .i64]):Option (aL [.int .i64]):=match x with
 | (v0,v1,()) =>
  aC (qE (v0,())) λy1 =>
  aC (qE (v1,())) λy2 =>
  bif y1.1 then
   bif y2.1 then
    some (0,())
   else some ((-1),())
  else bif y2.1 then
   some (1,())
  else bif ltI v0 v1 then
   some ((-1),())
  else bif ltI v1 v0 then
   some (1,())
  else some (0,())
abbrev aRI:Ent:=⟨108,_,_,q9⟩
theorem aNM:Ent.OK Tryz.prog aRI:=oI (RU (oV aQJ oW)) func108 (by kernel_rfl) (by rintro⟨v0,v1,⟨⟩⟩; kernel_rfl)
abbrev fN:List (Nat×Kd):=[(0,.list TyE),(1,.list TyE),(9,.list TyE),(10,.int .i64),(11,.int .i64)]
abbrev kK:List (Ex×List (Nat×Kd)):=[(.ret,[(4,.int .i64)]),(.exit 0,[(0,.list TyE),(1,.list TyE)])]
def dG(x:Shape.den fN):Option (Shape.den fN⊕fR kK):=match x with
 | (v0,v1,v9,v10,v11,()) =>
  bif ltI v11 v10 then
   bif aF v11 v9.length then bif !(ltI v11 (v1.length:Int)) then
    some (.inr (.inl (1,())))
   else bif aF v11 v1.length then aC (q9 ((v9.getD v11.toNat 0),(v1.getD v11.toNat 0),())) λy2 =>
   bif !(eqI y2.1 0) then
    some (.inr (.inl (y2.1,())))
   else some (.inl (v0,v1,v9,v10,(aB .i64 (v11+1)),())) else none else none
  else some (.inr (.inr ((v0,v1,()))))
def jR(x:Shape.den fN):Option (fR kK):=aO dG (2^64) x
def gW(x:aL [.list TyE,.list TyE]):Option (aL [.int .i64]):=match x with
 | (v0,v1,()) =>
  aC (jR (v0,v1,v0,(v0.length:Int),0,())) λz3 =>
  iB z3 (λa4=>some (a4.1,())) λb5 =>
  bif ltI (b5.1.length:Int) (b5.2.1.length:Int) then
   some ((-1),())
  else some (0,())
abbrev aFS:Ent:=⟨71,_,_,gW⟩
theorem aDG:Ent.OK Tryz.prog aFS:=oU (RU (oV aNM oW)) func71 2 (lp:=jR) rfl (by kernel_rfl) (by rintro⟨v0,v1,v9,v10,v11,⟨⟩⟩; kernel_rfl) (by rintro⟨v0,v1,⟨⟩⟩; kernel_rfl)
def uW(x:aL [.list TyE,.list TyE]):Option (aL [.int .i64]):=match x with
 | (v0,v1,()) =>
  aC (gW (v0,v1,())) λy1 =>
  some (y1.1,())
abbrev aPK:Ent:=⟨36,_,_,uW⟩
theorem aE8:Ent.OK Tryz.prog aPK:=oI (RU (oV aDG oW)) func36 (by kernel_rfl) (by rintro⟨v0,v1,⟨⟩⟩; kernel_rfl)
def tX(x:aL [.int .i64]):Option (aL [.bool]):=match x with
 | (v0,()) =>
  some (!(eqI v0 0),())
abbrev aUM:Ent:=⟨95,_,_,tX⟩
theorem aQR:Ent.OK Tryz.prog aUM:=oI (RU oW) func95 (by kernel_rfl) (by rintro⟨v0,⟨⟩⟩; kernel_rfl)
abbrev eQ:List (Nat×Kd):=[(0,.list TyE),(1,.fn 95),(7,.int .i64),(8,.int .i64)]
abbrev jA:List (Ex×List (Nat×Kd)):=[(.ret,[(4,.int .i64)]),(.exit 0,[])]
def cW(x:Shape.den eQ):Option (Shape.den eQ⊕fR jA):=match x with
 | (v0,v1,v7,v8,()) =>
  bif ltI v8 v7 then
   bif aF v8 v0.length then aC (tX ((v0.getD v8.toNat 0),())) λy2 =>
   bif y2.1 then
    some (.inr (.inl (v8,())))
   else some (.inl (v0,(),v7,(aB .i64 (v8+1)),())) else none
  else some (.inr (.inr ((()))))
def iC(x:Shape.den eQ):Option (fR jA):=aO cW (2^64) x
def fM(x:aL [.list TyE,.fn 95]):Option (aL [.int .i64]):=match x with
 | (v0,v1,()) =>
  aC (iC (v0,(),(v0.length:Int),0,())) λz3 =>
  iB z3 (λa4=>some (a4.1,())) λb5 =>
  some ((-1),())
abbrev aDC:Ent:=⟨110,_,_,fM⟩
theorem aBR:Ent.OK Tryz.prog aDC:=oU (RU (oV aQR oW)) func110 2 (lp:=iC) rfl (by kernel_rfl) (by rintro⟨v0,v1,v7,v8,⟨⟩⟩; kernel_rfl) (by rintro⟨v0,v1,⟨⟩⟩; kernel_rfl)
def iZ(x:aL [.list TyE,.fn 95]):Option (aL [.bool]):=match x with
 | (v0,v1,()) =>
  aC (fM (v0,(),())) λy1 =>
  some (!(ltI y1.1 0),())
abbrev aBL:Ent:=⟨76,_,_,iZ⟩
theorem aAF:Ent.OK Tryz.prog aBL:=oI (RU (oV aBR oW)) func76 (by kernel_rfl) (by rintro⟨v0,v1,⟨⟩⟩; kernel_rfl)
def wB(x:aL [.list TyE]):Option (aL [.bool]):=match x with
 | (v0,()) =>
  aC (iZ (v0,(),())) λy1 =>
  bif y1.1 then
   some (false,())
  else some (true,())
abbrev aRM:Ent:=⟨65,_,_,wB⟩
theorem aTH:Ent.OK Tryz.prog aRM:=oI (RU (oV aAF oW)) func65 (by kernel_rfl) (by rintro⟨v0,⟨⟩⟩; kernel_rfl)
def rE(x:aL [.int .i64,.list TyD]):Option (aL [.int .i64]):=match x with
 | (v0,v1,()) =>
  bif ltI v0 0 then
   some (3,())
  else bif ltI 12 v0 then
   some (3,())
  else aC (lH (v1,v0,())) λy1 =>
  some (y1.1,())
abbrev aJO:Ent:=⟨37,_,_,rE⟩
theorem aNU:Ent.OK Tryz.prog aJO:=oI (RU (oV aJI oW)) func37 (by kernel_rfl) (by rintro⟨v0,v1,⟨⟩⟩; kernel_rfl)
abbrev nJ:List (Nat×Kd):=[(0,.list TyE),(1,.list TyE),(2,.int .i64),(7,.own 3 TyE),(13,.int .i64),(14,.int .i64)]
abbrev sI:List (Ex×List (Nat×Kd)):=[(.exit 0,[(7,.own 3 TyE)])]
def iX(x:Shape.den nJ):Option (Shape.den nJ⊕fR sI):=match x with
 | (v0,v1,v2,v7,v13,v14,()) =>
  bif ltI v14 v13 then
   bif aF v14 v0.length then bif aF v14 v1.length then bif aF v14 v7.length then bif Nat.blt v14.toNat v7.length then some (.inl (v0,v1,v2,(v7.set v14.toNat (aB .i64 ((v0.getD v14.toNat 0)+(aB .i64 (v2*(v1.getD v14.toNat 0)))))),v13,(aB .i64 (v14+1)),())) else none else none else none else none
  else some (.inr ((v7,())))
def qV(x:Shape.den nJ):Option (fR sI):=aO iX (2^64) x
def rI(x:aL [.list TyE,.list TyE,.int .i64]):Option (aL [.list TyE]):=match x with
 | (v0,v1,v2,()) =>
  bif !(ltI (v0.length:Int) 0) then bif !(ltI (v0.length:Int) (v0.length:Int)) then bif !(ltI 1048576 (v0.length:Int)) then aC (qV (v0,v1,v2,(List.replicate ((v0.length:Int).toNat) (0:Ty.den TyE)),(v0.length:Int),0,())) λz1 =>
  some (z1.1,()) else none else none else none
abbrev aJS:Ent:=⟨42,_,_,rI⟩
theorem aFN:Ent.OK Tryz.prog aJS:=oU (RU oW) func42 3 (lp:=qV) rfl (by kernel_rfl) (by rintro⟨v0,v1,v2,v7,v13,v14,⟨⟩⟩; kernel_rfl) (by rintro⟨v0,v1,v2,⟨⟩⟩; kernel_rfl)
abbrev lJ:List (Nat×Kd):=[(0,.list TyE),(3,.int .i64)]
abbrev qY:List (Ex×List (Nat×Kd)):=[(.ret,[(2,.bool)]),(.exit 0,[])]
def gH(x:Shape.den lJ):Option (Shape.den lJ⊕fR qY):=match x with
 | (v0,v3,()) =>
  bif ltI v3 (v0.length:Int) then
   bif aF v3 v0.length then bif !(eqI (v0.getD v3.toNat 0) 0) then
    some (.inr (.inl (false,())))
   else some (.inl (v0,(aB .i64 (v3+1)),())) else none
  else some (.inr (.inr ((()))))
def pT(x:Shape.den lJ):Option (fR qY):=aO gH (2^64) x
def n8(x:aL [.list TyE]):Option (aL [.bool]):=match x with
 | (v0,()) =>
  aC (pT (v0,0,())) λz1 =>
  iB z1 (λa2=>some (a2.1,())) λb3 =>
  some (true,())
abbrev aO5:Ent:=⟨34,_,_,n8⟩
theorem aLT:Ent.OK Tryz.prog aO5:=oU (RU oW) func34 2 (lp:=pT) rfl (by kernel_rfl) (by rintro⟨v0,v3,⟨⟩⟩; kernel_rfl) (by rintro⟨v0,⟨⟩⟩; kernel_rfl)
abbrev lN:List (Nat×Kd):=[(0,.list TyE),(1,.list TyE),(5,.int .i64)]
abbrev qW:List (Ex×List (Nat×Kd)):=[(.ret,[(4,.bool)]),(.exit 0,[])]
def gI(x:Shape.den lN):Option (Shape.den lN⊕fR qW):=match x with
 | (v0,v1,v5,()) =>
  bif ltI v5 (v0.length:Int) then
   bif aF v5 v0.length then bif aF v5 v1.length then bif !(eqI (v0.getD v5.toNat 0) (v1.getD v5.toNat 0)) then
    some (.inr (.inl (false,())))
   else some (.inl (v0,v1,(aB .i64 (v5+1)),())) else none else none
  else some (.inr (.inr ((()))))
def pG(x:Shape.den lN):Option (fR qW):=aO gI (2^64) x
def o6(x:aL [.list TyE,.list TyE]):Option (aL [.bool]):=match x with
 | (v0,v1,()) =>
  bif !(eqI (v0.length:Int) (v1.length:Int)) then
   some (false,())
  else aC (pG (v0,v1,0,())) λz1 =>
  iB z1 (λa2=>some (a2.1,())) λb3 =>
  some (true,())
abbrev aOX:Ent:=⟨33,_,_,o6⟩
theorem aLP:Ent.OK Tryz.prog aOX:=oU (RU oW) func33 4 (lp:=pG) rfl (by kernel_rfl) (by rintro⟨v0,v1,v5,⟨⟩⟩; kernel_rfl) (by rintro⟨v0,v1,⟨⟩⟩; kernel_rfl)
abbrev kY:List (Nat×Kd):=[(0,.list TyE),(1,.list TyE),(5,.own 3 TyE),(6,.int .i64)]
abbrev qS:List (Ex×List (Nat×Kd)):=[(.exit 0,[(5,.own 3 TyE)])]
def fT(x:Shape.den kY):Option (Shape.den kY⊕fR qS):=match x with
 | (v0,v1,v5,v6,()) =>
  bif ltI v6 (v0.length:Int) then
   bif aF v6 v0.length then bif aF v6 v1.length then bif aF v6 v5.length then bif Nat.blt v6.toNat v5.length then some (.inl (v0,v1,(v5.set v6.toNat (aB .i64 ((v0.getD v6.toNat 0)-(v1.getD v6.toNat 0)))),(aB .i64 (v6+1)),())) else none else none else none else none
  else some (.inr ((v5,())))
def nX(x:Shape.den kY):Option (fR qS):=aO fT (2^64) x
def nK(x:aL [.list TyE,.list TyE]):Option (aL [.list TyE]):=match x with
 | (v0,v1,()) =>
  bif !(ltI (v0.length:Int) 0) then bif !(ltI (v0.length:Int) (v0.length:Int)) then bif !(ltI 1048576 (v0.length:Int)) then aC (nX (v0,v1,(List.replicate ((v0.length:Int).toNat) (0:Ty.den TyE)),0,())) λz1 =>
  some (z1.1,()) else none else none else none
abbrev aNQ:Ent:=⟨35,_,_,nK⟩
theorem aKE:Ent.OK Tryz.prog aNQ:=oU (RU oW) func35 3 (lp:=nX) rfl (by kernel_rfl) (by rintro⟨v0,v1,v5,v6,⟨⟩⟩; kernel_rfl) (by rintro⟨v0,v1,⟨⟩⟩; kernel_rfl)
abbrev lK:List (Nat×Kd):=[(0,.list TyD),(1,.list TyD),(5,.int .i64)]
abbrev qT:List (Ex×List (Nat×Kd)):=[(.ret,[(4,.bool)]),(.exit 0,[])]
def gE(x:Shape.den lK):Option (Shape.den lK⊕fR qT):=match x with
 | (v0,v1,v5,()) =>
  bif ltI v5 (v0.length:Int) then
   bif aF v5 v0.length then bif aF v5 v1.length then aC (o6 ((v0.getD v5.toNat []),(v1.getD v5.toNat []),())) λy2 =>
   bif y2.1 then
    some (.inl (v0,v1,(aB .i64 (v5+1)),()))
   else some (.inr (.inl (false,()))) else none else none
  else some (.inr (.inr ((()))))
def pL(x:Shape.den lK):Option (fR qT):=aO gE (2^64) x
def nZ(x:aL [.list TyD,.list TyD]):Option (aL [.bool]):=match x with
 | (v0,v1,()) =>
  bif !(eqI (v0.length:Int) (v1.length:Int)) then
   some (false,())
  else aC (pL (v0,v1,0,())) λz3 =>
  iB z3 (λa4=>some (a4.1,())) λb5 =>
  some (true,())
abbrev aOK:Ent:=⟨13,_,_,nZ⟩
theorem aCO:Ent.OK Tryz.prog aOK:=oU (RU (oV aLP oW)) func13 4 (lp:=pL) rfl (by kernel_rfl) (by rintro⟨v0,v1,v5,⟨⟩⟩; kernel_rfl) (by rintro⟨v0,v1,⟨⟩⟩; kernel_rfl)
abbrev YU:List (Nat×Kd):=[(0,.list TyC),(1,.list TyC),(5,.int .i64)]
abbrev aCL:List (Ex×List (Nat×Kd)):=[(.ret,[(4,.bool)]),(.exit 0,[])]
def aJC(x:Shape.den YU):Option (Shape.den YU⊕fR aCL):=match x with
 | (v0,v1,v5,()) =>
  bif ltI v5 (v0.length:Int) then
   bif aF v5 v0.length then bif aF v5 v1.length then aC (nZ ((v0.getD v5.toNat []),(v1.getD v5.toNat []),())) λy2 =>
   bif y2.1 then
    some (.inl (v0,v1,(aB .i64 (v5+1)),()))
   else some (.inr (.inl (false,()))) else none else none
  else some (.inr (.inr ((()))))
def aA9(x:Shape.den YU):Option (fR aCL):=aO aJC (2^64) x
def X6(x:aL [.list TyC,.list TyC]):Option (aL [.bool]):=match x with
 | (v0,v1,()) =>
  bif !(eqI (v0.length:Int) (v1.length:Int)) then
   some (false,())
  else aC (aA9 (v0,v1,0,())) λz3 =>
  iB z3 (λa4=>some (a4.1,())) λb5 =>
  some (true,())
abbrev aG2:Ent:=⟨25,_,_,X6⟩
theorem aLL:Ent.OK Tryz.prog aG2:=oU (RU (oV aCO oW)) func25 4 (lp:=aA9) rfl (by kernel_rfl) (by rintro⟨v0,v1,v5,⟨⟩⟩; kernel_rfl) (by rintro⟨v0,v1,⟨⟩⟩; kernel_rfl)
abbrev mP:List (Nat×Kd):=[(0,.list TyD),(3,.int .i64)]
abbrev rX:List (Ex×List (Nat×Kd)):=[(.ret,[(2,.bool)]),(.exit 0,[(0,.list TyD)])]
def gX(x:Shape.den mP):Option (Shape.den mP⊕fR rX):=match x with
 | (v0,v3,()) =>
  bif ltI v3 (v0.length:Int) then
   bif aF v3 v0.length then bif ltI 14 ((v0.getD v3.toNat []).length:Int) then
    some (.inr (.inl (false,())))
   else some (.inl (v0,(aB .i64 (v3+1)),())) else none
  else some (.inr (.inr ((v0,()))))
def qR(x:Shape.den mP):Option (fR rX):=aO gX (2^64) x
def qC(x:aL [.list TyD]):Option (aL [.bool]):=match x with
 | (v0,()) =>
  aC (qR (v0,0,())) λz1 =>
  iB z1 (λa2=>some (a2.1,())) λb3 =>
  some (!(ltI 40 (b3.1.length:Int)),())
abbrev aP7:Ent:=⟨8,_,_,qC⟩
theorem aMP:Ent.OK Tryz.prog aP7:=oU (RU oW) func8 2 (lp:=qR) rfl (by kernel_rfl) (by rintro⟨v0,v3,⟨⟩⟩; kernel_rfl) (by rintro⟨v0,⟨⟩⟩; kernel_rfl)
abbrev kX:List (Nat×Kd):=[(0,.int .i64),(1,.list TyD),(5,.int .i64)]
abbrev p7:List (Ex×List (Nat×Kd)):=[(.ret,[(4,.int .i64)]),(.exit 0,[])]
def fS(x:Shape.den kX):Option (Shape.den kX⊕fR p7):=match x with
 | (v0,v1,v5,()) =>
  bif ltI v5 (v1.length:Int) then
   bif aF v5 v1.length then aC (mI ((v1.getD v5.toNat []),())) λy2 =>
   bif !(eqI y2.1 0) then
    some (.inr (.inl (y2.1,())))
   else bif aF v5 v1.length then bif !(eqI ((v1.getD v5.toNat []).length:Int) v0) then
    some (.inr (.inl (5,())))
   else some (.inl (v0,v1,(aB .i64 (v5+1)),())) else none else none
  else some (.inr (.inr ((()))))
def nR(x:Shape.den kX):Option (fR p7):=aO fS (2^64) x
def nI(x:aL [.int .i64,.list TyD]):Option (aL [.int .i64]):=match x with
 | (v0,v1,()) =>
  bif ltI v0 0 then
   some (3,())
  else bif ltI 12 v0 then
   some (3,())
  else aC (nR (v0,v1,0,())) λz3 =>
  iB z3 (λa4=>some (a4.1,())) λb5 =>
  some (0,())
abbrev aNJ:Ent:=⟨29,_,_,nI⟩
theorem aK0:Ent.OK Tryz.prog aNJ:=oU (RU (oV aIQ oW)) func29 4 (lp:=nR) rfl (by kernel_rfl) (by rintro⟨v0,v1,v5,⟨⟩⟩; kernel_rfl) (by rintro⟨v0,v1,⟨⟩⟩; kernel_rfl)
abbrev kF:List (Nat×Kd):=[(0,.list TyD),(1,.list TyE),(5,.own 39 TyD),(6,.int .i64)]
abbrev pS:List (Ex×List (Nat×Kd)):=[(.ret,[(4,.list TyD)]),(.exit 0,[(1,.list TyE),(5,.own 39 TyD)])]
def dR(x:Shape.den kF):Option (Shape.den kF⊕fR pS):=match x with
 | (v0,v1,v5,v6,()) =>
  bif ltI v6 (v0.length:Int) then
   bif aF v6 v0.length then aC (uW (v1,(v0.getD v6.toNat []),())) λy2 =>
   bif eqI y2.1 0 then
    some (.inr (.inl (v0,())))
   else bif ltI y2.1 0 then
    bif Nat.ble [v1].length 1048576 then bif Nat.ble v5.length 1048576 then bif !(ltI v6 0) then bif Nat.ble v6.toNat v0.length then bif Nat.ble v0.length v0.length then bif Nat.ble ((v0.drop v6.toNat).take (v0.length-v6.toNat)).length 1048576 then bif Nat.ble (v5++[v1]).length 1048576 then some (.inr (.inl (((v5++[v1])++((v0.drop v6.toNat).take (v0.length-v6.toNat))),()))) else none else none else none else none else none else none else none
   else bif aF v6 v0.length then bif Nat.ble [(v0.getD v6.toNat [])].length 1048576 then bif Nat.ble v5.length 1048576 then some (.inl (v0,v1,(v5++[(v0.getD v6.toNat [])]),(aB .i64 (v6+1)),())) else none else none else none else none
  else some (.inr (.inr ((v1,v5,()))))
def nC(x:Shape.den kF):Option (fR pS):=aO dR (2^64) x
def fZ(x:aL [.list TyD,.list TyE]):Option (aL [.list TyD]):=match x with
 | (v0,v1,()) =>
  aC (nC (v0,v1,[],0,())) λz3 =>
  iB z3 (λa4=>some (a4.1,())) λb5 =>
  bif Nat.ble [b5.1].length 1048576 then bif Nat.ble b5.2.1.length 1048576 then some ((b5.2.1++[b5.1]),()) else none else none
abbrev aL4:Ent:=⟨16,_,_,fZ⟩
theorem aJV:Ent.OK Tryz.prog aL4:=oU (RU (oV aE8 oW)) func16 3 (lp:=nC) rfl (by kernel_rfl) (by rintro⟨v0,v1,v5,v6,⟨⟩⟩; kernel_rfl) (by rintro⟨v0,v1,⟨⟩⟩; kernel_rfl)
end Go.PM
namespace Go.PM
open Go Go.RowKit
section
variable {P:Program} {n0:Nat->Prop} {w w':World} {G G':Gd} {μ μ1:Mp} {H H1:Heap}
abbrev a16(e:TypeId)(t:Ty)(l:List t.den):Blk:=⟨aP t l,e,true,false,some ⟨t,l⟩⟩
def aWT(P:Program) (g:FuncId) (e:TypeId) (t:Ty) (args rets:List Kd) (f:List t.den->aL args->Option (aL rets)):Prop :=
 ∀ l x y,f l x=some y->∀ {n0:Nat->Prop} {G:Nat->Prop} {μ:Mp} {w:World} {us:List Value},eA n0 (Gd.of G) μ [some (a16 e t l)] w->VRs w (Gd.of G) μ (.own 0 t.size::MU args x) us ->
  (callFunc g us.toArray).run P w=.ok (.enter g us.toArray) w/\Calls P g us.toArray w λe w'=>∃ v' G',e=.returned v'/\Ext n0 w (Gd.of G) aZ w' (Gd.of G') aZ/\(∀ b,G' b->b<w'.heap.size)/\VR w' (Gd.of G') aZ (RP rets y) v'
def a2S(P:Program)(E:Env)(fn:Func)(keep:Nat)(lt:Nat->Option C8)(c:Code)(e:TypeId)(t:Ty) args rets (l:List t.den)(x:aL args):Option (aL rets) :=
 bif Nat.ble (MU args x).length.succ fn.ntmps then Z9 P E fn.ntmps keep lt c (start keep 0 (.own 0 t.size::MU args x)) [some ⟨aP t l,e,true,false,some ⟨t,l⟩⟩] (aY0 P fn.results.toList rets) else none
theorem a3W {E} (hP:aEU P) (hE:OK P E) {g:Nat} {fn} (hg:P.funcs[g]?=some fn) {c} (hc:fn.body=some c) {keep lt e t args rets f}
  (hd:aN3 args=true) (hl:∀ a∈RY c,∀ s,lt (R0 a)=some s->SF P fn.ntmps a s) (hb:∀ l x,a2S P E fn keep lt c e t args rets l x=f l x):aWT P g e t args rets f:=by
 intro l x y hy n0 G μ w us hW hv;rw[<- hb]at hy;unfold a2S at hy;obtain⟨hlen,hy⟩:=cC hy;obtain⟨⟨ex,F',H'⟩,h1,h2⟩:=TJ hE.callee hP.mixed c _ _ _ _ hl hy;obtain⟨vs,q,hex,hvs,hq,hdq⟩:∃ vs q,(ex=.normal\/ex=.ret)/\U9 P F' H' fn.results.toList=some vs/\aWM H' (HP vs)=some q/\aYA rets q=some y:=by
  unfold aY0 at h1;split at h1
  ·cases h1
  ·rename_i hne;split at h1
   ·rename_i vs hvs;split at h1
    ·rename_i q hq;refine⟨vs,q,?_,hvs,hq,h1⟩;cases ex with
     | normal=>exact .inl rfl
     | ret=>exact .inr rfl
     | exit i=>exact absurd rfl (hne i)
    ·cases h1
   ·cases h1
 obtain⟨hq1,hq2⟩:=YQ hq;have e0:Ext n0 w (Gd.of G) aZ w (Gd.of G) μ :=
  ⟨⟨λb hb=>⟨hb,rfl⟩,λ_ _ h=>(by cases h),λ_ _ h=>(by cases h),λ_ _ h=>h,λ_ _ h=>h,λ_ _ h=>(by cases h)⟩,rfl,rfl,rfl,oM _,λ_ _ _=>rfl,λ_ h=>.inl h⟩
 refine⟨enters hg (hP.names g fn hg) (by rw[hc]; rfl) _ _,calls_of_wp hg hc ?_⟩;have hI:I n0 w (Gd.of G) aZ fn.ntmps (start keep 0 (.own 0 t.size::MU args x)) [some (a16 e t l)] ⟨us.toArray++Array.replicate (fn.ntmps-us.toArray.size) undef,[]⟩ w :=
  ⟨Gd.of G,_,e0,hW,U3 (by simpa using hv) (by have:=oL hlen; simpa using this)⟩
 refine wp_mono (h2 n0 w (Gd.of G) aZ _ w (λr=>⟨rfl,rfl⟩) hI) ?_;rintro e1 a' w' ⟨rfl,G1,μ1,ee,hW',hF'⟩;obtain⟨ws,h3,h4⟩:=UF (P:=P) hW' hF' hvs;have hres:(results fn a'.tmps).run P w'=.ok (if hh:ws.toArray.size=1 then ws.toArray[0] else .tuple ws.toArray) w':=by
  rw[ZT,Array.mapM_eq_mapM_toList];simp only[Sem.run_bind,Sem.run_map,h3,Result.andThen_ok,Sem.run_pure]
 have hval:=F4 (G:=⟨λb=>G1 b\/∃ r k,H'[r]?=some (some k)/\μ1.loc r=some b,G1.row⟩) (G':=Gd.of λb=>G1 b\/∃ r k,H'[r]?=some (some k)/\μ1.loc r=some b) (λb h=>h) _ _ _ hq2
   (CW (G':=⟨λb=>G1 b\/∃ r k,H'[r]?=some (some k)/\μ1.loc r=some b,G1.row⟩) hW' (λ_ _ h=>h) (λb hb=>.inl hb) (λr k b hr _ hb=>.inr ⟨r,k,hr,hb⟩) depth _ q _ hq1 (VJ h4))
 have hext:Ext n0 w (Gd.of G) aZ w' (Gd.of λb=>G1 b\/∃ r k,H'[r]?=some (some k)/\μ1.loc r=some b) aZ:={
  good:=λb hb=>⟨.inl (ee.good b hb).1,(ee.good b hb).2⟩
  map:=λ_ _ h=>h
  len:=λ_ _ h=>h
  sh:=λ_ _ h=>(by cases h)
  room:=ee.room
  row:=λ_ _ h=>h
  os:=ee.os
  tape:=ee.tape
  output:=ee.output
  size:=ee.size
  old:=ee.old
  new:=λb hb=>by
   rcases hb with hb|⟨r,k,hr,hb⟩
   ·exact ee.new b hb
   ·obtain⟨c,_,_,_,g5,g6⟩:=hW'.blk r k b hr hb;cases hf:k.frozen with
    | true=>exact ee.new b (g5 hf)
    | false=>exact .inr (g6 hf).1 }
 have hlt':∀ b,(G1 b\/∃ r k,H'[r]?=some (some k)/\μ1.loc r=some b)->b<w'.heap.size:=by
  rintro b (hb|⟨r,k,hr,hb⟩)
  ·exact hW'.lt b hb
  ·exact hW'.GQ hr hb
 have hpost:a'.defers=[]/\∃ v,(results fn a'.tmps).run P w'=.ok v w'/\(∃ v' G',Ending.returned v=.returned v'/\Ext n0 w (Gd.of G) aZ w' (Gd.of G') aZ/\(∀ b,G' b->b<w'.heap.size)/\VR w' (Gd.of G') aZ (RP rets y) v') :=
  ⟨hF'.defers,_,hres,_,_,rfl,hext,hlt',aM8 hdq hval⟩
 rcases hex with rfl|rfl
 ·exact hpost
 ·exact hpost
def aTO(b n:Option Nat) (o:Nat):Mp:=⟨λr=>if r=0 then b else none,λr=>if r=0 then n else none,λr=>if r=0 then o else 0⟩
theorem a2E {g e t args rets f}(hf:aWT P g e t args rets f){l x y}(hy:f l x=some y)(hpl:t.plain=true)(hW:eA n0 G μ H w){r}(hr:H[r]?=some (some (a16 e t l))){us}(hv:VRs w G μ (.own r t.size::MU args x) us)(hd:iU.noRefs (MU args x)=true)(hnr:iM.noRows (MU args x)=true) :
  vQ P n0 w G μ g us.toArray (RP rets y) (H.set r none):=by
 obtain⟨ht1,ht2⟩:=hW.tags r _ _ hr rfl;have hmine:∀ b,μ.loc r=some b->n0 b/\¬ G b:=λb hb=>by
  obtain⟨_,_,_,_,_,h6⟩:=hW.blk r _ b hr hb;exact h6 rfl
 have hrow:∀ j b,G.row j=some b->μ.loc r≠some b:=λj b hj=>(hW.rows.sep j b hj).2.2.2 r _ hr rfl
 have hm1:(aTO (μ.loc r) (μ.len r) (μ.sh r)).loc 0=μ.loc r:=rfl;have hm2:(aTO (μ.loc r) (μ.len r) (μ.sh r)).len 0=μ.len r:=rfl;have hm3:(aTO (μ.loc r) (μ.len r) (μ.sh r)).sh 0=μ.sh r:=rfl;have at0:∀ (s:Nat) (k1:Blk),([some (a16 e t l)]:Heap)[s]?=some (some k1)->s=0/\k1=a16 e t l:=by
  intro s k1 hs;cases s with
  | zero=>simp only[List.getElem?_cons_zero,oJ]at hs; exact⟨rfl,hs.symm⟩
  | succ s=>simp at hs
 have hW1:eA (λb=>w.heap.size<=b\/μ.loc r=some b) (Gd.of G.ok) (aTO (μ.loc r) (μ.len r) (μ.sh r)) [some (a16 e t l)] w:=by
  refine⟨?_,?_,?_,hW.lt,?_,λb hb=>.inl hb,qO.none _ _ (λ_=>rfl) _ _ (λs k1 hs=>.inl (by rw[(at0 s k1 hs).2]))⟩
  ·intro s k1 b hs hb;obtain⟨rfl,rfl⟩:=at0 s k1 hs;rw[hm1]at hb;obtain⟨cc,a1,a2,a3,_,a5⟩:=hW.blk r _ b hr hb;rw[hm3];exact⟨cc,a1,rP (G:=G) (G':=Gd.of G.ok) (λb h=>h) _ _ _ _ (uZ t hpl l) (EA (nN _ _) a2),a3,(λh=>(by cases h)),(λ_=>⟨.inr hb,(hmine b hb).2⟩)⟩
  ·intro s k1 gg hs hg;obtain⟨rfl,rfl⟩:=at0 s k1 hs;cases hg;exact⟨rfl,by rw[hm2]; exact ht2⟩
  ·intro s1 s2 k1 k2 b e1 e2 _ _ _ _;rw[(at0 s1 k1 e1).1,(at0 s2 k2 e2).1]
  ·intro s hs;have:s≠0:=by rintro rfl; simp at hs
   exact⟨by simp[aTO,this],by simp[aTO,this]⟩
 have hv1:VRs w (Gd.of G.ok) (aTO (μ.loc r) (μ.len r) (μ.sh r)) (.own 0 t.size::MU args x) us:=by
  rw[VRs]at hv; rw[VRs];obtain⟨u,us',rfl,q1,q2⟩:=hv;refine⟨u,us',rfl,?_,VRs.fK (pO (G:=G) (G':=Gd.of G.ok) (λb h=>h) _ _ _ hnr (eF _ _ hd q2))⟩;rw[VR]at q1; rw[VR];rw[hm1,hm2,hm3];exact q1
 obtain⟨c1,c2⟩:=hf l x y hy hW1 hv1;refine⟨c1,c2.mono ?_⟩;rintro e1 w' ⟨v',G1,rfl,ee,hlt,hvv⟩;have e2:Ext n0 w G μ w' ((Gd.of G1).with G) μ:={
  good:=λb hb=>⟨(ee.good b hb).1,(ee.good b hb).2⟩
  map:=λ_ _ h=>h
  len:=λ_ _ h=>h
  sh:=λ_ _ _=>rfl
  room:=ee.room
  row:=λ_ _ h=>h
  os:=ee.os
  tape:=ee.tape
  output:=ee.output
  size:=ee.size
  old:=λb hb hn=>ee.old b hb (by
   rintro(h|h)
   ·exact Nat.not_le.2 hb h
   ·exact hn (hmine b h).1)
  new:=λb hb=>by
   rcases ee.new b hb with h|h|h
   ·exact .inl h
   ·exact .inr (hW.base b h)
   ·exact .inr (hmine b h).1 }
 have hold:∀ b,b<w.heap.size->μ.loc r≠some b->w'.heap[b]?=w.heap[b]?/\(G1 b->G b):=λb hb hne =>
  ⟨ee.old b hb (by rintro(h|h); exact Nat.not_le.2 hb h; exact hne h),λhg=>by
   rcases ee.new b hg with h|h|h
   ·exact h
   ·exact absurd hb (Nat.not_lt.2 h)
   ·exact absurd h hne⟩
 have hk2:eA n0 ((Gd.of G1).with G) μ (H.set r none) w':=by
  refine(J8 hW r).keep e2 ⟨λ_=>rfl,λj b hj=>hold b (hW.rows.sep j b hj).1 (hrow j b hj)⟩ ?_ hlt;intro s k1 b hs hb;obtain⟨hs,hsr⟩:=sU hs;refine hold b (hW.GQ hs hb) λhrb=>?_
  cases hf:k1.frozen with
  | false=>exact hsr (hW.inj s r k1 _ b hs hr hf rfl hb hrb)
  | true =>
   obtain⟨_,_,_,_,h5,_⟩:=hW.blk s k1 b hs hb;exact(hmine b hrb).2 (h5 hf)
 exact⟨v',(Gd.of G1).with G,μ,rfl,e2,hk2,(VR.mono (I2 (g:=G1) (G:=(Gd.of G1).with G) (λb h=>h) (μ:=aZ)) _ _ hvv).fK⟩
def a0O(e:TypeId) (t:Ty) (args rets:List Kd) (f:List t.den->aL args->Option (aL rets)) (qs:List PV) (H:Heap):Option Q7:=match qs with
 | .own r sz::ps=>match sD e t (.own r sz) H r with
  | some l=>match aUV args ps with
   | some x=>bif iU.noRefs ps&&iM.noRows ps&&iU.noRefs (MU args x)&&iM.noRows (MU args x)&&t.plain then some ⟨aL rets,f l x,λy=>(RP rets y,H.set r none)⟩ else none
   | none=>none
  | none=>none
 | _=>none
theorem a2I {g e t args rets f}(hf:aWT P g e t args rets f):UA P (g,a0O e t args rets f):=by
 intro qs H rh h y hy n0 G μ w vs hW hv;change a0O e t args rets f qs H=some rh at h;unfold a0O at h;split at h
 ·rename_i r sz ps;split at h
  ·rename_i l hl;split at h
   ·rename_i x hx;obtain⟨hb,h⟩:=aC3 h;simp only[oJ]at h;subst h;simp only[oA]at hb;obtain⟨⟨⟨⟨b1,b2⟩,b3⟩,b4⟩,b5⟩:=hb;obtain⟨h1,h2⟩:=jT hW hl;cases h1;obtain⟨u,us,rfl,q1,q2⟩:=hv;have q3:VRs w G μ (MU args x) us:=(aB7 args hx (eF _ _ b1 q2)).fK;exact a2E hf hy b5 hW h2 (by rw[VRs]; grind) b3 b4
   ·cases h
  ·cases h
 ·cases h
end
open Go Go.RowKit Go.Proofs Tryz
set_option maxHeartbeats 4000000
abbrev R4:List (Nat×Kd):=[(0,.list TyD),(1,.list TyE),(2,.fn 36),(8,.int .i64),(9,.int .i64),(10,.int .i64)]
abbrev SV:List (Ex×List (Nat×Kd)):=[(.exit 0,[(0,.list TyD),(1,.list TyE),(2,.fn 36),(8,.int .i64),(9,.int .i64)])]
def T8(x:Shape.den R4):Option (Shape.den R4⊕fR SV):=match x with
 | (v0,v1,v2,v8,v9,v10,()) =>
  bif ltI v9 v10 then
   bif aF (IntKind.wrap .i64 (Int.fdiv (IntKind.wrap .u64 (aB .i64 (v9+v10))) (2^(min 1 (IntKind.bits .u64))))) v0.length then aC (uW ((v0.getD ((IntKind.wrap .i64 (Int.fdiv (IntKind.wrap .u64 (aB .i64 (v9+v10))) (2^(min 1 (IntKind.bits .u64))))).toNat) []),v1,())) λy2 =>
   bif ltI y2.1 0 then
    some (.inl (v0,v1,(),v8,(aB .i64 ((IntKind.wrap .i64 (Int.fdiv (IntKind.wrap .u64 (aB .i64 (v9+v10))) (2^(min 1 (IntKind.bits .u64)))))+1)),v10,()))
   else some (.inl (v0,v1,(),v8,v9,(IntKind.wrap .i64 (Int.fdiv (IntKind.wrap .u64 (aB .i64 (v9+v10))) (2^(min 1 (IntKind.bits .u64))))),())) else none
  else some (.inr ((v0,v1,(),v8,v9,())))
def SQ(x:Shape.den R4):Option (fR SV):=aO T8 (2^64) x
def S0(x:aL [.list TyD,.list TyE,.fn 36]):Option (aL [.int .i64,.bool]):=match x with
 | (v0,v1,v2,()) =>
  aC (SQ (v0,v1,(),(v0.length:Int),0,(v0.length:Int),())) λz3 =>
  bif ltI z3.2.2.2.2.1 z3.2.2.2.1 then
   bif aF z3.2.2.2.2.1 z3.1.length then aC (uW ((z3.1.getD z3.2.2.2.2.1.toNat []),z3.2.1,())) λy4 =>
   some (z3.2.2.2.2.1,eqI y4.1 0,()) else none
  else some (z3.2.2.2.2.1,false,())
abbrev U8:Ent:=⟨80,_,_,S0⟩
theorem UR:Ent.OK Tryz.prog U8:=oU (RU (oV aE8 oW)) func80 3 (lp:=SQ) rfl (by kernel_rfl) (by rintro⟨v0,v1,v2,v8,v9,v10,⟨⟩⟩; kernel_rfl) (by rintro⟨v0,v1,v2,⟨⟩⟩; kernel_rfl)
def YJ(x:aL [.list TyE,.ptr TyC,.ptr TyD]):Option (aL [.bool]):=match x with
 | (v0,v1,v2,()) =>
  aC (rI (v2,v0,(-1),())) λy1 =>
  aC (S0 (v1,y1.1,(),())) λy2 =>
  bif y2.2.1 then
   some (false,())
  else some (true,())
abbrev aFA:Ent:=⟨79,_,_,YJ⟩
theorem aCK:Ent.OK Tryz.prog aFA:=oI (RU (oV aFN (oV UR oW))) func79 (by kernel_rfl) (by rintro⟨v0,v1,v2,⟨⟩⟩; kernel_rfl)
abbrev SK:List (Nat×Kd):=[(0,.list TyD),(1,.clo 79 [TyC,TyD]),(7,.int .i64),(8,.int .i64)]
abbrev TI:List (Ex×List (Nat×Kd)):=[(.ret,[(4,.int .i64)]),(.exit 0,[])]
def V4(x:Shape.den SK):Option (Shape.den SK⊕fR TI):=match x with
 | (v0,v1,v7,v8,()) =>
  bif ltI v8 v7 then
   bif aF v8 v0.length then aC (YJ ((v0.getD v8.toNat []),v1.1,v1.2.1,())) λy2 =>
   bif y2.1 then
    some (.inr (.inl (v8,())))
   else some (.inl (v0,(v1.1,v1.2.1,()),v7,(aB .i64 (v8+1)),())) else none
  else some (.inr (.inr ((()))))
def TC(x:Shape.den SK):Option (fR TI):=aO V4 (2^64) x
def TN(x:aL [.list TyD,.clo 79 [TyC,TyD]]):Option (aL [.int .i64]):=match x with
 | (v0,v1,()) =>
  aC (TC (v0,(v1.1,v1.2.1,()),(v0.length:Int),0,())) λz3 =>
  iB z3 (λa4=>some (a4.1,())) λb5 =>
  some ((-1),())
abbrev XX:Ent:=⟨92,_,_,TN⟩
theorem WZ:Ent.OK Tryz.prog XX:=oU (RU (oV aCK oW)) func92 2 (lp:=TC) rfl (by kernel_rfl) (by rintro⟨v0,v1,v7,v8,⟨⟩⟩; kernel_rfl) (by rintro⟨v0,v1,⟨⟩⟩; kernel_rfl)
def TG(x:aL [.list TyD,.clo 79 [TyC,TyD]]):Option (aL [.bool]):=match x with
 | (v0,v1,()) =>
  aC (TN (v0,(v1.1,v1.2.1,()),())) λy1 =>
  some (!(ltI y1.1 0),())
abbrev W6:Ent:=⟨58,_,_,TG⟩
theorem V0:Ent.OK Tryz.prog W6:=oI (RU (oV WZ oW)) func58 (by kernel_rfl) (by rintro⟨v0,v1,⟨⟩⟩; kernel_rfl)
def VK(x:aL [.list TyD,.list TyD,.list TyE]):Option (aL [.bool]):=match x with
 | (v0,v1,v2,()) =>
  aC (TG (v1,(v0,v2,()),())) λy1 =>
  bif y1.1 then
   some (false,())
  else some (true,())
abbrev aJ0:Ent:=⟨46,_,_,VK⟩
theorem aFP:Ent.OK Tryz.prog aJ0:=oI (RU (oV V0 oW)) func46 (by kernel_rfl) (by rintro⟨v0,v1,v2,⟨⟩⟩; kernel_rfl)
abbrev cU:List (Nat×Kd):=[(0,.own 39 TyD),(1,.fn 41),(5,.int .i64),(6,.win 0 1),(7,.int .i64)]
abbrev eH:List (Ex×List (Nat×Kd)):=[(.exit 2,[(0,.own 39 TyD),(5,.int .i64)])]
def bQ(x:Shape.den cU):Option (Shape.den cU⊕fR eH):=match x with
 | (v0,v1,v5,v6,v7,()) =>
  bif ltI v7 ((v6.2:Nat):Int) then
   bif aF v7 v6.2 then bif Nat.blt (v6.1+v7.toNat) v0.length then bif aF (aB .i64 (v7-1)) v6.2 then bif Nat.blt (v6.1+(aB .i64 (v7-1)).toNat) v0.length then aC (rD ((v0.getD (v6.1+v7.toNat) []),(v0.getD (v6.1+(aB .i64 (v7-1)).toNat) []),())) λy3 =>
   bif y3.1 then
    some (.inl (v0,(),v5,v6,(aB .i64 (v7+1)),()))
   else bif aF v7 v6.2 then bif Nat.blt (v6.1+v7.toNat) v0.length then bif aF v5 v0.length then bif Nat.blt v5.toNat v0.length then some (.inl ((v0.set v5.toNat (v0.getD (v6.1+v7.toNat) [])),(),(aB .i64 (v5+1)),v6,(aB .i64 (v7+1)),())) else none else none else none else none else none else none else none else none
  else some (.inr ((v0,v5,())))
def cJ(x:Shape.den cU):Option (fR eH):=aO bQ (2^64) x
abbrev cS:List (Nat×Kd):=[(0,.own 39 TyD),(1,.fn 41),(5,.int .i64)]
abbrev eI:List (Ex×List (Nat×Kd)):=[(.ret,[(0,.own 39 TyD),(4,.win 0 1)]),(.exit 0,[(0,.own 39 TyD)])]
def aW(x:Shape.den cS):Option (Shape.den cS⊕fR eI):=match x with
 | (v0,v1,v5,()) =>
  bif ltI v5 (v0.length:Int) then
   bif aF v5 v0.length then bif Nat.blt v5.toNat v0.length then bif aF (aB .i64 (v5-1)) v0.length then bif Nat.blt ((aB .i64 (v5-1)).toNat) v0.length then aC (rD ((v0.getD v5.toNat []),(v0.getD ((aB .i64 (v5-1)).toNat) []),())) λy5 =>
   bif y5.1 then
    bif !(ltI v5 0) then bif Nat.ble v5.toNat v0.length then bif Nat.ble v0.length v0.length then bif Nat.blt v5.toNat v0.length then aC (cJ (v0,(),v5,(v5.toNat,(v0.length-v5.toNat)),1,())) λz6 =>
    bif !(ltI z6.2.1 0) then bif Nat.ble z6.2.1.toNat z6.1.length then bif Nat.ble z6.1.length z6.1.length then bif Nat.blt z6.2.1.toNat z6.1.length then bif Nat.ble (z6.2.1.toNat+(z6.1.length-z6.2.1.toNat)) z6.1.length then bif !(ltI z6.2.1 0) then bif Nat.ble 0 z6.2.1.toNat then bif Nat.ble z6.2.1.toNat ((clr z6.1 z6.2.1.toNat (z6.1.length-z6.2.1.toNat) []).length) then bif Nat.blt 0 ((clr z6.1 z6.2.1.toNat (z6.1.length-z6.2.1.toNat) []).length) then some (.inr (.inl ((clr z6.1 z6.2.1.toNat (z6.1.length-z6.2.1.toNat) []),(0,(z6.2.1.toNat-0)),()))) else none else none else none else none else none else none else none else none else none else none else none else none else none
   else some (.inl (v0,(),(aB .i64 (v5+1)),())) else none else none else none else none
  else some (.inr (.inr ((v0,()))))
def cI(x:Shape.den cS):Option (fR eI):=aO aW (2^64) x
def dB(v0:List (List Int))(x:aL [.fn 41]):Option (aL [.list TyD]):=match x with
 | (v1,()) =>
  bif ltI (v0.length:Int) 2 then
   some (v0,())
  else aC (cI (v0,(),1,())) λz7 =>
  iB z7 (λa8=>some (((a8.1.drop a8.2.1.1).take a8.2.1.2),())) λb9 =>
  some (b9.1,())
def SA:Code:=R5 f38
abbrev SB:Env:=aCN [aTS]
theorem SR:OK Tryz.prog SB:=RU ⟨aN1,trivial⟩
def R3:Code:=S2 SA 0
def SU:Code:=S2 R3 0
def R7(id:Nat):Option C8:=bif Nat.beq id 9 then some ⟨cU,eH,cJ⟩ else bif Nat.beq id 4 then some ⟨cS,eI,cI⟩ else none
theorem WG:∀ x,S9 Tryz.prog SB 66 (RV f38) R7 SU cU eH x=bQ x:=by
 rintro⟨v0,v1,v5,v6,v7,⟨⟩⟩
 kernel_rfl
theorem WX:SF Tryz.prog 66 SU ⟨cU,eH,cJ⟩:=SO SR.callee RZ.mixed _ (RW (l:=[]) (by kernel_rfl) trivial) WG
theorem WJ:∀ x,S9 Tryz.prog SB 66 (RV f38) R7 R3 cS eI x=aW x:=by
 rintro⟨v0,v1,v5,⟨⟩⟩
 kernel_rfl
theorem XG:RY R3=[SU]:=by kernel_rfl
theorem W0:SF Tryz.prog 66 R3 ⟨cS,eI,cI⟩:=SO SR.callee RZ.mixed _ (RW XG ⟨SM (i:=9) (by kernel_rfl) rfl WX,trivial⟩) WJ
theorem W9:RY SA=[R3]:=by kernel_rfl
theorem XK:∀ l x,a2S Tryz.prog SB f38 (RV f38) R7 SA 39 TyD [.fn 41] [.list TyD] l x=dB l x:=by
 rintro v0 ⟨v1,⟨⟩⟩
 kernel_rfl
theorem X9:aWT Tryz.prog 38 39 TyD [.fn 41] [.list TyD] dB:=a3W RZ SR func38 (c:=SA) (by kernel_rfl) (keep:=RV f38) (lt:=R7) (by rfl) (RW W9 ⟨SM (i:=4) (by kernel_rfl) rfl W0,trivial⟩) XK
abbrev TX:Shr:=(38,a0O 39 TyD [.fn 41] [.list TyD] dB)
theorem XL:UA Tryz.prog TX:=a2I X9
abbrev j4:List (Nat×Kd):=[(0,.list TyD),(3,.list TyD),(4,.int .i64)]
abbrev nS:List (Ex×List (Nat×Kd)):=[(.exit 0,[(3,.list TyD)])]
def fA(x:Shape.den j4):Option (Shape.den j4⊕fR nS):=match x with
 | (v0,v3,v4,()) =>
  bif ltI v4 (v0.length:Int) then
   bif aF v4 v0.length then aC (n8 ((v0.getD v4.toNat []),())) λy5 =>
   bif y5.1 then
    some (.inl (v0,v3,(aB .i64 (v4+1)),()))
   else bif aF v4 v0.length then bif Nat.ble (v0.getD v4.toNat []).length 1048576 then aC (fZ (v3,(v0.getD v4.toNat []),())) λy6 =>
   bif aF v4 v0.length then bif !(ltI ((v0.getD v4.toNat []).length:Int) 0) then bif !(ltI ((v0.getD v4.toNat []).length:Int) ((v0.getD v4.toNat []).length:Int)) then bif !(ltI 1048576 ((v0.getD v4.toNat []).length:Int)) then bif aF v4 v0.length then aC (nK ((List.replicate (((v0.getD v4.toNat []).length:Int).toNat) (0:Ty.den TyE)),(v0.getD v4.toNat []),())) λy7 =>
   aC (fZ (y6.1,y7.1,())) λy8 =>
   some (.inl (v0,y8.1,(aB .i64 (v4+1)),())) else none else none else none else none else none else none else none else none
  else some (.inr ((v3,())))
def mS(x:Shape.den j4):Option (fR nS):=aO fA (2^64) x
def iV(x:aL [.list TyD]):Option (aL [.list TyD]):=match x with
 | (v0,()) =>
  aC (mS (v0,[],0,())) λz9 =>
  some (z9.1,())
abbrev aLQ:Ent:=⟨14,_,_,iV⟩
theorem aA0:Ent.OK Tryz.prog aLQ:=oU (RU (oV aJV (oV aKE (oV aLT oW)))) func14 3 (lp:=mS) rfl (by kernel_rfl) (by rintro⟨v0,v3,v4,⟨⟩⟩; kernel_rfl) (by rintro⟨v0,⟨⟩⟩; kernel_rfl)
def mB(x:aL [.int .i64,.list TyD]):Option (aL [.int .i64]):=match x with
 | (v0,v1,()) =>
  aC (nI (v0,v1,())) λy1 =>
  bif !(eqI y1.1 0) then
   some (y1.1,())
  else aC (iV (v1,())) λy2 =>
  bif ltI 60 (y2.1.length:Int) then
   some (4,())
  else some (0,())
abbrev aL8:Ent:=⟨11,_,_,mB⟩
theorem aJR:Ent.OK Tryz.prog aL8:=oI (RU (oV aK0 (oV aA0 oW))) func11 (by kernel_rfl) (by rintro⟨v0,v1,⟨⟩⟩; kernel_rfl)
end Go.PM
namespace Go.Proofs
open Go.Shelf Tryz
def Tryz.aXA:Go.Shelf.Ren:=⟨fun|6=>66|14=>96|15=>97|20=>123|21=>124|22=>125|23=>126|24=>127|25=>128|26=>129|27=>130|28=>131|29=>132|46=>157|47=>158|48=>159|49=>160|50=>161|57=>178|n=>n,fun|22=>25|24=>39|25=>80|3=>3|39=>137|0=>0|53=>170|55=>172|4=>4|46=>164|45=>163|50=>75|5=>5|9=>9|66=>195|70=>199|76=>221|77=>222|n=>n,fun|n=>n⟩
theorem Tryz.a3Q:Go.Proofs.SlLaysF.n6 Tryz.prog Tryz.aXA:={
 mixed:=by kernel_rfl
 f6:=⟨f66.name,by decide,func66.trans (congrArg some (by kernel_rfl))⟩
 f14:=⟨f96.name,by decide,func96.trans (congrArg some (by kernel_rfl))⟩
 f15:=func97.trans (congrArg some (by kernel_rfl))
 f20:=⟨f123.name,by decide,func123.trans (congrArg some (by kernel_rfl))⟩
 f21:=⟨f124.name,by decide,func124.trans (congrArg some (by kernel_rfl))⟩
 f22:=⟨f125.name,by decide,func125.trans (congrArg some (by kernel_rfl))⟩
 f23:=⟨f126.name,by decide,func126.trans (congrArg some (by kernel_rfl))⟩
 f24:=⟨f127.name,by decide,func127.trans (congrArg some (by kernel_rfl))⟩
 f25:=⟨f128.name,by decide,func128.trans (congrArg some (by kernel_rfl))⟩
 f26:=⟨f129.name,by decide,func129.trans (congrArg some (by kernel_rfl))⟩
 f27:=⟨f130.name,by decide,func130.trans (congrArg some (by kernel_rfl))⟩
 f28:=func131.trans (congrArg some (by kernel_rfl))
 f29:=func132.trans (congrArg some (by kernel_rfl))
 f46:=⟨f157.name,by decide,func157.trans (congrArg some (by kernel_rfl))⟩
 f47:=func158.trans (congrArg some (by kernel_rfl))
 f48:=func159.trans (congrArg some (by kernel_rfl))
 f49:=⟨f160.name,by decide,func160.trans (congrArg some (by kernel_rfl))⟩
 f50:=⟨f161.name,by decide,func161.trans (congrArg some (by kernel_rfl))⟩
 f57:=⟨f178.name,by decide,func178.trans (congrArg some (by kernel_rfl))⟩
 t0:=underlying0
 a0:=isAgg0
 z0:=sizeOf0
 v0:=zeroValue0
 t3:=underlying3
 a3:=isAgg3
 z3:=sizeOf3
 v3:=zeroValue3
 t4:=underlying4
 a4:=isAgg4
 z4:=sizeOf4
 v4:=zeroValue4
 t5:=underlying5
 a5:=isAgg5
 z5:=sizeOf5
 v5:=zeroValue5
 t9:=underlying9
 a9:=isAgg9
 z9:=sizeOf9
 v9:=zeroValue9
 t22:=underlying25
 a22:=isAgg25
 z22:=sizeOf25
 v22:=zeroValue25
 a24:=isAgg39
 z24:=sizeOf39
 t25:=underlying80
 a25:=isAgg80
 z25:=sizeOf80
 v25:=zeroValue80
 t39:=underlying137
 a39:=isAgg137
 z39:=sizeOf137
 v39:=zeroValue137
 t45:=underlying163
 a45:=isAgg163
 z45:=sizeOf163
 v45:=zeroValue163
 t46:=underlying164
 a46:=isAgg164
 z46:=sizeOf164
 v46:=zeroValue164
 t50:=underlying75
 a50:=isAgg75
 z50:=sizeOf75
 v50:=zeroValue75
 t53:=underlying170
 a53:=isAgg170
 z53:=sizeOf170
 v53:=zeroValue170
 t55:=underlying172
 a55:=isAgg172
 z55:=sizeOf172
 v55:=zeroValue172
 t66:=underlying195
 a66:=isAgg195
 z66:=sizeOf195
 v66:=zeroValue195
 t70:=underlying199
 a70:=isAgg199
 z70:=sizeOf199
 v70:=zeroValue199
 t76:=underlying221
 a76:=isAgg221
 z76:=sizeOf221
 v76:=zeroValue221
 t77:=underlying222
 a77:=isAgg222
 z77:=sizeOf222
 v77:=zeroValue222 }
open Go.RowKit Go.Lib Go.Sort in
/-- slices.SortFunc: a permutation,sorted by 'cmp(a,b)<0' (the shelf's contract,laid at this instance). -/
theorem Tryz.slices_SortFunc {α:Type} [Inhabited α] (enc:α->Value) (h1:OneCell enc) (cf:α->α->Int) (hO:SWO (ltOf cf)) (g:Nat) (cb:Array Value) (blk off cap:Nat) (d:Array α) (w:World) (eg:∀ args w,(callFunc g args).run Tryz.prog w=.ok (.enter g args) w) (hcmp:CmpLays1 Tryz.prog g cb enc cf blk off d.size w) (hH:Holds enc w blk off d) (hblk:blk<w.heap.size) (hsz:d.size<4611686018427387904) :
  Calls Tryz.prog 66 #[.slice (some ⟨blk,off,none⟩) d.size cap,.func (.func g) #[] cb] w λe w' =>
   e=.returned (.tuple #[])/\∃ d' n os,PermIn 0 d.size d d'/\SortedIn (ltOf cf) 0 d.size d'/\w'=sortWorld enc w blk off n d' os:=Any.slices_SortFunc Tryz.a3Q enc h1 cf hO g cb blk off cap d w eg hcmp hH hblk hsz
end Go.Proofs
namespace Go.PM
open Go Go.RowKit
def ins(x:Int):List Int->List Int
 | []=>[x]
 | y::l=>bif ltI y x then y::ins x l else x::y::l
theorem a2Z x:∀ l,List.Perm (ins x l) (x::l)
 | []=>.refl _
 | y::l=>by
  unfold ins;cases ltI y x with
  | true=>exact((a2Z x l).cons y).trans (.swap x y l)
  | false=>rfl
section
variable {P:Program} {n0:Nat->Prop} {w:World} {G:Gd} {μ:Mp} {H:Heap}
theorem a0R:∀ (l:List Int),aP (.int .i64) l=l.map λn=>PV.lit (.int .i64 n)
 | []=>rfl
 | x::l=>by rw[vO,a0R l]; rfl
theorem a1T(hW:eA n0 G μ H w) os:Ext n0 w G μ (Sort.grow w os) G μ/\eA n0 G μ H (Sort.grow w os):=by
 have hg:∀ b,b<w.heap.size->(Sort.grow w os).heap[b]?=w.heap[b]?:=λb hb=>by
  show (w.heap++os)[b]?=_;grind
 have e:Ext n0 w G μ (Sort.grow w os) G μ:={
  good:=λb hb=>⟨hb,hg b (hW.lt b hb)⟩
  map:=λ_ _ h=>h
  len:=λ_ _ h=>h
  room:=λb n hb=>by
   obtain⟨c,t,fr,h1,h2⟩:=hb;exact⟨c,t,fr,by grind,h2⟩
  row:=λ_ _ h=>h
  os:=rfl
  tape:=rfl
  output:=rfl
  size:=by simp
  old:=λb hb _=>hg b hb
  new:=λb hb=>.inl hb }
 refine⟨e,hW.keep e ⟨λ_=>rfl,λj b hj=>⟨hg b (hW.rows.sep j b hj).1,id⟩⟩ (λr k b hr hb=>⟨hg b (hW.GQ hr hb),id⟩) λb hb=>Nat.lt_of_lt_of_le (hW.lt b hb) e.size⟩
end
def H5 {α:Type} (lt:α->α->Bool) (x:α):List α->List α
 | []=>[x]
 | y::l=>bif lt y x then y::H5 lt x l else x::y::l
def AU {α}(lt:α->α->Bool):List α->List α
 | []=>[]
 | x::l=>H5 lt x (AU lt l)
structure LO {α:Type} (D:α->Bool) (lt:α->α->Bool):Prop where
 irrefl:∀ x,D x=true->lt x x=false
 trans:∀ x y z,D x=true->D y=true->D z=true->lt x y=true->lt y z=true->lt x z=true
 ntrans:∀ x y z,D x=true->D y=true->D z=true->lt x y=false->lt y z=false->lt x z=false
 anti:∀ x y,D x=true->D y=true->lt x y=false->lt y x=false->x=y
section
variable {α:Type} {D:α->Bool} {lt:α->α->Bool}
theorem yX x:∀ l,List.Perm (H5 lt x l) (x::l)
 | []=>.refl _
 | y::l=>by
  unfold H5;cases lt y x with
  | true=>exact((yX x l).cons y).trans (.swap x y l)
  | false=>rfl
theorem uB:∀ l ,List.Perm (AU lt l) l
 | []=>.refl _
 | x::l=>(yX x (AU lt l)).trans ((uB l).cons x)
theorem AF(h:LO D lt) x (hx:D x=true):∀ l ,(∀ y∈l,D y=true)->l.Pairwise (λa b=>lt b a=false)->(H5 lt x l).Pairwise (λa b=>lt b a=false)
 | [],_,_=>by simp[H5]
 | y::l,hd,hs=>by
  have⟨h1,h2⟩:=List.pairwise_cons.1 hs;have hy:=hd y (by simp);unfold H5;cases hb:lt y x with
  | true =>
   refine List.pairwise_cons.2 ⟨λz hz=>?_,AF h x hx l (λz hz=>hd z (by grind)) h2⟩;rcases List.mem_cons.1 ((yX x l).mem_iff.1 hz)with rfl|hz
   ·cases hc:lt z y with
    | false=>rfl
    | true=>have:=h.trans z y z hx hy hx hc hb; rw[h.irrefl z hx]at this; grind
   grind
  | false =>
   refine List.pairwise_cons.2 ⟨λz hz=>?_,hs⟩;rcases List.mem_cons.1 hz with rfl|hz
   ·omega
   ·exact h.ntrans z y x (hd z (by grind)) hy hx (h1 z hz) hb
theorem zO(h:LO D lt):∀ l ,(∀ y∈l,D y=true)->(AU lt l).Pairwise (λa b=>lt b a=false)
 | [],_=>.nil
 | x::l,hd=>AF h x (hd x (by simp)) _ (λy hy=>hd y (by simp[(uB l).mem_iff.1 hy])) (zO h l λy hy=>hd y (by grind))
theorem aXZ(h:LO D lt){l l'}(hd:∀ y∈l,D y=true)(hp:List.Perm l' l)(hs:l'.Pairwise (λa b=>lt b a=false)):AU lt l=l':=by
 refine List.Perm.eq_of_pairwise (λa b ha hb h1 h2=>?_) (zO h l hd) hs ((uB l).trans hp.symm);exact h.anti a b (hd a ((uB l).mem_iff.1 ha)) (hd b (hp.mem_iff.1 hb)) h2 h1
theorem GG l:(AU lt l).length=l.length:=(uB l).length_eq
end
section
variable {P:Program} {n0:Nat->Prop} {w w':World} {G G':Gd} {μ μ':Mp} {H:Heap}
structure El (t:Ty) where
 l:List t.den
 ao:Option Addr
 cap:Nat
def El.v {t}(e:El t):Value:=.slice e.ao e.l.length e.cap
def aK8 {t}(w:World)(G:Gd)(D:List t.den->Bool)(e:El t):Prop:=D e.l=true/\VR w G aZ (uE t e.l none) e.v
theorem a73 {t l v}(h:VR w G aZ (uE t l none) v):∃ e:El t,e.l=l/\e.v=v:=by
 unfold uE at h;obtain⟨h,-⟩:=h;obtain⟨ao,c,rfl,-⟩:=h;exact⟨⟨l,ao,c⟩,rfl,rfl⟩
theorem aS9 {t}:∀ (l:List (List t.den)),aP (.list t) l=l.map λx=>uE t x none
 | []=>rfl
 | x::l=>by rw[vO,aS9 l]; rfl
def HO {t:Ty}(D:List t.den->Bool)(lt:List t.den->List t.den->Bool)(l:List (List t.den)):Option (List (List t.den)):=bif Nat.blt 0 l.length&&Nat.blt l.length 4611686018427387904&&l.all D then some (AU lt l) else none
def aRC(t:Ty)(ck:Kd)(D:List t.den->Bool)(lt:List t.den->List t.den->Bool)(args:List PV)(H:Heap):Option Q7:=match args with
 | [.own r sz,p]=>match fO H r with
  | some k=>match k.tag with
   | some g=>match pI g.t (.list t) g.l with
    | some l=>match PL ck p [] 0 with
     | some _=>bif Nat.beq sz 1&&!k.frozen then some ⟨List (List t.den),HO D lt l,λl'=>(.tuple [],H.set r (some ⟨aP (.list t) l',k.ty,k.grown,false,some ⟨.list t,l'⟩⟩))⟩ else none
     | none=>none
    | none=>none
   | none=>none
  | none=>none
 | _=>none
def a3L(P:Program) (g2:FuncId) (t:Ty) (D:List t.den->Bool) (cf:List t.den->List t.den->Int):Prop :=
 ∀ (w:World) (G:Nat->Prop) (x y:List t.den) (vx vy:Value),Lt w G->D x=true->D y=true->VR w (Gd.of G) aZ (uE t x none) vx->VR w (Gd.of G) aZ (uE t y none) vy ->
  Calls P g2 #[vx,vy] w λe w'=>e=.returned (.int .i64 (cf x y))/\∃ q os',w'=Sort.grow (w.drewN q) os'
theorem a2D {g g2 t} (hpl:t.plain=true) {ck} (hck:ck=.fn g2\/ck=.clo g2 []) {D cf} 
  (hLO:LO D λx y=>decide (cf x y<0)) (hf:a3L P g2 t D cf)
  (henter:∀ xs w,(callFunc g xs).run P w=.ok (.enter g xs) w) (eg:∀ xs w,(callFunc g2 xs).run P w=.ok (.enter g2 xs) w)
  (hS:∀ {α} [Inhabited α] enc (h1:Proofs.OneCell enc) cf (hO:Sort.SWO (Proofs.ltOf cf)) cb blk off cap (d:Array α) w (hcmp:Proofs.CmpLays1 P g2 cb enc cf blk off d.size w) (hH:Sort.Holds enc w blk off d) (hblk:blk<w.heap.size) (hsz:d.size<4611686018427387904),
   Calls P g #[.slice (some ⟨blk,off,none⟩) d.size cap,.func (.func g2) #[] cb] w λe w'=>e=.returned (.tuple #[])/\∃ d' n os,Sort.PermIn 0 d.size d d'/\Sort.SortedIn (Proofs.ltOf cf) 0 d.size d'/\w'=Proofs.sortWorld enc w blk off n d' os) :
  UA P (g,aRC t ck D (λx y=>decide (cf x y<0))):=by
 intro args H rh h y hy n0 G μ w us hW hv;change aRC t ck D (λx y=>decide (cf x y<0)) args H=some rh at h;show vQ P n0 w G μ g us.toArray (rh.out y).1 (rh.out y).2;unfold aRC at h;split at h
 ·rename_i r sz p;split at h
  ·rename_i k hk;split at h
   ·rename_i gg hg;split at h
    ·rename_i l hl;split at h
     ·rename_i pk hpk;obtain⟨hb,h⟩:=aC3 h;simp only[oA,Bool.not_eq_true']at hb;have hfz:=hb.2;replace hb:=oE hb.1;simp only[oJ]at h;subst h;subst hb;unfold HO at hy;obtain⟨hlen,hy⟩:=cC hy;simp only[oJ]at hy;subst hy;simp only[oA]at hlen;obtain⟨⟨hl0,hlen⟩,hall⟩:=hlen;have hl0:=SG hl0;have hlen:=SG hlen;obtain⟨gt,gl⟩:=gg;obtain⟨e0,he⟩:=xT hl;dsimp only at e0 he;subst e0;dsimp only at he;subst he;clear hl
      dsimp only at hl0 hlen hall hg ⊢;obtain⟨hcells,hmlen⟩:=hW.tags r k _ (bB hk) hg;dsimp only at hcells hmlen;have hD:∀ x∈gl,D x=true:=List.all_eq_true.1 hall;rw[VRs]at hv;obtain⟨v,us1,rfl,h1,h2⟩:=hv;rw[VRs]at h2;obtain⟨pv,us2,rfl,h2,h3⟩:=h2;rw[VRs]at h3;subst h3;have hpv:pv=.func (.func g2) #[] #[]:=by
       rcases hck with rfl|rfl
       ·have:=FJ (g:=g2) (p:=p) hpk;rw[this,VR]at h2;exact h2
       ·have:=DT (g:=g2) (ts:=[]) (p:=p) hpk h2;rw[VR]at this;obtain⟨fs,cs,e1,e2,e3⟩:=this;simp only[LX]at e3;rw[VRs]at e2 e3;rw[e1]
        congr 1
        ·exact Array.ext' (by simpa using e2)
        ·exact Array.ext' (by simpa using e3)
      subst hpv;rw[VR]at h1;obtain⟨n,h3,h4⟩:=h1;rw[hmlen]at h3;cases h3;rcases h4 with ⟨h5,ao,rfl⟩|⟨b,c,h5,rfl,h7,h8,h9s⟩
      ·omega
      refine⟨henter _ _,?_⟩;obtain⟨cc,a1,a2,a3,_,a5⟩:=hW.blk r k b (bB hk) h5;have hnG:=(a5 hfz).2;rw[hcells,aS9,h9s]at a2;rw[h9s];have each:∀ i (hi:i<gl.length),∃ e:El t,aK8 w (Gd.of G.ok) D e/\e.l=gl[i]/\w.cell? ⟨b,i,none⟩=some e.v:=λi hi=>by
       obtain⟨v,b1,b2⟩:=a2.get (i:=i) (p:=uE t gl[i] none) (by simp[hi]);have b2:VR w (Gd.of G.ok) aZ (uE t gl[i] none) v:=F4 (G:=G) (G':=Gd.of G.ok) (λb h=>h) aZ _ v hpl (F5 _ _ rfl b2);obtain⟨e,e1,e2⟩:=a73 b2;rw[Nat.zero_add]at b1;refine⟨e,⟨?_,?_⟩,e1,?_⟩
       ·rw[e1]; exact hD _ (List.getElem_mem hi)
       ·rw[e1,e2]; exact b2
       ·rw[e2]; exact b1
      obtain⟨x0,x0ok,_⟩:=each 0 hl0;have inst:Inhabited {e:El t // aK8 w (Gd.of G.ok) D e}:=⟨⟨x0,x0ok⟩⟩;have each2:∀ i,∃ e:{e:El t // aK8 w (Gd.of G.ok) D e},∀ hi:i<gl.length,e.1.l=gl[i]/\w.cell? ⟨b,i,none⟩=some e.1.v:=λi=>by
       by_cases hi:i<gl.length
       ·obtain⟨e,e1,e2⟩:=each i hi;exact⟨⟨e,e1⟩,λ_=>e2⟩
       ·exact⟨default,λh=>absurd h hi⟩
      obtain⟨f,hfx⟩:=Classical.axiomOfChoice each2;obtain⟨d,hd⟩:∃ d:Array {e:El t // aK8 w (Gd.of G.ok) D e},d=((List.range gl.length).map f).toArray:=⟨_,rfl⟩;have hds:d.size=gl.length:=by rw[hd]; simp
      have hdg:∀ i,i<gl.length->d[i]! =f i:=λi hi=>by
       rw[getElem!_pos d i (by omega)];simp[hd]
      have hcs:gl.length<=cc.size:=by
       rcases oG cc.size gl.length with hlt|hge
       ·have:=(hfx cc.size hlt).2;simp[World.cell?,a1]at this
       ·exact hge
      have hT:∀ (m:Nat) (dk:Array {e:El t // aK8 w (Gd.of G.ok) D e}),EN { w with drawn:=w.drawn+m } (Sort.putRow (λx=>x.1.v) (Sort.ahead w m) b 0 dk) b (Sort.putCells (λx=>x.1.v) 0 dk cc) k.ty:=λm dk=>{
       at_:=by
        show (w.heap.modify b _)[b]?=_;rw[Array.getElem?_modify,if_pos rfl,a1]; rfl
       other:=λx hx=>by
        show (w.heap.modify b _)[x]?=_;rw[Array.getElem?_modify,if_neg (Ne.symm hx)]
       os:=rfl
       tape:=rfl
       output:=rfl
       size:=by show (w.heap.modify b _).size=_; simp
       drawn:=rfl }
      have hps:∀ dk:Array {e:El t // aK8 w (Gd.of G.ok) D e},(Sort.putCells (λx=>x.1.v) 0 dk cc).size=cc.size:=λdk=>by simp[Sort.putCells]
      have e12:∀ (m:Nat) (dk:Array {e:El t // aK8 w (Gd.of G.ok) D e}),Ext n0 w G μ (Sort.putRow (λx=>x.1.v) (Sort.ahead w m) b 0 dk) G μ:=λm dk =>
       (aP6 (n0:=n0) (w:=w) (G:=G) (μ:=μ) (Nat.le_add_right w.drawn m)).trans (X8 (aJE hW (w.drawn+m)) (bB hk) hfz h5 (c:=cc) (by exact a1) (hT m dk) (hps dk))
      have growE:∀ {w1:World} (os:Array Obj),(∀ b,G b->b<w1.heap.size)->Ext n0 w1 G μ (Sort.grow w1 os) G μ:=λ{w1} os hlt=>by
       have hgr:∀ b,b<w1.heap.size->(Sort.grow w1 os).heap[b]?=w1.heap[b]?:=λb hb=>by
        show (w1.heap++os)[b]?=_;rw[Array.getElem?_append_left hb]
       exact {
        good:=λb hb=>⟨hb,hgr b (hlt b hb)⟩
        map:=λ_ _ h=>h
        len:=λ_ _ h=>h
        row:=λ_ _ h=>h
        room:=λb n hb=>by
         obtain⟨c,t,fr,h1,h2⟩:=hb;exact⟨c,t,fr,by rw[hgr b (NZ h1)]; exact h1,h2⟩
        os:=rfl
        tape:=rfl
        output:=rfl
        size:=by show _<=(w1.heap++os).size; simp
        old:=λb hb _=>hgr b hb
        new:=λb hb=>.inl hb }
      have hlt1:∀ (m:Nat) (dk:Array {e:El t // aK8 w (Gd.of G.ok) D e}) b',G b'->b'<(Sort.putRow (λx:{e:El t // aK8 w (Gd.of G.ok) D e}=>x.1.v) (Sort.ahead w m) b 0 dk).heap.size:=λm dk b' hb'=>Nat.lt_of_lt_of_le (hW.lt b' hb') (e12 m dk).size
      have e123:∀ (m:Nat) (dk:Array {e:El t // aK8 w (Gd.of G.ok) D e}) (os:Array Obj),Ext n0 w G μ (Proofs.sortWorld (λx:{e:El t // aK8 w (Gd.of G.ok) D e}=>x.1.v) w b 0 m dk os) G μ:=λm dk os=>(e12 m dk).trans (growE os (hlt1 m dk))
      have hH:Sort.Holds (λx:{e:El t // aK8 w (Gd.of G.ok) D e}=>x.1.v) w b 0 d:=by
       intro j hj;refine⟨?_,by simp[World.frozen?,a1]⟩;rw[Nat.zero_add,hdg j (by omega)];exact(hfx j (by omega)).2
      have hO:Sort.SWO (Proofs.ltOf λx y:{e:El t // aK8 w (Gd.of G.ok) D e}=>cf x.1.l y.1.l) :=
       ⟨λx=>hLO.irrefl _ x.2.1,λx y z=>hLO.trans _ _ _ x.2.1 y.2.1 z.2.1,λx y z=>hLO.ntrans _ _ _ x.2.1 y.2.1 z.2.1⟩
      have hcmp:Proofs.CmpLays1 P g2 #[] (λx:{e:El t // aK8 w (Gd.of G.ok) D e}=>x.1.v) (λx y=>cf x.1.l y.1.l) b 0 d.size w:=by
       intro m os dk _ x y;have eW:=e123 m dk os;have mono0:Mono w (Gd.of G.ok) aZ (Proofs.sortWorld (λx:{e:El t // aK8 w (Gd.of G.ok) D e}=>x.1.v) w b 0 m dk os) (Gd.of G.ok) aZ:=⟨λb hb=>⟨hb,(eW.good b hb).2⟩,λ_ _ h=>h,λ_ _ h=>h,eW.room,λ_ _ h=>h,λ_ _ _=>rfl⟩;have hx:=VR.mono mono0 _ _ x.2.2;have hy:=VR.mono mono0 _ _ y.2.2;have hlt:Lt (Proofs.sortWorld (λx:{e:El t // aK8 w (Gd.of G.ok) D e}=>x.1.v) w b 0 m dk os) G.ok:=hW.lt.step (λb hb=>⟨hb,(eW.good b hb).2⟩) λb' hb'=>Nat.lt_of_lt_of_le (hW.lt b' hb') eW.size
       exact hf _ G.ok x.1.l y.1.l _ _ hlt x.2.1 y.2.1 hx hy
      have hcall:=hS (λx:{e:El t // aK8 w (Gd.of G.ok) D e}=>x.1.v) (λ_=>rfl) (λx y=>cf x.1.l y.1.l) hO #[] b 0 c d w hcmp hH (NZ a1) (by omega);rw[hds]at hcall;refine hcall.mono ?_;rintro e w' ⟨rfl,d',m,os,⟨hp1,-,hp3⟩,hs,rfl⟩;have hd's:d'.size=gl.length:=by rw[hp1,hds]
      -- the lists,sorted
      have hgl:d.toList.map (λx=>x.1.l)=gl:=by
       apply List.ext_getElem
       ·simp[hds]
       ·intro i h1 h2;have:=hdg i h2;rw[getElem!_pos d i (by omega)]at this;simp only[List.getElem_map,Array.getElem_toList,this];exact(hfx i h2).1
      have hperm:List.Perm (d'.toList.map λx=>x.1.l) gl:=by
       rw[<- hgl];refine List.Perm.map _ ?_;have q1:d'.extract 0 gl.length=d':=by rw[<- hd's]; simp
       have q2:d.extract 0 gl.length=d:=by rw[<- hds]; simp
       rw[q1,q2]at hp3;exact hp3
      have hsort:(d'.toList.map λx=>x.1.l).Pairwise (λa b=>decide (cf b a<0)=false):=by
       refine List.pairwise_map.2 (List.pairwise_iff_getElem.2 λi j hi hj hij=>?_);have:=hs i j (Nat.zero_le _) hij (by simpa[hd's]using hj);rw[getElem!_pos d' i (by simpa using hi),getElem!_pos d' j (by simpa using hj)]at this;simpa[Proofs.ltOf]using this
      have hL:AU (λx y=>decide (cf x y<0)) gl=d'.toList.map λx=>x.1.l:=aXZ hLO hD hperm hsort
      have hLl:(d'.toList.map λx=>x.1.l).length=gl.length:=by simp[hd's]
      rw[hL];have hnew:∀ i (hi:i<d'.size),(Sort.putCells (λx:{e:El t // aK8 w (Gd.of G.ok) D e}=>x.1.v) 0 d' cc)[i]?=some d'[i].1.v:=λi hi=>by
       have h9:i<cc.size:=by omega
       simp only[Sort.putCells,Array.getElem?_mapIdx,Array.getElem?_eq_getElem h9,Option.map_some,Nat.zero_le,true_and,Nat.zero_add,hi,if_true,Nat.sub_zero];rw[getElem!_pos _ i hi]
      have hkk:aK (Sort.putRow (λx:{e:El t // aK8 w (Gd.of G.ok) D e}=>x.1.v) (Sort.ahead w m) b 0 d') G μ b 0 (aP (.list t) (d'.toList.map λx=>x.1.l)):=by
       rw[aS9,List.map_map];refine aK.mk λi p hp=>?_
       rw[List.getElem?_map]at hp;cases hi:d'.toList[i]? with
       | none=>rw[hi]at hp; cases hp
       | some x =>
        rw[hi]at hp;simp only[Option.map_some,oJ,Function.comp_apply]at hp;subst hp;obtain⟨hlt,hx⟩:=oO.1 hi;have hlt':i<d'.size:=by simpa using hlt
        refine⟨x.1.v,?_,(VR.mono (e12 m d').toMono.aZ _ _ (F4 (G:=Gd.of G.ok) (G':=G) (λb h=>h) aZ (uE t x.1.l none) _ hpl x.2.2)).fK⟩;simp only[World.cell?,(hT m d').at_,Nat.zero_add];have:=hnew i hlt';rw[<- hx];simpa using this
      have w1:=aJE hW (w.drawn+m);have w2:=ZG w1 (bB hk) hfz h5 (c:=cc) (k':=⟨aP (.list t) (d'.toList.map λx=>x.1.l),k.ty,k.grown,false,some ⟨.list t,d'.toList.map λx=>x.1.l⟩⟩) (by exact a1) (hT m d') (hps d') rfl (by rw[h9s]; exact hkk)
       (λhgr=>by rw[hps,a3 hgr,hcells,RX,RX,hLl])
       (λg hg=>by cases hg; exact⟨rfl,by rw[hmlen,hLl]⟩)
       (λt l h1 h2=>by cases h2)
      obtain⟨e3,w3⟩:=a1T w2 os;refine⟨_,G,μ,rfl,(e12 m d').trans e3,w3,?_⟩;rw[VR]; exact⟨#[],rfl,by rw[VRs]⟩
     ·cases h
    ·cases h
   ·cases h
  ·cases h
 ·cases h
end
end Go.PM
namespace Go.PM
def cmpL:List Int->List Int->Int
 | [],[]=>0
 | [],_::_=>-1
 | _::_,[]=>1
 | a::l,b::m=>if a<b then -1 else if b<a then 1 else cmpL l m
theorem uC:∀ l,cmpL l l=0
 | []=>rfl
 | a::l=>by simp[cmpL,uC l]
theorem sR:∀ {l m},¬ cmpL l m<0->¬ cmpL m l<0->l=m
 | [],[],_,_=>rfl
 | [],_::_,h,_=>by simp[cmpL]at h
 | _::_,[],_,h=>by simp[cmpL]at h
 | a::l,b::m,h,k=>by
  simp only[cmpL]at h k
  by_cases h1:a<b
  ·grind
  ·by_cases h2:b<a
   ·omega
   ·rw[if_neg h1,if_neg h2]at h;rw[if_neg h2,if_neg h1]at k;have:a=b:=by omega
    rw[this,sR h k]
theorem sT:∀ {l m n},cmpL l m<0->cmpL m n<0->cmpL l n<0
 | [],[],_,h,_=>by simp[cmpL]at h
 | [],_::_,[],_,k=>by simp[cmpL]at k
 | [],_::_,_::_,_,_=>by simp[cmpL]
 | _::_,[],_,h,_=>by simp[cmpL]at h
 | _::_,_::_,[],_,k=>by simp[cmpL]at k
 | a::l,b::m,c::n,h,k=>by
  simp only[cmpL]at h k ⊢
  by_cases h1:a<b
  ·grind
  ·by_cases h2:b<a
   ·rw[if_neg h1,if_pos h2]at h; omega
   ·rw[if_neg h1,if_neg h2]at h
    by_cases h3:b<c
    ·rw[if_pos (show a<c by omega)]; omega
    ·by_cases h4:c<b
     ·rw[if_neg h3,if_pos h4]at k; omega
     ·rw[if_neg h3,if_neg h4]at k;rw[if_neg (show ¬ a<c by omega),if_neg (show ¬ c<a by omega)];exact sT h k
theorem JH:∀ {l m},cmpL l m<0->¬ cmpL m l<0:=λh k=>by
 have:=sT h k;rw[uC]at this; omega
theorem sN {α β:Type} f (g:α->β):∀ l:List Nat,(l.findSome? λi=>(f i).map g)=(l.findSome? f).map g
 | []=>rfl
 | i::l=>by
  rw[List.findSome?_cons,List.findSome?_cons];cases h:f i with
  | some y=>rfl
  | none=>exact sN f g l
def yS(l m:List Int) (i:Nat):Option Int :=
 if ¬ i<m.length then some 1 else if l.getD i 0<m.getD i 0 then some (-1) else if m.getD i 0<l.getD i 0 then some 1 else none
theorem JY:∀ l m j,((List.range' j (l.length-j)).findSome? (yS l m)).getD (if l.length<m.length then -1 else 0)=cmpL (l.drop j) (m.drop j)\/l.length<j
 | l,m,j=>by
  rcases Nat.lt_or_ge l.length j with h|h
  ·exact .inr h
  ·left;generalize hn:l.length-j=n
   induction n generalizing j with
   | zero =>
    have h1:l.drop j=[]:=List.drop_eq_nil_of_le (by omega);rw[h1];simp only[List.range'_zero,List.findSome?_nil,Option.getD_none]
    by_cases h2:l.length<m.length
    ·rw[if_pos h2,List.drop_eq_getElem_cons (show j<m.length by omega)]; rfl
    ·rw[if_neg h2,List.drop_eq_nil_of_le (show m.length<=j by omega)]; rfl
   | succ n ih =>
    have hj:j<l.length:=by omega
    rw[List.range'_succ,List.findSome?_cons,List.drop_eq_getElem_cons hj];unfold yS
    by_cases h2:j<m.length
    ·rw[if_neg (λh=>h h2),List.drop_eq_getElem_cons h2];have g1:l.getD j 0=l[j]:=by rw[List.getD_eq_getElem?_getD,List.getElem?_eq_getElem hj]; rfl
     have g2:m.getD j 0=m[j]:=by rw[List.getD_eq_getElem?_getD,List.getElem?_eq_getElem h2]; rfl
     rw[g1,g2];simp only[cmpL]
     by_cases h3:l[j]<m[j]
     ·rw[if_pos h3,if_pos h3]; rfl
     ·rw[if_neg h3,if_neg h3]
      by_cases h4:m[j]<l[j]
      ·rw[if_pos h4,if_pos h4]; rfl
      ·rw[if_neg h4,if_neg h4];exact ih (j+1) (by omega) (by omega)
    ·rw[if_pos h2,List.drop_eq_nil_of_le (show m.length<=j by omega)]; rfl
theorem EY:∀ {l m},cmpL l m=0->l=m
 | [],[],_=>rfl
 | [],_::_,h=>by simp[cmpL]at h
 | _::_,[],h=>by simp[cmpL]at h
 | a::l,b::m,h=>by
  simp only[cmpL]at h
  by_cases h1:a<b
  ·omega
  ·rw[if_neg h1]at h
   by_cases h2:b<a
   ·omega
   ·rw[if_neg h2]at h;rw[EY h,show a=b by omega]
theorem JR {x y}(h0:¬ cmpL x y=0)(h1:¬ cmpL x y<0):cmpL y x<0:=by
 by_cases h:cmpL y x<0
 ·grind
 ·have e:=sR h1 h;subst e;exact(h0 (uC _)).elim
end Go.PM
namespace Go.PM
open Go Go.RowKit Go.Proofs Tryz
set_option maxHeartbeats 4000000
theorem a5V {p:Prop}(h:p):Hid p:=h
theorem OE(b1 o1 c1 b2 o2 c2:Nat)(l m:List Int)(w:World)(hl:∀ j x,l[j]?=some x->w.cell? ⟨b1,o1+j,none⟩=some (.int .i64 x))(hm:∀ j x,m[j]?=some x->w.cell? ⟨b2,o2+j,none⟩=some (.int .i64 x))(hln:l.length<=1048576)(hmn:m.length<=1048576) :
  Calls Tryz.prog 71 #[.slice (some ⟨b1,o1,none⟩) l.length c1,.slice (some ⟨b2,o2,none⟩) m.length c2] w λe w'=>e=.returned (.int .i64 (cmpL l m))/\w'=w:=by
 have HL:=a5V hl;have HM:=a5V hm;clear hl hm;have e74:∀ args w,(callFunc 108 args).run Tryz.prog w=.ok (.enter 108 args) w:=λargs w=>enters func108 (by kernel_rfl) (by kernel_rfl) args w
 go_enter func71,ntmps71
 go_wp2
 go_loop [11] (λi=>∃ k:Nat,k<=l.length/\i=.int .i64 k/\Hid (cmpL (l.drop k) (m.drop k)=cmpL l m)) (λi=>l.length-(RowKit.intOf i).toNat)
 case atStart=>exact⟨0,Nat.zero_le _,rfl,a5V rfl⟩
 case round =>
  obtain⟨k,hk,rfl,hc⟩:=hrel
  by_cases hkn:k<l.length
  ·obtain⟨x,hx⟩:∃ x,l[k]?=some x:=⟨l[k],List.getElem?_eq_getElem hkn⟩;have hcx:=HL.out k x hx;have hdx:l.drop k=x::l.drop (k+1):=by
    rw[List.drop_eq_getElem_cons hkn]
    congr 1
    exact(oO.1 hx).2
   by_cases hkm:k<m.length
   ·obtain⟨y,hy⟩:∃ y,m[k]?=some y:=⟨m[k],List.getElem?_eq_getElem hkm⟩;have hcy:=HM.out k y hy;have hdy:m.drop k=y::m.drop (k+1):=by
     rw[List.drop_eq_getElem_cons hkm]
     congr 1
     exact(oO.1 hy).2
    have hc2:Hid ((if x<y then -1 else if y<x then 1 else cmpL (l.drop (k+1)) (m.drop (k+1)))=cmpL l m):=by
     have:=hc.out;rw[hdx,hdy]at this;exact this
    clear hdx hdy hc hx hy
    go_wp2_with (go_at_fn 108; refine(Tryz.cmp_Compare_int x y w).mono ?_; rintro e w' ⟨rfl,rfl⟩)
    ·rename_i h;have e:Lib.compareInt x y=cmpL l m:=by
      rw[<- hc2.out];unfold Lib.compareInt at h ⊢
      by_cases h1:x<y
      ·rw[if_pos h1,if_pos h1]
      ·by_cases h2:y<x
       ·rw[if_neg h1,if_pos h2,if_neg h1,if_pos h2]
       ·rw[if_neg h1,if_neg h2]at h; simp at h
     clear hc2
     go_ret
     exact⟨oZ (λz=>Ending.returned (.int .i64 z)) e,rfl⟩
    ·rename_i h;refine⟨⟨k+1,by omega,by go_num,a5V ?_⟩,by simp[RowKit.intOf]; omega⟩;rw[<- hc2.out];unfold Lib.compareInt at h
     by_cases h1:x<y
     ·rw[if_pos h1]at h; simp at h
     ·by_cases h2:y<x
      ·rw[if_neg h1,if_pos h2]at h; simp at h
      ·rw[if_neg h1,if_neg h2]
   ·have hc2:Hid (1=cmpL l m):=by
     have:=hc.out;rw[hdx,List.drop_eq_nil_of_le (show m.length<=k by omega)]at this;exact this
    clear hdx hc hx
    go_wp2
    go_ret
    exact⟨oZ (λz=>Ending.returned (.int .i64 z)) hc2.out,rfl⟩
  ·have hke:k=l.length:=by omega
   subst hke;have hc2:Hid ((if l.length<m.length then -1 else 0)=cmpL l m):=by
    have:=hc.out;rw[List.drop_length]at this;rw[<- this]
    by_cases h:l.length<m.length
    ·rw[if_pos h,List.drop_eq_getElem_cons h]; rfl
    ·rw[if_neg h,List.drop_eq_nil_of_le (show m.length<=l.length by omega)]; rfl
   clear hc
   go_wp2
   ·rename_i h;have e:=hc2.out;rw[if_pos (by omega)]at e;clear hc2
    go_ret
    exact⟨oZ (λz=>Ending.returned (.int .i64 z)) e,rfl⟩
   ·rename_i h;have e:=hc2.out;rw[if_neg (by omega)]at e;clear hc2
    go_ret
    exact⟨oZ (λz=>Ending.returned (.int .i64 z)) e,rfl⟩
theorem aV1(ao bo:Option Addr)(c1 c2 n:Nat)(w:World) :
  Calls Tryz.prog 71 #[.slice ao 0 c1,.slice bo n c2] w λe w'=>e=.returned (.int .i64 (if 0<n then -1 else 0))/\w'=w:=by
 have e74:∀ args w,(callFunc 108 args).run Tryz.prog w=.ok (.enter 108 args) w:=λargs w=>enters func108 (by kernel_rfl) (by kernel_rfl) args w
 go_enter func71,ntmps71
 go_wp2
 go_loop [11] (λi=>i=.int .i64 0) (λi=>0)
 case atStart=>rfl
 case round =>
  subst hrel
  go_wp2
  all_goals (go_ret; exact⟨rfl,rfl⟩)
theorem aV6(b1 o1 n:Nat)(bo:Option Addr)(c1 c2:Nat)(x:Int)(w:World)(hn:0<n)(hx:w.cell? ⟨b1,o1,none⟩=some (.int .i64 x)) :
  Calls Tryz.prog 71 #[.slice (some ⟨b1,o1,none⟩) n c1,.slice bo 0 c2] w λe w'=>e=.returned (.int .i64 1)/\w'=w:=by
 have e74:∀ args w,(callFunc 108 args).run Tryz.prog w=.ok (.enter 108 args) w:=λargs w=>enters func108 (by kernel_rfl) (by kernel_rfl) args w
 go_enter func71,ntmps71
 go_wp2
 go_loop [11] (λi=>i=.int .i64 0) (λi=>0)
 case atStart=>rfl
 case round =>
  subst hrel
  go_wp2
  all_goals (go_ret; exact⟨rfl,rfl⟩)
theorem aXF {w:World} {G:Nat->Prop} {l m:List Int} {v u:Value} (hv:VR w (Gd.of G) aZ (uE (.int .i64) l none) v) (hu:VR w (Gd.of G) aZ (uE (.int .i64) m none) u) (hl:l.length<=1048576) (hm:m.length<=1048576) :
  Calls Tryz.prog 71 #[v,u] w λe w'=>e=.returned (.int .i64 (cmpL l m))/\w'=w:=by
 unfold uE at hv hu;rw[VR]at hv hu;obtain⟨hv,-⟩:=hv;obtain⟨hu,-⟩:=hu;rw[VR]at hv hu;obtain⟨ao,c,rfl,-,-,h1⟩:=hv;obtain⟨bo,d,rfl,-,-,h2⟩:=hu;cases l with
 | nil =>
  refine(aV1 ao bo c d m.length w).mono ?_;rintro e w' ⟨rfl,rfl⟩;refine⟨?_,rfl⟩;cases m with
  | nil=>rfl
  | cons y m=>rfl
 | cons x l =>
  rcases h1 with h1|⟨b,off,rfl,-,h1⟩
  ·cases h1
  have hc:∀ (zs:List Int) (b off:Nat),aK w (Gd.of G) aZ b off (aP (.int .i64) zs)->∀ j z,zs[j]?=some z->w.cell? ⟨b,off+j,none⟩=some (.int .i64 z):=λzs b off h j z hz=>by
   obtain⟨v,g1,g2⟩:=h.get (i:=j) (p:=.lit (.int .i64 z)) (by rw[a0R,List.getElem?_map,hz]; rfl);rw[VR]at g2;rw[g1,g2]
  cases m with
  | nil =>
   refine(aV6 b off (l.length+1) bo c d x w (Nat.succ_pos _) (by simpa using hc _ _ _ h1 0 x rfl)).mono ?_;rintro e w' ⟨rfl,rfl⟩;exact⟨rfl,rfl⟩
  | cons y m =>
   rcases h2 with h2|⟨b2,off2,rfl,-,h2⟩
   ·cases h2
   exact OE b off c b2 off2 d (x::l) (y::m) w (hc _ _ _ h1) (hc _ _ _ h2) hl hm
theorem aSD {w:World} {G:Nat->Prop} {l m:List Int} {v u:Value} (hv:VR w (Gd.of G) aZ (uE (.int .i64) l none) v) (hu:VR w (Gd.of G) aZ (uE (.int .i64) m none) u) (hl:l.length<=1048576) (hm:m.length<=1048576) :
  Calls Tryz.prog 36 #[v,u] w λe w'=>e=.returned (.int .i64 (cmpL l m))/\w'=w:=by
 have e57:∀ args w,(callFunc 71 args).run Tryz.prog w=.ok (.enter 71 args) w:=λargs w=>enters func71 (by kernel_rfl) (by kernel_rfl) args w
 have h:=aXF hv hu hl hm;clear hv hu
 go_enter func36,ntmps36
 go_wp2_with (go_at_fn 71; refine h.mono ?_; rintro e w' ⟨rfl,rfl⟩)
 go_ret
 exact⟨rfl,rfl⟩
def D64(l:List Int):Bool:=Nat.ble l.length 1048576
theorem loL:LO D64 λx y=>decide (cmpL x y<0) where
 irrefl x _:=by rw[uC]; rfl
 trans x y z _ _ _ h k:=by simp only[decide_eq_true_eq]at h k ⊢; exact sT h k
 ntrans x y z _ _ _ h k:=by
  simp only[decide_eq_false_iff_not]at h k ⊢;intro hz
  -- x<z: then x<y or y<z
  by_cases h1:x=y
  ·grind
  ·have:cmpL y x<0:=by
    by_cases h2:cmpL y x<0
    ·omega
    ·exact(h1 (sR h h2)).elim
   exact k (sT this hz)
 anti x y _ _ h k:=by simp only[decide_eq_false_iff_not]at h k; exact sR h k
theorem a1G:a3L Tryz.prog 36 (.int .i64) D64 cmpL:=by
 intro w G x y vx vy hG hx hy kx ky;refine(aSD kx ky (oL hx) (oL hy)).mono ?_;rintro e w' ⟨rfl,rfl⟩;exact⟨rfl,0,#[],by simp[Sort.grow,World.drewN]⟩
abbrev a7J:Shr:=(66,aRC (.int .i64) (.fn 36) D64 λx y=>decide (cmpL x y<0))
theorem a3D:UA Tryz.prog a7J :=
 a2D rfl (.inl rfl) loL a1G (λ_ _=>enters func66 (by kernel_rfl) (by kernel_rfl) _ _) (λ_ _=>enters func36 (by kernel_rfl) (by kernel_rfl) _ _)
  (λenc h1 cf hO cb blk off cap d w hcmp hH hblk hsz=>Tryz.slices_SortFunc enc h1 cf hO 36 cb blk off cap d w (λ_ _=>enters func36 (by kernel_rfl) (by kernel_rfl) _ _) hcmp hH hblk hsz)
end Go.PM
namespace Go.PM
open Go Go.RowKit
def MD {t:Ty} (D:List t.den->Bool) (lt:List t.den->List t.den->Bool) (l:List (List t.den)):Option (List (List t.den)):=match l with
 | []=>some []
 | x::r=>HO D lt (x::r)
def aST(t:Ty)(ck:Kd)(D:List t.den->Bool)(lt:List t.den->List t.den->Bool)(args:List PV)(H:Heap):Option Q7:=match args with
 | [.own r sz,p]=>match fO H r with
  | some k=>match k.tag with
   | some g=>match pI g.t (.list t) g.l with
    | some l=>match PL ck p [] 0 with
     | some _=>bif Nat.beq sz 1&&!k.frozen then some ⟨List (List t.den),MD D lt l,λl'=>(.tuple [],H.set r (some ⟨aP (.list t) l',k.ty,k.grown,false,some ⟨.list t,l'⟩⟩))⟩ else none
     | none=>none
    | none=>none
   | none=>none
  | none=>none
 | _=>none
theorem aTT {g:Tg}{u l}(h:pI g.t u g.l=some l):g=⟨u,l⟩:=by
 obtain⟨gt,gl⟩:=g;obtain⟨e,e2⟩:=xT h;grind
theorem a0F {P g g2 t D lt}(h1:UA P (g,aRC t (.fn g2) D lt))(h0:∀ ao c,vT P g [.lit (.slice ao 0 c),.lit (.func (.func g2) #[] #[])] (.tuple [])) :
  UA P (g,aST t (.fn g2) D lt):=by
 intro args H rh h y hy n0 G μ w us hW hv;change aST t (.fn g2) D lt args H=some rh at h;show vQ P n0 w G μ g us.toArray (rh.out y).1 (rh.out y).2;unfold aST at h;split at h
 ·rename_i r sz p;split at h
  ·rename_i k hk;split at h
   ·rename_i gg hg;split at h
    ·rename_i l hl;split at h
     ·rename_i pk hpk;obtain⟨hb,h⟩:=aC3 h;have hb':=hb;simp only[oA,Bool.not_eq_true']at hb;cases l with
      | cons x l =>
       simp only[oJ]at h;subst h;exact h1 [.own r sz,p] H ⟨List (List t.den),HO D lt (x::l),_⟩ (by simp only[aRC,hk,hg,hl,hpk,hb',oC]) y hy hW hv
      | nil =>
       simp only[oJ]at h;subst h;simp only[MD,oJ]at hy;subst hy;have hp:=FJ (p:=p) (g:=g2) (x:=pk) hpk;subst hp;have hsame:H.set r (some ⟨aP (.list t) [],k.ty,k.grown,false,some ⟨.list t,[]⟩⟩)=H:=by
        have hgg:=aTT hl;subst hgg;have ht:=(hW.tags r k _ (bB hk) hg).1;apply List.ext_getElem?;intro i
        by_cases hi:r=i
        ·subst hi;rw[List.getElem?_set_self (oO.1 (bB hk)).1,bB hk];obtain⟨k1,k2,k3,k4,k5⟩:=k;dsimp only at ht hg hb ⊢;rw[ht,hg,hb.2]
        ·rw[List.getElem?_set_ne hi]
       dsimp only;rw[hsame];rw[VRs]at hv;obtain⟨v,vs,rfl,hv1,hv2⟩:=hv;have hlen:gg.l.length=0:=by rw[aTT hl]; rfl
       have hm:=(hW.tags r k gg (bB hk) hg).2;obtain⟨ao,c,rfl⟩:∃ ao c,v=.slice ao 0 c:=by
        rw[VR]at hv1;obtain⟨n,e1,e2⟩:=hv1;rw[hm,hlen]at e1;cases e1;rcases e2 with ⟨_,ao,e3⟩|⟨b,c,_,e3,_⟩
        ·exact⟨ao,0,e3⟩
        ·exact⟨_,c,e3⟩
       refine JM (n:=depth) hW (h0 ao c) (args:=[.lit (.slice ao 0 c),.lit (.func (.func g2) #[] #[])]) rfl rfl rfl ?_;rw[VRs];exact⟨_,_,rfl,by rw[VR],hv2⟩
     ·cases h
    ·cases h
   ·cases h
  ·cases h
 ·cases h
open Go Go.RowKit Go.Proofs Tryz
theorem a2A(ao:Option Addr)(c:Nat):vT Tryz.prog 66 [.lit (.slice ao 0 c),.lit (.func (.func 36) #[] #[])] (.tuple []) :=
 aZX (cfgs:=a8G Tryz.prog) (sh:=λ_=>false) (prim:=λ_ _=>none) (L:=1000) (n:=12) RZ (λ_ _ _ h=>by cases h) (by kernel_rfl)
abbrev a7F:Shr:=(66,aST (.int .i64) (.fn 36) D64 λx y=>decide (cmpL x y<0))
theorem a5T:UA Tryz.prog a7F:=a0F a3D a2A
set_option maxHeartbeats 4000000
def jG(x:aL [.list TyE]):Option (aL [.list TyE]):=match x with
 | (v0,()) =>
  bif Nat.blt 0 v0.length then bif Nat.ble v0.length 1048576 then some (v0,()) else none else none
abbrev aAB:Ent:=⟨48,_,_,jG⟩
theorem YH:Ent.OK Tryz.prog aAB:=oI (RU oW) func48 (by kernel_rfl) (by rintro⟨v0,⟨⟩⟩; kernel_rfl)
def aMX(x:aL [.list TyD]):Option (aL [.list TyD]):=match x with
 | (v0,()) =>
  bif Nat.blt 0 v0.length then bif Nat.ble v0.length 1048576 then some (v0,()) else none else none
abbrev YY:List (Nat×Kd):=[(3,.own 39 TyD),(9,.list TyD),(10,.int .i64),(11,.int .i64)]
abbrev aCM:List (Ex×List (Nat×Kd)):=[(.exit 0,[(3,.own 39 TyD)])]
def aJN(x:Shape.den YY):Option (Shape.den YY⊕fR aCM):=match x with
 | (v3,v9,v10,v11,()) =>
  bif ltI v11 v10 then
   bif aF v11 v9.length then aC (jG ((v9.getD v11.toNat []),())) λy2 =>
   bif aF v11 v3.length then bif Nat.blt v11.toNat v3.length then some (.inl ((v3.set v11.toNat y2.1),v9,v10,(aB .i64 (v11+1)),())) else none else none else none
  else some (.inr ((v3,())))
def aBE(x:Shape.den YY):Option (fR aCM):=aO aJN (2^64) x
def aA4(x:aL [.list TyD]):Option (aL [.list TyD]):=match x with
 | (v0,()) =>
  bif !(ltI (v0.length:Int) 0) then bif !(ltI (v0.length:Int) (v0.length:Int)) then bif !(ltI 1048576 (v0.length:Int)) then aC (aBE ((List.replicate ((v0.length:Int).toNat) ([]:Ty.den TyD)),v0,(v0.length:Int),0,())) λz3 =>
  some (z3.1,()) else none else none else none
abbrev aA6:Ent:=⟨57,_,_,aA4⟩
theorem aCW:Ent.OK Tryz.prog aA6:=oU (RU (oV YH oW)) func57 3 (lp:=aBE) rfl (by kernel_rfl) (by rintro⟨v3,v9,v10,v11,⟨⟩⟩; kernel_rfl) (by rintro⟨v0,⟨⟩⟩; kernel_rfl)
def ZY(x:aL [.int .i64,.list TyD,.int .i64]):Option (aL [.clo 89 [TyE,TyC,TyE]]):=match x with
 | (v0,v1,v2,()) =>
  some ((v2,v1,v0,()),())
abbrev aC4:Ent:=⟨56,_,_,ZY⟩
theorem aFK:Ent.OK Tryz.prog aC4:=oI (RU oW) func56 (by kernel_rfl) (by rintro⟨v0,v1,v2,⟨⟩⟩; kernel_rfl)
abbrev mN:List (Nat×Kd):=[(0,.int .i64),(7,.own 39 TyD),(16,.list TyD),(17,.int .i64),(18,.int .i64)]
abbrev rU:List (Ex×List (Nat×Kd)):=[(.exit 0,[(7,.own 39 TyD)])]
def gY(x:Shape.den mN):Option (Shape.den mN⊕fR rU):=match x with
 | (v0,v7,v16,v17,v18,()) =>
  bif ltI v18 v17 then
   bif aF v18 v16.length then aC (wB ((v16.getD v18.toNat []),())) λy5 =>
   bif y5.1 then
    some (.inl (v0,v7,v16,v17,(aB .i64 (v18+1)),()))
   else aC (jG ((v16.getD v18.toNat []),())) λy6 =>
   bif !(ltI v0 0) then bif !(ltI v0 v0) then bif !(ltI 1048576 v0) then aC (rI ((List.replicate v0.toNat (0:Ty.den TyE)),(v16.getD v18.toNat []),(-1),())) λy7 =>
   bif Nat.ble [y6.1,y7.1].length 1048576 then bif Nat.ble v7.length 1048576 then some (.inl (v0,(v7++[y6.1,y7.1]),v16,v17,(aB .i64 (v18+1)),())) else none else none else none else none else none else none
  else some (.inr ((v7,())))
def qN(x:Shape.den mN):Option (fR rU):=aO gY (2^64) x
def jS(x:aL [.int .i64,.list TyD]):Option (aL [.list TyD,.int .i64]):=match x with
 | (v0,v1,()) =>
  aC (rE (v0,v1,())) λy1 =>
  bif !(eqI y1.1 0) then
   some ([],y1.1,())
  else aC (qN (v0,[],v1,(v1.length:Int),0,())) λz8 =>
  aC (MD (t:=TyE) D64 (λx y=>decide (cmpL x y<0)) z8.1) λy9 =>
  aC (dB y9 ((),())) λy10 =>
  bif ltI 60 (y10.1.length:Int) then
   some ([],4,())
  else some (y10.1,0,())
abbrev aPI:Env:=aG6 [aJS,aJO,aRM,aAB] [a7F,TX]
theorem aMM:OK Tryz.prog aPI:=T0 ⟨aFN,aNU,aTH,YH,trivial⟩ ⟨a5T,XL,trivial⟩
abbrev aB3:Ent:=⟨28,_,_,jS⟩
theorem ZI:Ent.OK Tryz.prog aB3:=oU aMM func28 6 (lp:=qN) rfl (by kernel_rfl) (by rintro⟨v0,v7,v16,v17,v18,⟨⟩⟩; kernel_rfl) (by rintro⟨v0,v1,⟨⟩⟩; kernel_rfl)
end Go.PM
namespace Go.PM
open Go Go.RowKit Go.Proofs Tryz
abbrev N0:Ty:=.list (.int .i64)
def hb(L:List (List Int)):Heap:=[some ⟨aP N0 L,39,true,false,some ⟨N0,L⟩⟩]
def aSU(args:List PV) (H:Heap):Option Q7:=match args with
 | [.win r lo n sz]=>match H with
  | [some k]=>match k.tag with
   | some g=>match pI g.t N0 g.l with
    | some L=>bif Nat.beq r 0&&Nat.beq lo 0&&Nat.beq sz 1&&Nat.beq k.ty 39&&k.grown&&!k.frozen then
      some ⟨List (List Int),(bif Nat.ble n 1048576 then some (L.take n) else none),λl=>(.own 1 1,[some k,some ⟨aP N0 l,39,true,false,some ⟨N0,l⟩⟩])⟩ else none
    | none=>none
   | none=>none
  | _=>none
 | _=>none
def a5P:Code:=R5 f91
theorem a7R(L:List (List Int))(n:Nat):aBT Tryz.prog (aCN []) 8 255 (λ_=>none) (λ_=>none) true [0] a5P [(0,.win 0 0 n 1)] (hb L) (λex F H=>match ex with
  | .exit _=>none
  | _=>some (GF [2] F,H))=bif Nat.ble ((L.drop 0).take n).length 1048576 then some ([(2,.own 1 1)],hb L++[some ⟨aP N0 ((L.drop 0).take n),39,true,false,some ⟨N0,(L.drop 0).take n⟩⟩]) else none:=by kernel_rfl
def TV:Code:=R5 f90
theorem a01:TV=.seq (.region 0 (SY TV 0) false) (.seq (.seq (.region 1 (SY TV 1) false) (.cond (.tmp 12) (.seq (.region 2 (SY TV 2) true) .ret) .skip))
  (.seq (.seq (.region 3 (SY TV 3) false) (.block 0 (.loop (.seq (.region 4 (SY TV 4) false) (.seq (.cond (.tmp 20) .skip (.exit 0)) (.seq (.block 1 (.seq (.region 5 (SY TV 5) false) (.seq (.region 6 (SY TV 6) true) (.cond (.tmp 46) (.seq (.region 7 (SY TV 7) false) .ret) .skip)))) (.region 8 (SY TV 8) false)))))))
   (.seq (.region 9 (SY TV 9) false) .ret))):=by kernel_rfl
abbrev aN0:Env:=aG6 [aPK,aJ0] [(91,aSU)]
def aSA(k:Nat)(notes:Int)(yv addv:Value)(cl:List (List Int)):Frm:=[(0,.win 0 0 k 1),(1,.iptr [.lit (.int .i64 notes)]),(2,.iptr [.lit yv]),(3,.iptr [uE N0 cl none]),(4,.iptr [.lit addv])]
def aGS(k:Nat)(notes:Int)(yv addv:Value)(cl:List (List Int))(j:Int):Frm:=aSA k notes yv addv cl++[(17,uE N0 cl none),(18,.lit (.int .i64 cl.length)),(19,.lit (.int .i64 j))]
section
variable (k:Nat) (notes:Int) (yv addv:Value) (cl L:List (List Int)) (j:Int) (x:List Int)
theorem a02:TR Tryz.prog aN0 48 (SY TV 0) false (aSA k notes yv addv cl) (hb L) (λF H=>some (GF [0,1,2,3,4] F,H))=some (aSA k notes yv addv cl,hb L):=by kernel_rfl
theorem a0M:TR Tryz.prog aN0 48 (SY TV 1) false (aSA k notes yv addv cl) (hb L) (λF H=>some (GF [0,1,2,3,4,12] F,H))=some (aSA k notes yv addv cl++[(12,.lit (.bool (eqI (k:Int) notes)))],hb L):=by kernel_rfl
theorem a4X:TR Tryz.prog aN0 48 ((SY TV 2).toList.take 3).toArray true (aSA k notes yv addv cl) (hb L) (λF H=>some (GF [0,1,2,3,4,13,15] F,H))=aC (bif Nat.ble k 1048576 then some (L.take k) else none) λy=>some (aSA k notes yv addv cl++[(13,.lit yv),(15,.own 1 1)],hb L++[some ⟨aP N0 y,39,true,false,some ⟨N0,y⟩⟩]):=by kernel_rfl
theorem a4Y:TR Tryz.prog aN0 48 (SY TV 3) false (aSA k notes yv addv cl) (hb L) (λF H=>some (GF [0,1,2,3,4,17,18,19] F,H))=some (aGS k notes yv addv cl 0,hb L):=by kernel_rfl
theorem a4J:TR Tryz.prog aN0 48 (SY TV 4) false (aGS k notes yv addv cl j) (hb L) (λF H=>some (GF [0,1,2,3,4,17,18,19,20] F,H))=some (aGS k notes yv addv cl j++[(20,.lit (.bool (ltI j cl.length)))],hb L):=by kernel_rfl
theorem a5B:TR Tryz.prog aN0 48 (SY TV 5) false (aGS k notes yv addv cl j) (hb L) (λF H=>some (GF [0,1,2,3,4,17,18,19,8] F,H))=bif aF j cl.length then some (aGS k notes yv addv cl j++[(8,uE (.int .i64) (cl.getD j.toNat []) none)],hb L) else none:=by kernel_rfl
theorem a6J:TR Tryz.prog aN0 48 (SY TV 8) false (aGS k notes yv addv cl j) (hb L) (λF H=>some (GF [0,1,2,3,4,17,18,19] F,H))=some (aGS k notes yv addv cl (aB .i64 (j+1)),hb L):=by kernel_rfl
theorem a6D(H:Heap):TR Tryz.prog aN0 48 (SY TV 7) false [] H (λF H=>some (GF [6] F,H))=some ([(6,.lit (.bool false))],H):=by kernel_rfl
theorem a5D(H:Heap):TR Tryz.prog aN0 48 (SY TV 9) false [] H (λF H=>some (GF [6] F,H))=some ([(6,.lit (.bool true))],H):=by kernel_rfl
theorem a3C(b:Bool)(H:Heap):aF1 Tryz.prog aN0 48 (SY TV 2).toList ((SY TV 2).toList.drop 4) [(16,.lit (.bool b))] H (λF H=>some (GF [6] F,H))=some ([(6,.lit (.bool b))],H):=by kernel_rfl
def aMQ(k:Nat) (notes:Int) (yv addv:Value) (cl:List (List Int)) (j:Int) (b:Bool):Frm:=aGS k notes yv addv cl j++(bif b then [(38,.lit (.bool true)),(39,.lit addv),(43,.win 0 0 (k+1) 1)] else [(38,.lit (.bool false)),(39,.lit undef),(43,.lit undef)])
theorem a5O:TR Tryz.prog aN0 48 ((SY TV 6).toList.take 21).toArray true (aGS k notes yv addv cl j++[(8,uE (.int .i64) x none)]) (hb L) (λF H=>some (GF [0,1,2,3,4,17,18,19,38,39,43] F,H)) =
  bif aF (aB .i64 ((k:Int)-1)) k then bif Nat.blt (0+(aB .i64 ((k:Int)-1)).toNat) L.length then aC (uW (x,L.getD (0+(aB .i64 ((k:Int)-1)).toNat) [],())) λy1 =>
   bif ltI 0 y1.1 then aC (VK (cl,(L.drop 0).take k,x,())) λy2 =>
    bif y2.1 then (bif Nat.ble (0+k+1) L.length then some (aMQ k notes yv addv cl j true,hb (spl L (0+k) [x])) else none) else some (aMQ k notes yv addv cl j false,hb L)
   else some (aMQ k notes yv addv cl j false,hb L) else none else none:=by kernel_rfl
end
theorem a4W:f91.body=some a5P:=by kernel_rfl
theorem a7K:f91.results=#[.tmp 2]:=by kernel_rfl
theorem a7A:TY a5P=[]:=by kernel_rfl
theorem a7V:f91.ntmps=8:=by kernel_rfl
theorem a5I:UA Tryz.prog (91,aSU):=by
 intro args H rh h y hy n0 G μ w us hW hv;change aSU args H=some rh at h;show vQ Tryz.prog n0 w G μ 91 us.toArray (rh.out y).1 (rh.out y).2;unfold aSU at h;split at h
 ·rename_i r lo n sz;split at h
  ·rename_i k;split at h
   ·rename_i g hg;split at h
    ·rename_i L hL;obtain⟨hb1,h9⟩:=aC3 h;clear h;simp only[oJ]at h9;subst h9;simp only[oA,Bool.not_eq_true']at hb1;obtain⟨⟨⟨⟨⟨b1,b2⟩,b3⟩,b4⟩,b5⟩,b6⟩:=hb1;have b1:=oE b1;have b2:=oE b2;have b3:=oE b3;have b4:=oE b4;subst b1; subst b2; subst b3;have hgg:=aTT hL;subst hgg;have hk:k=⟨aP N0 L,39,true,false,some ⟨N0,L⟩⟩:=by
      have ht:=(hW.tags 0 k _ rfl hg).1;obtain⟨k1,k2,k3,k4,k5⟩:=k;dsimp only at ht hg b4 b5 b6;rw[ht,hg,b4,b5,b6]
     subst hk;dsimp only at hy ⊢;obtain⟨hle,hy⟩:=cC hy;simp only[oJ]at hy;subst hy;have hrun:=a7R L n;have hlen:Nat.ble ((L.drop 0).take n).length 1048576=true:=by
      refine Nat.ble_eq_true_of_le ?_;have:=oL hle;rw[List.length_take]; omega
     rw[hlen,oC]at hrun;obtain⟨⟨ex,F',H'⟩,h1,h2⟩:=TW (RU (P:=Tryz.prog) (l:=[]) trivial).callee RZ.mixed a5P _ _ _ _ (λb hb=>by rw[a7A]at hb; cases hb) hrun;have hex:(ex=.normal\/ex=.ret)/\GF [2] F'=[(2,.own 1 1)]/\H'=hb L++[some ⟨aP N0 ((L.drop 0).take n),39,true,false,some ⟨N0,(L.drop 0).take n⟩⟩]:=by
      cases ex with
      | exit i=>cases h1
      | normal =>
       simp only[oJ,oP]at h1;exact⟨.inl rfl,h1.1,h1.2⟩
      | ret =>
       simp only[oJ,oP]at h1;exact⟨.inr rfl,h1.1,h1.2⟩
     obtain⟨hex,hF',rfl⟩:=hex;refine⟨enters func91 (by kernel_rfl) (by kernel_rfl) _ _,calls_of_wp func91 a4W (wpIn_wide (n:=0) |>.1 ?_)⟩;have hF0:=U3 (m:=1) (n:=f91.ntmps) (vs:=us.toArray) (by simpa using hv) (by rw[a7V]; show 1<=8; decide);rw[a7V]at hF0 ⊢;have hF0:qJ w G μ 8 [(0,.win 0 0 n 1)] _:=hF0;have hI:I n0 w G μ 8 [(0,.win 0 0 n 1)] (hb L) _ w:=⟨G,μ,Ext.refl _ _ _ _,hW,hF0⟩
     refine wpIn_mono (h2 none 0 n0 w G μ _ w (λh=>by cases h) (λr hr=>hW.top r (by
      cases r with
      | zero=>exact absurd (by simp) hr
      | succ r=>simp)) hI.a63) ?_
     rintro e a' w' ⟨rfl,⟨G',μ',e',hW',hF2,hm⟩,hdd⟩;have hI':qJ w' G' μ' 8 [(2,.own 1 1)] { a' with defers:=[] }:=by rw[<- hF']; exact hF2.pick [2]
     have hd:a'.defers=[]:=hdd rfl;have hv2:=hI'.slot 2;have hpost:a'.defers=[]/\∃ v,(results f91 a'.tmps).run Tryz.prog w'=.ok v w'/\(∃ v' G'' μ'',Ending.returned v=.returned v'/\Ext n0 w G μ w' G'' μ''/\eA n0 G'' μ'' (hb L++[some ⟨aP N0 ((L.drop 0).take n),39,true,false,some ⟨N0,(L.drop 0).take n⟩⟩]) w'/\VR w' G'' μ'' (.own 1 1) v') :=
      ⟨hd,_,results_tmp a7K _ _ _,_,G',μ',rfl,e',hW',hv2⟩
     rcases hex with rfl|rfl
     ·exact hpost
     ·exact hpost
    ·cases h
   ·cases h
  ·cases h
 ·cases h
theorem a5U:OK Tryz.prog aN0:=T0 ⟨aE8,aFP,trivial⟩ ⟨a5I,trivial⟩
def aB4(f:List Int->Option (List (List (List Int)))):List (List Int)->Option (List (List (List Int)))
 | []=>some []
 | x::xs=>match f x with
  | some a=>match aB4 f xs with
   | some b=>some (a++b)
   | none=>none
  | none=>none
def grow(cl:List (List Int)):Nat->List (List Int)->Option (List (List (List Int)))
 | 0,c=>some [c]
 | r+1,c=>aB4 (λx=>aC (uW (x,c.getD (c.length-1) [],())) λy1 =>
   bif ltI 0 y1.1 then aC (VK (cl,c,x,())) λy2=>bif y2.1 then grow cl r (c++[x]) else some []
   else some []) cl
theorem aPC {f:List Int->Option (List (List (List Int)))}:∀ {l1 l2:List (List Int)} {g:List (List (List Int))},aB4 f (l1++l2)=some g->∃ a b,aB4 f l1=some a/\aB4 f l2=some b/\g=a++b
 | [],l2,g,h=>⟨[],g,rfl,h,rfl⟩
 | x::l1,l2,g,h=>by
  simp only[List.cons_append,aB4]at h;split at h
  ·rename_i a ha;split at h
   ·rename_i b hb;simp only[oJ]at h;subst h;obtain⟨a1,b1,h1,h2,rfl⟩:=aPC hb;exact⟨a++a1,b1,by simp only[aB4,ha,h1],h2,by rw[List.append_assoc]⟩
   ·cases h
  ·cases h
theorem a29 {f:List Int->Option (List (List (List Int)))}{l:List (List Int)}{g:List (List (List Int))}(h:aB4 f l=some g){j:Nat}(hj:j<l.length) :
  ∃ gd a b,aB4 f (l.take j)=some gd/\f l[j]=some a/\aB4 f (l.take (j+1))=some (gd++a)/\g=gd++a++b:=by
 have e:l=l.take j++(l[j]::l.drop (j+1)):=by rw[<- List.drop_eq_getElem_cons hj,List.take_append_drop]
 rw[e]at h;obtain⟨gd,b0,h1,h2,rfl⟩:=aPC h;simp only[aB4]at h2;split at h2
 ·rename_i a ha;split at h2
  ·rename_i b hb;simp only[oJ]at h2;subst h2;refine⟨gd,a,b,h1,ha,?_,by rw[List.append_assoc]⟩;rw[List.take_succ_eq_append_getElem hj];have key:∀ {l1:List (List Int)} {g1:List (List (List Int))},aB4 f l1=some g1->aB4 f (l1++[l[j]])=some (g1++a):=by
    intro l1
    induction l1 with
    | nil =>
     intro g1 h;simp only[aB4,oJ]at h;subst h;simp[aB4,ha]
    | cons x l1 ih =>
     intro g1 h;simp only[aB4]at h;split at h
     ·rename_i a1 ha1;split at h
      ·rename_i b1 hb1;simp only[oJ]at h;subst h;simp only[List.cons_append,aB4,ha1,ih hb1,List.append_assoc]
      ·cases h
     ·cases h
   exact key h1
  ·cases h2
 ·cases h2
abbrev chE(g:List (List (List Int))):List (aL [.list N0]):=g.map λc=>(c,())
theorem a00:f90.body=some TV:=by kernel_rfl
theorem a42:f90.ntmps=48:=by kernel_rfl
theorem a23:f90.results=#[.tmp 6]:=by kernel_rfl
theorem a8C:(SY TV 2).toList.drop 3=VS TV 2 3::(SY TV 2).toList.drop 4:=by kernel_rfl
theorem a7D:aKI (SY TV 2) 3=true:=by kernel_rfl
theorem a6T:(((SY TV 2).toList.drop 4).all λo=>!aSS o.op)=true:=by kernel_rfl
theorem a5C:(VS TV 2 3).op=.call (aKA (VS TV 2 3)):=by kernel_rfl
theorem a5E:(aKA (VS TV 2 3)).callee=.value (.tmp 13):=by kernel_rfl
theorem a5Q:(aKA (VS TV 2 3)).args=#[.tmp 15]:=by kernel_rfl
theorem a5Z:(VS TV 2 3).guard=none:=by kernel_rfl
theorem a4P:(VS TV 2 3).dst=some 16:=by kernel_rfl
theorem a2T:(SY TV 6).toList.drop 21=VS TV 6 21::(SY TV 6).toList.drop 22:=by kernel_rfl
theorem aZV:aKI (SY TV 6) 21=true:=by kernel_rfl
theorem aW2:(((SY TV 6).toList.drop 22).all λo=>!aSS o.op)=true:=by kernel_rfl
theorem a5R:(VS TV 6 21).op=.call (aKA (VS TV 6 21)):=by kernel_rfl
theorem a6K:(aKA (VS TV 6 21)).callee=.value (.tmp 39):=by kernel_rfl
theorem a5G:(aKA (VS TV 6 21)).args=#[.tmp 43]:=by kernel_rfl
theorem aSN:(VS TV 6 21).dst=some 44:=by kernel_rfl
section
variable (k:Nat) (notes:Int) (yv addv:Value) (cl L:List (List Int)) (j:Int) (x:List Int) (H:Heap)
theorem a6X(b:Bool):guardOf (aMQ k notes yv addv cl j b) (SY TV 6).toList (VS TV 6 21)=some b:=by
 cases b
 ·kernel_rfl
 ·kernel_rfl
theorem a2V:aF1 Tryz.prog aN0 48 (SY TV 6).toList ((SY TV 6).toList.drop 22) ((44,.lit (.bool true))::aMQ k notes yv addv cl j true) H (λF H=>some (GF [0,1,2,3,4,17,18,19,46] F,H))=some (aGS k notes yv addv cl j++[(46,.lit (.bool false))],H):=by kernel_rfl
theorem a2N:aF1 Tryz.prog aN0 48 (SY TV 6).toList ((SY TV 6).toList.drop 22) ((44,.lit (.bool false))::aMQ k notes yv addv cl j true) H (λF H=>some (GF [46] F,H))=some ([(46,.lit (.bool true))],H):=by kernel_rfl
theorem aYC:aF1 Tryz.prog aN0 48 (SY TV 6).toList ((SY TV 6).toList.drop 22) ((44,.lit undef)::aMQ k notes yv addv cl j false) H (λF H=>some (GF [0,1,2,3,4,17,18,19,46] F,H))=some (aGS k notes yv addv cl j++[(46,.lit (.bool false))],H):=by kernel_rfl
end
section
variable {l:Nat} {G0:Gd} {all:List (aL [.list N0])} {J Jx:List (aL [.list N0])->(Nat->Prop)->(Nat->Prop)->World->Prop}
def aP8(G0:Gd) (J Jx:List (aL [.list N0])->(Nat->Prop)->(Nat->Prop)->World->Prop) (pre:List (aL [.list N0])) (g:List (List (List Int))) (notes:Nat) (c:List (List Int)) (A:World) (G:Gd) (μ:Mp) (en:Ending) (A':World):Prop :=
 ∃ bb G' μ' H',en=.returned (.bool bb)/\Mono A G μ A' G' μ'/\(bb=true->∃ L',H'=hb L'/\Sg (J (pre++chE g)) G0 G' μ' H' A'/\L'.length=notes/\L'.take c.length=c)/\(bb=false->∃ q,Sg (Jx q) G0 G' μ' H' A')
set_option maxHeartbeats 4000000 in
theorem a8D(hY:∀ pre e post T X B T' X' A us Gx m',all=pre++e::post->J pre T X B->Stp X B A->(∀ b,T' b->(T b\/B.heap.size<=b)/\b<A.heap.size)->(∀ b,X' b->T' b/\(X b\/B.heap.size<=b)) ->
   (∀ b,Gx b->(G0 b\/T' b)/\¬ X' b)->VRs A (Gd.of Gx) aZ (MU [.list N0] e) us ->
   YieldAt Fence.wide m' Tryz.prog l us.toArray A λen C =>
    ((∀ b,b<A.heap.size->G0 b\/T' b->C.heap[b]?=A.heap[b]?)/\(∀ b n,Room A b n->Room C b n)/\A.heap.size<=C.heap.size)/\((en=.returned (.bool true)/\J (pre++[e]) T' X' C)\/(en=.returned (.bool false)/\Jx (pre++[e]) T' X' C)))
  {notes:Nat} {cl:List (List Int)} (hn:notes<=1048576) (hcl:cl.length<=1048576) {v1 v2 v3 v4 yv addv:Value} (hyv:yv=.func (.yield l) #[] #[]) (hadd:addv=.func (.func 90) #[] #[v1,v2,v3,v4]) :
  ∀ (r:Nat) (c:List (List Int)) (g:List (List (List Int))) (pre post:List (aL [.list N0])) (A:World) (G:Gd) (μ:Mp) (L:List (List Int)) (m:Nat) (vc:Value),c.length+r=notes->0<c.length->grow cl r c=some g->all=pre++chE g++post ->
   Sg (J pre) G0 G μ (hb L) A->L.length=notes->L.take c.length=c->VRs A G μ [.win 0 0 c.length 1,.iptr [.lit (.int .i64 notes)],.iptr [.lit yv],.iptr [uE N0 cl none],.iptr [.lit addv]] [vc,v1,v2,v3,v4] ->
   CallsIn Fence.wide m Tryz.prog 90 #[vc,v1,v2,v3,v4] A (aP8 G0 J Jx pre g notes c A G μ):=by
 have hcal:BM Tryz.prog (NM Tryz.prog aN0):=a5U.callee;have hP:=RZ.mixed;intro r
 induction r with
 | zero =>
  intro c g pre post A G μ L m vc hlen hc0 hgrow hall hS hL hLc hvs;simp only[grow,oJ]at hgrow;subst hgrow;obtain⟨k,hk⟩:∃ k,c.length=k:=⟨_,rfl⟩;rw[hk]at hvs hLc;refine callsIn_of_wp func90 a00 trivial ?_ rfl;have hF0:=U3 (m:=31) (n:=f90.ntmps) (vs:=#[vc,v1,v2,v3,v4]) hvs (by rw[a42]; show 5<=48; decide);rw[a42]at hF0 ⊢;have hF0:qJ A G μ 48 (aSA k notes yv addv cl) _:=hF0;rw[a01];refine wpIn_seq (VL hcal hP (a02 k notes yv addv cl L) hS hF0 ?_)
  intro G1 μ1 a1 A1 hS1 mo1 hF1;refine wpIn_seq (wpIn_seq (VL hcal hP (a0M k notes yv addv cl L) hS1 hF1 ?_));intro G2 μ2 a2 A2 hS2 mo2 hF2;have hc:=YP (t:=12) hF2 rfl;rw[bT,oT (by omega)]at hc;have hF2':qJ A2 G2 μ2 48 (aSA k notes yv addv cl) a2:=hF2.pick [0,1,2,3,4];refine wpIn_cond_true hc (wpIn_seq (aJH hcal hP (s:=3) (sl:=[0,1,2,3,4,13,15]) a7D (by rw[a4X,Nat.ble_eq_true_of_le (by omega)]; rfl) hS2 hF2' ?_))
  intro G3 μ3 a3 A3 hS3 mo3 hF3;rw[a8C];obtain⟨hS4,mo4⟩:=hS3.freeze (r:=1) (k:=⟨aP N0 (L.take k),39,true,false,some ⟨N0,L.take k⟩⟩) rfl rfl;obtain⟨n4,hW4,_,_⟩:=hS4.open_;have h15:VR A3 (G3.or λx=>μ3.loc 1=some x) aZ (uE N0 (L.take k) none) (a3.tmps.getD 15 undef):=by
   have hv:=VR.mono mo4 _ _ (hF3.slot 15);exact u7 hW4 (r:=1) (sz:=1) (k:=⟨aP N0 (L.take k),39,true,true,some ⟨N0,L.take k⟩⟩) hv rfl rfl (λb h=>h) (λb h=>.inr h)
  rw[hLc]at h15;have hall':all=pre++(c,())::post:=by rw[hall]; simp[chE]
  have hy:=λm'=>hS4.yield (us:=[a3.tmps.getD 15 undef]) hY hall' (by
   simp only[MU,KD];rw[VRs];exact⟨_,[],rfl,h15,by rw[VRs]⟩) rfl m'
  refine a4F a5C a5E (aRK a5Z) (by rw[<- hyv]; exact aTD (t:=13) hF3 rfl) (us:=[a3.tmps.getD 15 undef].toArray) (by rw[a5Q]; exact aQT a3 15) hy ?_;rintro en C ⟨moY,hout⟩;have hmono:Mono A G μ C (G3.or λx=>μ3.loc 1=some x) μ3:=(((mo1.trans mo2).trans mo3).trans mo4).trans moY;obtain⟨nT,hWT,_,_⟩:=hS.open_;have htop:∀ r,1<=r->μ.loc r=none/\μ.len r=none:=λr hr=>hWT.top r hr
  have key:∀ (b:Bool) {Ψ:(Nat->Prop)->(Nat->Prop)->World->Prop},Sg Ψ G0 (G3.or λx=>μ3.loc 1=some x) μ3 ((hb L++[some ⟨aP N0 (L.take k),39,true,false,some ⟨N0,L.take k⟩⟩]:Heap).set 1 (some ⟨aP N0 (L.take k),39,true,true,some ⟨N0,L.take k⟩⟩)) C ->
    (∀ G' μ' A',Sg Ψ G0 G' μ' (hb L) A'->Mono A G μ A' G' μ'->aP8 G0 J Jx pre [c] notes c A G μ (.returned (.bool b)) A') ->
    ∀ (Q:Exit->Act->World->Prop),(∀ a w,bodyPost Tryz.prog f90 (aP8 G0 J Jx pre [c] notes c A G μ) .ret a w->Q .ret a w) ->
    wpListIn Fence.wide m Tryz.prog (SY TV 2) (Exit.then (Code.ret.wpIn Fence.wide m Tryz.prog Q) Q) ((SY TV 2).toList.drop 4) (a3.put (VS TV 2 3).dst (.bool b)) C:=by
   intro b Ψ hSy hfin Q hQ;rw[a4P];have hF5:qJ C (G3.or λx=>μ3.loc 1=some x) μ3 48 [(16,.lit (.bool b))] (a3.put (some 16) (.bool b)):=((hF3.mono (mo4.trans moY)).pick []).cons (by decide) (by rw[VR]);refine aPT hcal (sl:=[6]) (a3C b _) a6T hSy hF5 ?_;intro G6 μ6 a6 A6 hS6 mo6 hF6;refine wpIn_ret ?_;have h6:=YP (t:=6) hF6 rfl;refine hQ _ _ ⟨hF6.defers,_,results_tmp a23 _ _ _,?_⟩;have e6:a6.tmps.getD 6 undef=.bool b:=h6
   rw[e6];exact hfin _ _ A6 (hS6.a8F (k:=⟨aP N0 L,39,true,false,some ⟨N0,L⟩⟩) rfl) (aZR (hmono.trans mo6) htop)
  rcases hout with ⟨rfl,hS5⟩|⟨rfl,hS5⟩
  ·refine⟨_,rfl,key true hS5 (λG' μ' A' hS' mo'=>⟨true,G',μ',hb L,rfl,mo',λ_=>⟨L,rfl,hS',hL,by rw[hk]; exact hLc⟩,λh=>by cases h⟩) _ λ_ _ h=>h⟩
  ·refine⟨_,rfl,key false hS5 (λG' μ' A' hS' mo'=>⟨false,G',μ',hb L,rfl,mo',λh=>(by cases h),λ_=>⟨_,hS'⟩⟩) _ λ_ _ h=>h⟩
 | succ r ih =>
  intro c g pre post A G μ L m vc hlen hc0 hgrow hall hS hL hLc hvs;obtain⟨k,hk⟩:∃ k,c.length=k:=⟨_,rfl⟩;rw[hk]at hvs hLc;simp only[grow]at hgrow;rw[hk]at hgrow;obtain⟨f,hf⟩:∃ f:List Int->Option (List (List (List Int))),f=λx=>aC (uW (x,c.getD (k-1) [],())) λy1=>bif ltI 0 y1.1 then aC (VK (cl,c,x,())) λy2=>bif y2.1 then grow cl r (c++[x]) else some [] else some []:=⟨_,rfl⟩
  rw[<- hf]at hgrow;refine callsIn_of_wp func90 a00 trivial ?_ rfl;have hF0:=U3 (m:=31) (n:=f90.ntmps) (vs:=#[vc,v1,v2,v3,v4]) hvs (by rw[a42]; show 5<=48; decide);rw[a42]at hF0 ⊢;have hF0:qJ A G μ 48 (aSA k notes yv addv cl) _:=hF0;rw[a01];refine wpIn_seq (VL hcal hP (a02 k notes yv addv cl L) hS hF0 ?_);intro G1 μ1 a1 A1 hS1 mo1 hF1;refine wpIn_seq (wpIn_seq (VL hcal hP (a0M k notes yv addv cl L) hS1 hF1 ?_))
  intro G2 μ2 a2 A2 hS2 mo2 hF2;have hc:=YP (t:=12) hF2 rfl;rw[bT,oF (by omega)]at hc;have hF2':qJ A2 G2 μ2 48 (aSA k notes yv addv cl) a2:=hF2.pick [0,1,2,3,4];refine wpIn_cond_false hc (wpIn_skip ?_);refine wpIn_seq (wpIn_seq (VL hcal hP (a4Y k notes yv addv cl L) hS2 hF2' ?_));intro G3 μ3 a3 A3 hS3 mo3 hF3;have mo03:=(mo1.trans mo2).trans mo3;refine wpIn_block (wpIn_loop_ghost (λn a B=>∃ j gd G' μ' L',j<=cl.length/\n=cl.length-j/\aB4 f (cl.take j)=some gd/\Sg (J (pre++chE gd)) G0 G' μ' (hb L') B/\Mono A G μ B G' μ'/\L'.length=notes/\L'.take k=c/\qJ B G' μ' 48 (aGS k notes yv addv cl j) a) cl.length
   ⟨0,[],G3,μ3,L,Nat.zero_le _,rfl,rfl,by simpa[chE]using hS3,mo03,hL,hLc,hF3⟩ ?_)
  rintro n a B ⟨j,gd,G4,μ4,L',hj,rfl,hgd,hS4,mo4,hL',hLc',hF4⟩;refine wpIn_seq (VL hcal hP (a4J k notes yv addv cl L' j) hS4 hF4 ?_);intro G5 μ5 a5 A5 hS5 mo5 hF5;have hc5:=YP (t:=20) hF5 rfl
  by_cases hlt:j<cl.length
  ·rw[aE,oT (by omega)]at hc5;refine wpIn_seq (wpIn_cond_true hc5 (wpIn_skip ?_));have hF5':qJ A5 G5 μ5 48 (aGS k notes yv addv cl j) a5:=hF5.pick [0,1,2,3,4,17,18,19];refine wpIn_seq (wpIn_block (wpIn_seq (VL hcal hP (sl:=[0,1,2,3,4,17,18,19,8]) (by rw[a5B,aG,oT (by omega)]; rfl) hS5 hF5' ?_)));intro G6 μ6 a6 A6 hS6 mo6 hF6;have hx:cl.getD (Int.toNat (j:Int)) []=cl[j]:=by simp[hlt]
   rw[hx]at hF6;obtain⟨gd',ga,gb,hg1,hg2,hg3,hg4⟩:=a29 hgrow hlt;rw[hgd]at hg1;cases hg1;have hfx:=hg2;rw[hf]at hfx;dsimp only at hfx;have hkk:aB .i64 ((k:Int)-1)=((k-1:Nat):Int):=by rw[wrap64 (by omega) (by omega)]; omega
   have hlast:L'.getD (0+(aB .i64 ((k:Int)-1)).toNat) []=c.getD (k-1) []:=by
    rw[hkk,oN,Nat.zero_add,<- hLc'];rw[oQ,oQ,List.getElem?_take,if_pos (by omega)]
   have hmo6:=(mo4.trans mo5).trans mo6;have hreg:=a5O k notes yv addv cl L' j cl[j];rw[hkk,aG,oT (by omega),oC,<- hkk,bE,oT (by rw[hkk,oN]; omega),oC,hlast,List.drop_zero,hLc']at hreg;cases hy1:uW (cl[j],c.getD (k-1) [],())with
   | none=>rw[hy1]at hfx; cases hfx
   | some y1 =>
   rw[hy1,aD]at hfx hreg
   -- what the rest of a round comes to
   have next:∀ (L2:List (List Int)) (G':Gd) (μ':Mp) (a':Act) (A':World),Sg (J (pre++chE (gd++ga))) G0 G' μ' (hb L2) A'->Mono A G μ A' G' μ'->L2.length=notes->L2.take k=c->qJ A' G' μ' 48 (aGS k notes yv addv cl j) a' ->
     (Code.region 8 (SY TV 8) false).wpIn Fence.wide m Tryz.prog (Exit.then (λa' w'=>∃ n',n'<cl.length-j/\∃ j gd G' μ' L',j<=cl.length/\n'=cl.length-j/\aB4 f (cl.take j)=some gd/\Sg (J (pre++chE gd)) G0 G' μ' (hb L') w'/\Mono A G μ w' G' μ'/\L'.length=notes/\L'.take k=c/\qJ w' G' μ' 48 (aGS k notes yv addv cl j) a')
      (Exit.inBlock 0 (Exit.then ((Code.seq (.region 9 (SY TV 9) false) .ret).wpIn Fence.wide m Tryz.prog (bodyPost Tryz.prog f90 (aP8 G0 J Jx pre g notes c A G μ))) (bodyPost Tryz.prog f90 (aP8 G0 J Jx pre g notes c A G μ))))) a' A':=by
    intro L2 G' μ' a' A' hS' mo' hl2 ht2 hF';refine VL hcal hP (a6J k notes yv addv cl L2 j) hS' hF' ?_;intro G9 μ9 a9 A9 hS9 mo9 hF9;rw[aT j (by omega)]at hF9;exact⟨cl.length-(j+1),by omega,j+1,gd++ga,G9,μ9,L2,hlt,rfl,hg3,hS9,mo'.trans mo9,hl2,ht2,hF9⟩
   cases hb1:ltI 0 y1.1 with
   | false =>
    rw[hb1,oD]at hfx hreg;simp only[oJ]at hfx;subst hfx;refine wpIn_seq (aJH hcal hP (s:=21) (sl:=[0,1,2,3,4,17,18,19,38,39,43]) aZV hreg hS6 hF6 ?_);intro G7 μ7 a7 A7 hS7 mo7 hF7;rw[a2T];refine a0Q (WV hF7 (a6X k notes yv addv cl j false)) ?_;rw[aSN];have hF8:qJ A7 G7 μ7 48 ((44,.lit undef)::aMQ k notes yv addv cl j false) (a7.put (some 44) undef):=hF7.cons (by decide) (by rw[VR]);refine aPT hcal (sl:=[0,1,2,3,4,17,18,19,46]) (aYC k notes yv addv cl j _) aW2 hS7 hF8 ?_
    intro G9 μ9 a9 A9 hS9 mo9 hF9;refine wpIn_cond_false (YP (t:=46) hF9 rfl) (wpIn_skip ?_);exact next L' G9 μ9 a9 A9 (by rw[List.append_nil]; exact hS9) ((hmo6.trans mo7).trans mo9) hL' hLc' (hF9.pick [0,1,2,3,4,17,18,19])
   | true =>
    rw[hb1,oC]at hfx hreg;cases hy2:VK (cl,c,cl[j],())with
    | none=>rw[hy2]at hfx; cases hfx
    | some y2 =>
    rw[hy2,aD]at hfx hreg;cases hb2:y2.1 with
    | false =>
     rw[hb2,oD]at hfx hreg;simp only[oJ]at hfx;subst hfx;refine wpIn_seq (aJH hcal hP (s:=21) (sl:=[0,1,2,3,4,17,18,19,38,39,43]) aZV hreg hS6 hF6 ?_);intro G7 μ7 a7 A7 hS7 mo7 hF7;rw[a2T];refine a0Q (WV hF7 (a6X k notes yv addv cl j false)) ?_;rw[aSN];have hF8:qJ A7 G7 μ7 48 ((44,.lit undef)::aMQ k notes yv addv cl j false) (a7.put (some 44) undef):=hF7.cons (by decide) (by rw[VR]);refine aPT hcal (sl:=[0,1,2,3,4,17,18,19,46]) (aYC k notes yv addv cl j _) aW2 hS7 hF8 ?_
     intro G9 μ9 a9 A9 hS9 mo9 hF9;refine wpIn_cond_false (YP (t:=46) hF9 rfl) (wpIn_skip ?_);exact next L' G9 μ9 a9 A9 (by rw[List.append_nil]; exact hS9) ((hmo6.trans mo7).trans mo9) hL' hLc' (hF9.pick [0,1,2,3,4,17,18,19])
    | true =>
     rw[hb2,oC]at hfx hreg;rw[bY,oT (by omega),oC]at hreg;refine wpIn_seq (aJH hcal hP (s:=21) (sl:=[0,1,2,3,4,17,18,19,38,39,43]) aZV hreg hS6 hF6 ?_);intro G7 μ7 a7 A7 hS7 mo7 hF7;rw[a2T];have hcl1:(c++[cl[j]]).length=k+1:=by rw[oH,hk]; rfl
     have hsl:(spl L' (0+k) [cl[j]]).length=notes:=by simp only[spl,oH,List.length_take,List.length_drop,List.length_cons,List.length_nil]; omega
     have hst:(spl L' (0+k) [cl[j]]).take (k+1)=c++[cl[j]]:=by
      simp only[spl,Nat.zero_add,List.length_cons,List.length_nil];rw[hLc',<- List.append_assoc,<- hcl1,List.take_left]
     have hall2:all=(pre++chE gd)++chE ga++(chE gb++post):=by rw[hall,hg4]; simp only[chE,List.map_append,List.append_assoc]
     have hvs7:VRs A7 G7 μ7 [.win 0 0 (k+1) 1,.iptr [.lit (.int .i64 notes)],.iptr [.lit yv],.iptr [uE N0 cl none],.iptr [.lit addv]] [a7.tmps.getD 43 undef,v1,v2,v3,v4]:=by
      have h1:=VRs.mono (hmo6.trans mo7) _ _ hvs;rw[VRs]at h1 ⊢;obtain⟨x0,xs0,e0,_,h3⟩:=h1;cases e0;exact⟨_,_,rfl,hF7.slot 43,h3⟩
     have hih:=λm'=>ih (c++[cl[j]]) ga (pre++chE gd) (chE gb++post) A7 G7 μ7 (spl L' (0+k) [cl[j]]) m' (a7.tmps.getD 43 undef) (by rw[hcl1]; omega) (by rw[hcl1]; omega) hfx hall2 hS7 hsl (by rw[hcl1]; exact hst) (by rw[hcl1]; exact hvs7)
     refine aX5 a5R a6K (WV hF7 (a6X k notes yv addv cl j true)) (by rw[aTD (t:=39) hF7 rfl,hadd]) (us:=#[a7.tmps.getD 43 undef,v1,v2,v3,v4]) (by rw[a5G,aQT]; rfl) (enters func90 (by kernel_rfl) (by kernel_rfl) _ _) hih ?_;rintro en C ⟨bb,G',μ',H',rfl,moC,ht,hff⟩;cases bb with
     | true =>
      obtain⟨L3,rfl,hS8,hl3,ht3⟩:=ht rfl;refine⟨_,rfl,?_⟩;rw[aSN];have hF8:qJ C G' μ' 48 ((44,.lit (.bool true))::aMQ k notes yv addv cl j true) (a7.put (some 44) (.bool true)):=(hF7.mono moC).cons (by decide) (by rw[VR]);refine aPT hcal (sl:=[0,1,2,3,4,17,18,19,46]) (a2V k notes yv addv cl j _) aW2 hS8 hF8 ?_;intro G9 μ9 a9 A9 hS9 mo9 hF9;refine wpIn_cond_false (YP (t:=46) hF9 rfl) (wpIn_skip ?_)
      have ht4:L3.take k=c:=by
       have:=oZ (List.take k) ht3;rw[List.take_take,hcl1,Nat.min_eq_left (by omega)]at this;rw[this,<- hk,List.take_left]
      exact next L3 G9 μ9 a9 A9 (by rw[chE,List.map_append,<- List.append_assoc]; exact hS9) (((hmo6.trans mo7).trans moC).trans mo9) hl3 ht4 (hF9.pick [0,1,2,3,4,17,18,19])
     | false =>
      obtain⟨q,hS8⟩:=hff rfl;refine⟨_,rfl,?_⟩;rw[aSN];have hF8:qJ C G' μ' 48 ((44,.lit (.bool false))::aMQ k notes yv addv cl j true) (a7.put (some 44) (.bool false)):=(hF7.mono moC).cons (by decide) (by rw[VR]);refine aPT hcal (sl:=[46]) (a2N k notes yv addv cl j _) aW2 hS8 hF8 ?_;intro G9 μ9 a9 A9 hS9 mo9 hF9;refine wpIn_cond_true (YP (t:=46) hF9 rfl) ?_;have hF9':qJ A9 G9 μ9 48 [] a9:=hF9.pick []
      refine wpIn_seq (VL hcal hP (a6D H') hS9 hF9' ?_);intro G10 μ10 a10 A10 hS10 mo10 hF10;refine wpIn_ret ?_;have h6:a10.tmps.getD 6 undef=.bool false:=YP (t:=6) hF10 rfl;refine⟨hF10.defers,_,results_tmp a23 _ _ _,?_⟩;rw[h6];exact⟨false,G10,μ10,H',rfl,(((hmo6.trans mo7).trans moC).trans mo9).trans mo10,λh=>(by cases h),λ_=>⟨q,hS10⟩⟩
  ·rw[aE,oF (by omega)]at hc5;refine wpIn_seq (wpIn_cond_false hc5 (wpIn_exit ?_));have hje:j=cl.length:=by omega
   subst hje;rw[List.take_length,hgrow]at hgd;cases hgd;have hF5':qJ A5 G5 μ5 48 [] a5:=hF5.pick [];refine wpIn_seq (VL hcal hP (a5D (hb L')) hS5 hF5' ?_);intro G9 μ9 a9 A9 hS9 mo9 hF9;refine wpIn_ret ⟨hF9.defers,_,results_tmp a23 _ _ _,?_⟩;have h6:a9.tmps.getD 6 undef=.bool true:=YP (t:=6) hF9 rfl;rw[h6];exact⟨true,G9,μ9,hb L',rfl,(mo4.trans mo5).trans mo9,λ_=>⟨L',rfl,hS9,hL',by rw[hk]; exact hLc'⟩,λh=>by cases h⟩
end
abbrev E0:Env:=aCN []
theorem a8H:OK Tryz.prog E0:=RU trivial
def aJ6:Code:=R5 f89
theorem a5L:aJ6=.seq (.region 0 (SY aJ6 0) false) (.seq (.region 1 (SY aJ6 1) false) (.seq (.region 2 (SY aJ6 2) false) (.region 3 (SY aJ6 3) true))):=by kernel_rfl
def aPY(notes col:Int)(cl:List (List Int)):Frm:=[(1,.iptr [.lit (.int .i64 notes)]),(2,.iptr [uE N0 cl none]),(3,.iptr [.lit (.int .i64 col)])]
def a0G(notes:Int)(cl:List (List Int)):PV:=.clo (.func 90) [] [.iptr [.lit (.int .i64 notes)],.hptr 0 0,.iptr [uE N0 cl none],.hptr 1 0]
section
variable (notes col:Int) (cl:List (List Int)) (yv addv:Value)
theorem a4Z(l:Nat):TR Tryz.prog E0 15 (SY aJ6 0) false ((0,.lit (.func (.yield l) #[] #[]))::aPY notes col cl) [] (λF H=>some (GF [1,2,3,4] F,H))=some (aPY notes col cl++[(4,.hptr 0 0)],[some ⟨[.lit (.func (.yield l) #[] #[])],131,false,false,none⟩]):=by kernel_rfl
theorem a4U:TR Tryz.prog E0 15 (SY aJ6 1) false (aPY notes col cl++[(4,.hptr 0 0)]) [some ⟨[.lit yv],131,false,false,none⟩] (λF H=>some (GF [1,2,3,4,5] F,H))=some (aPY notes col cl++[(4,.hptr 0 0),(5,.hptr 1 0)],[some ⟨[.lit yv],131,false,false,none⟩,some ⟨[.lit .nilFunc],131,false,false,none⟩]):=by kernel_rfl
theorem a5A:TR Tryz.prog E0 15 (SY aJ6 2) false (aPY notes col cl++[(4,.hptr 0 0),(5,.hptr 1 0)]) [some ⟨[.lit yv],131,false,false,none⟩,some ⟨[.lit .nilFunc],131,false,false,none⟩] (λF H=>some (GF [1,2,3,4,5] F,H))=some (aPY notes col cl++[(4,.hptr 0 0),(5,.hptr 1 0)],[some ⟨[.lit yv],131,false,false,none⟩,some ⟨[a0G notes cl],131,false,false,none⟩]):=by kernel_rfl
theorem a4Q:TR Tryz.prog E0 15 ((SY aJ6 3).toList.take 7).toArray true (aPY notes col cl++[(5,.iptr [.lit addv])]) [] (λF H=>some (GF [7,13] F,H)) =
  bif !(ltI notes 0) then bif !(ltI 1048576 notes) then bif !(ltI col 0) then bif !(ltI col col) then bif !(ltI 1048576 col) then bif Nat.ble (0+0+1) (List.replicate notes.toNat ([]:List Int)).length then
   some ([(7,.lit addv),(13,.win 0 0 1 1)],hb (spl (List.replicate notes.toNat []) (0+0) [List.replicate col.toNat 0])) else none else none else none else none else none else none:=by kernel_rfl
end
theorem a71:(SY aJ6 3).toList.drop 7=[VS aJ6 3 7]:=by kernel_rfl
theorem a6U:aKI (SY aJ6 3) 7=true:=by kernel_rfl
theorem a7P:(VS aJ6 3 7).op=.call (aKA (VS aJ6 3 7)):=by kernel_rfl
theorem a7X:(aKA (VS aJ6 3 7)).callee=.value (.tmp 7):=by kernel_rfl
theorem a7N:(aKA (VS aJ6 3 7)).args=#[.tmp 13]:=by kernel_rfl
theorem a7M:(VS aJ6 3 7).guard=none:=by kernel_rfl
theorem a7I:(VS aJ6 3 7).dst=some 14:=by kernel_rfl
theorem a6H:f89.body=some aJ6:=by kernel_rfl
theorem a7Q:f89.ntmps=15:=by kernel_rfl
theorem a7L:f89.results=#[]:=by kernel_rfl
def aX1(x:LP [.int .i64,.list (.list (.int .i64)),.int .i64]):Option (List (aL [.list (.list (.int .i64))])):=match x with
 | (notes,cl,col,())=>bif ltI 0 notes&&!ltI 1048576 notes&&!ltI col 0&&!ltI 1048576 col&&Nat.ble cl.length 1048576 then (match grow cl (notes.toNat-1) [List.replicate col.toNat 0]with
  | some g=>some (chE g)
  | none=>none) else none
set_option maxHeartbeats 2000000 in
theorem a62:aZS Tryz.prog 89 [.int .i64,.list (.list (.int .i64)),.int .i64] [.list (.list (.int .i64))] aX1:=by
 rintro⟨notes,cl,col,⟨⟩⟩ all hall m l W G vs hlt hvs J Jx hY hJ;unfold aX1 at hall;dsimp only at hall;obtain⟨hcond,hall⟩:=cC hall;simp only[oA,Bool.not_eq_true',aE,decide_eq_true_eq,decide_eq_false_iff_not]at hcond;obtain⟨⟨⟨⟨c1,c2⟩,c3⟩,c4⟩,c5⟩:=hcond;have c5:=oL c5;obtain⟨g,hg⟩:∃ g,grow cl (notes.toNat-1) [List.replicate col.toNat 0]=some g:=by
  cases h:grow cl (notes.toNat-1) [List.replicate col.toNat 0]with
  | none=>rw[h]at hall; cases hall
  | some g=>exact⟨g,rfl⟩
 rw[hg]at hall;simp only[oJ]at hall;subst hall;obtain⟨nn,hnn⟩:=Int.eq_ofNat_of_zero_le (a:=notes) (Int.le_of_lt c1);subst hnn;rw[oN]at hg;have hcal:BM Tryz.prog (NM Tryz.prog E0):=a8H.callee;have hP:=RZ.mixed;refine callsIn_of_wp func89 a6H trivial ?_ rfl;have hargs:VRs W (Gd.of G) aZ [.lit (.func (.yield l) #[] #[]),.iptr [.lit (.int .i64 nn)],.iptr [uE N0 cl none],.iptr [.lit (.int .i64 col)]] ((#[.func (.yield l) #[] #[]]:Array Value)++vs.toArray).toList:=by
  simp only[LX]at hvs;simp only[Array.toList_append,List.cons_append,List.nil_append];rw[VRs];exact⟨_,vs,rfl,by rw[VR],hvs⟩
 have hF0:=U3 (m:=15) (n:=f89.ntmps) hargs (by rw[a7Q]; show 4<=15; decide);rw[a7Q]at hF0 ⊢;have hF0:qJ W (Gd.of G) aZ 15 ((0,.lit (.func (.yield l) #[] #[]))::aPY nn col cl) _:=hF0;have hS0:Sg (J []) (Gd.of G) (Gd.of G) aZ [] W:=Sg.start hlt hJ;rw[a5L];refine wpIn_seq (VL hcal hP (a4Z nn col cl l) hS0 hF0 ?_);intro G1 μ1 a1 A1 hS1 _ hF1;refine wpIn_seq (VL hcal hP (a4U nn col cl (.func (.yield l) #[] #[])) hS1 hF1 ?_)
 intro G2 μ2 a2 A2 hS2 _ hF2;refine wpIn_seq (VL hcal hP (a5A nn col cl (.func (.yield l) #[] #[])) hS2 hF2 ?_);intro G3 μ3 a3 A3 hS3 _ hF3
 -- the two variables are data from now on
 obtain⟨hS4,mo4⟩:=hS3.freeze (r:=0) (k:=⟨[.lit (.func (.yield l) #[] #[])],131,false,false,none⟩) rfl rfl;obtain⟨hS5,mo5⟩:=hS4.freeze (r:=1) (k:=⟨[a0G nn cl],131,false,false,none⟩) rfl rfl;obtain⟨G5,hG5⟩:∃ G5:Gd,G5=(G3.or λx=>μ3.loc 0=some x).or λx=>μ3.loc 1=some x:=⟨_,rfl⟩
 rw[<- hG5]at hS5 mo5;have hF5:qJ A3 G5 μ3 15 (aPY nn col cl++[(4,.hptr 0 0),(5,.hptr 1 0)]) a3:=hF3.mono (mo4.trans mo5);obtain⟨n5,hW5,_,_⟩:=hS5.open_;have s5:=hF5.slot 5;have s5:VR A3 G5 μ3 (.hptr 1 0) (a3.tmps.getD 5 undef):=s5;rw[VR]at s5;obtain⟨b1,hb1,hp1⟩:=s5;obtain⟨_,_,q1,_,q2,_⟩:=hW5.blk 1 ⟨[a0G nn cl],131,false,true,none⟩ b1 rfl hb1;have hGb1:=q2 rfl;rw[aK]at q1;obtain⟨⟨addv,hcell,hclo⟩,_⟩:=q1
 unfold a0G at hclo;rw[VR]at hclo;obtain⟨fs,cs,hadd,hfs,hcs⟩:=hclo;have hfs:fs=#[]:=by
  rw[VRs]at hfs;apply Array.ext'; simpa using hfs
 subst hfs;rw[VRs]at hcs;obtain⟨v1,cs1,e1,hv1,hcs⟩:=hcs;rw[VRs]at hcs;obtain⟨v2,cs2,rfl,hv2,hcs⟩:=hcs;rw[VRs]at hcs;obtain⟨v3,cs3,rfl,hv3,hcs⟩:=hcs;rw[VRs]at hcs;obtain⟨v4,cs4,rfl,hv4,hcs⟩:=hcs;rw[VRs]at hcs;subst hcs;have hcsA:cs=#[v1,v2,v3,v4]:=by apply Array.ext'; simpa using e1
 subst hcsA;have hbox:∀ {u:Value},u=.pointer (some ⟨b1,μ3.sh 1+0,none⟩)->VR A3 G5 aZ (.iptr [.lit addv]) u:=by
  rintro u rfl;rw[VR];refine⟨b1,μ3.sh 1+0,rfl,hGb1,?_⟩;rw[aK];exact⟨⟨addv,by rw[Nat.add_zero]; exact hcell,by rw[VR]⟩,by rw[aK]; trivial⟩
 have hv2':VR A3 G5 aZ (.iptr [.lit (.func (.yield l) #[] #[])]) v2:=by
  rw[VR]at hv2;obtain⟨b0,hb0,rfl⟩:=hv2;obtain⟨_,_,q3,_,q4,_⟩:=hW5.blk 0 ⟨[.lit (.func (.yield l) #[] #[])],131,false,true,none⟩ b0 rfl hb0;rw[VR];refine⟨b0,μ3.sh 0+0,rfl,q4 rfl,?_⟩;rw[Nat.add_zero];rw[aK]at q3 ⊢;obtain⟨⟨u,hu1,hu2⟩,_⟩:=q3;rw[VR]at hu2;exact⟨⟨u,hu1,by rw[VR]; exact hu2⟩,by rw[aK]; trivial⟩
 have hv4':VR A3 G5 aZ (.iptr [.lit addv]) v4:=by
  rw[VR]at hv4;obtain⟨b4,hb4,rfl⟩:=hv4;rw[hb1]at hb4;cases hb4;exact hbox rfl
 have hS6:Sg (J []) (Gd.of G) G5 aZ [] A3:=hS5.renamed λn0 hW=>⟨λr k b h=>by simp at h,λr k g h=>by simp at h,λr s k l b h=>by simp at h,hW.lt,λ_ _=>⟨rfl,rfl⟩,hW.base,hW.rows.rel (λ_ _=>False) (λ_ _ _ h=>h.elim) (λr k' hr=>by simp at hr)⟩
 have hF6:qJ A3 G5 aZ 15 (aPY nn col cl++[(5,.iptr [.lit addv])]) a3:=by
  refine⟨hF5.size,λt=>?_,hF5.defers⟩
  by_cases h5:t=5
  ·subst h5; exact hbox hp1
  ·have:=hF5.slot t;have e:iL (aPY nn col cl++[(5,.iptr [.lit addv])]) t=iL (aPY nn col cl) t:=by
    by_cases h1:t=1
    ·subst h1; rfl
    ·by_cases h2:t=2
     ·subst h2; rfl
     ·by_cases h3:t=3
      ·subst h3; rfl
      ·simp only[aPY,List.cons_append,List.nil_append];rw[uD,if_neg h1,uD,if_neg h2,uD,if_neg h3,uD,if_neg h5];rw[uD,if_neg h1,uD,if_neg h2,uD,if_neg h3]
   rw[e]
   by_cases h1:t=1
   ·subst h1; exact F5 (.iptr [.lit (.int .i64 nn)]) _ rfl this
   ·by_cases h2:t=2
    ·subst h2; exact F5 (.iptr [uE N0 cl none]) _ rfl this
    ·by_cases h3:t=3
     ·subst h3; exact F5 (.iptr [.lit (.int .i64 col)]) _ rfl this
     ·simp only[aPY];rw[uD,if_neg h1,uD,if_neg h2,uD,if_neg h3];simp only[iL];rw[VR]; trivial
 refine aJH hcal hP (s:=7) (sl:=[7,13]) a6U (by
  rw[a4Q];simp only[aE,bY];rw[oF (by omega),oF (by omega),oF (by omega),oF (by omega),oF (by omega),oT (by rw[List.length_replicate]; omega)];rfl) hS6 hF6 ?_
 intro G7 μ7 a7 A7 hS7 mo7 hF7;rw[a71];have hS7:Sg (J []) (Gd.of G) G7 μ7 (hb (spl (List.replicate nn []) 0 [List.replicate col.toNat 0])) A7:=by
  have:=hS7;rwa[oN]at this
 have hvs7:VRs A7 G7 μ7 [.win 0 0 1 1,.iptr [.lit (.int .i64 nn)],.iptr [.lit (.func (.yield l) #[] #[])],.iptr [uE N0 cl none],.iptr [.lit addv]] [a7.tmps.getD 13 undef,v1,v2,v3,v4]:=by
  have m7:Mono A3 G5 aZ A7 G7 μ7:=mo7;rw[VRs]; refine⟨_,_,rfl,hF7.slot 13,?_⟩;rw[VRs]; refine⟨_,_,rfl,VR.mono m7 _ _ (F5 _ _ rfl hv1),?_⟩;rw[VRs]; refine⟨_,_,rfl,VR.mono m7 _ _ hv2',?_⟩;rw[VRs]; refine⟨_,_,rfl,VR.mono m7 _ _ (F5 _ _ rfl hv3),?_⟩;rw[VRs]; refine⟨_,_,rfl,VR.mono m7 _ _ hv4',?_⟩;rw[VRs]
 have hcall:=λm'=>a8D hY (notes:=nn) (cl:=cl) (by omega) c5 (v1:=v1) (v2:=v2) (v3:=v3) (v4:=v4) rfl hadd (nn-1) [List.replicate col.toNat 0] g [] [] A7 G7 μ7 (spl (List.replicate nn []) 0 [List.replicate col.toNat 0]) m' (a7.tmps.getD 13 undef)
  (by simp only[List.length_cons,List.length_nil]; omega) (by simp) hg (by simp) hS7 (by simp only[spl,oH,List.length_take,List.length_drop,List.length_replicate,List.length_cons,List.length_nil]; omega) (by simp[spl]) hvs7
 refine aX5 a7P a7X (aRK a7M) (by rw[aTD (t:=7) hF7 rfl,hadd]) (us:=#[a7.tmps.getD 13 undef,v1,v2,v3,v4]) (by rw[a7N,aQT]; rfl) (enters func90 (by kernel_rfl) (by kernel_rfl) _ _) hcall ?_;rintro en C ⟨bb,G',μ',H',rfl,moC,ht,hff⟩;refine⟨_,rfl,?_⟩;have hd:(a7.put (VS aJ6 3 7).dst (.bool bb)).defers=[]:=by rw[a7I]; exact hF7.defers
 have hr:∀ tmps,(results f89 tmps).run Tryz.prog C=.ok (.tuple #[]) C:=λtmps=>by simp[results,a7L]
 cases bb with
 | true =>
  obtain⟨L',rfl,hS8,_,_⟩:=ht rfl;obtain⟨T,X,B,hst,hj⟩:=hS8.stp;rw[List.nil_append]at hj;exact⟨hd,_,hr _,⟨_,rfl⟩,T,X,B,hst,.inl hj⟩
 | false =>
  obtain⟨q,hS8⟩:=hff rfl;obtain⟨T,X,B,hst,hj⟩:=hS8.stp;exact⟨hd,_,hr _,⟨_,rfl⟩,T,X,B,hst,.inr ⟨q,hj⟩⟩
set_option maxHeartbeats 4000000
abbrev SN:List (Nat×Kd):=[(6,.bown 60 50 TyC),(7,.box 35 TyE),(10,.bown 60 50 TyC),(30,.clo 89 [TyE,TyC,TyE])]
abbrev TU:List (Ex×List (Nat×Kd)):=[(.normal,[(6,.bown 60 50 TyC),(7,.box 35 TyE),(10,.bown 60 50 TyC)]),(.ret,[(6,.bown 60 50 TyC),(7,.box 35 TyE)])]
def aCT(x:Shape.den SN)(e:aL [.list TyD]):Option (Shape.den SN⊕fR TU):=match x,e with
 | (v6,v7,v10,v30,()),(e0,()) =>
  bif eqI (v10.length:Int) 5000 then
   some (.inr (.inr (([],4,()))))
  else aC (aA4 (e0,())) λy3 =>
  bif Nat.ble [y3.1].length 1048576 then bif Nat.ble v10.length 1048576 then some (.inl (v6,v7,(v10++[y3.1]),(v30.1,v30.2.1,v30.2.2.1,()),())) else none else none
def aD9(x:Shape.den SN):LP [TyE,TyC,TyE]:=match x with
 | (v6,v7,v10,v30,())=>(v30.1,v30.2.1,v30.2.2.1,())
def YS(x:Shape.den SN):Option (fR TU):=a1X SN TU (λx=>aX1 (aD9 x)) aCT x
def ZZ(x:aL [.int .i64,.list TyD,.int .i64]):Option (aL [.list TyC,.int .i64]):=match x with
 | (v0,v1,v2,()) =>
  aC (jS (v0,v1,())) λy1 =>
  bif !(eqI y1.2.1 0) then
   some ([],y1.2.1,())
  else bif ltI v2 1 then
   some ([],3,())
  else bif ltI 6 v2 then
   some ([],3,())
  else aC (ZY (v0,y1.1,v2,())) λy2 =>
  aC (YS ([],0,[],(y2.1.1,y2.1.2.1,y2.1.2.2.1,()),())) λz4 =>
  iB z4 (λa5=>some (a5.2.2.1,0,())) λb6 =>
  some (b6.1,b6.2.1,())
def Z3:Code:=R5 f22
abbrev aDD:Env:=aCN [aB3,aA6,aC4]
theorem aFO:OK Tryz.prog aDD:=RU ⟨ZI,aCW,aFK,trivial⟩
def R6:Code:=aXX Z3 0
def aOW:Code:=inLoop R6
def aB8(id:Nat):Option C8:=none
def aCE(id:Nat):Option C8:=bif Nat.beq id 9 then some ⟨SN,TU,YS⟩ else none
theorem aKW:R0 aOW=9:=by kernel_rfl
theorem aCR:R6=.rangeFunc (aQA R6) (aWU R6) (aAV R6) (inLoop R6):=by kernel_rfl
theorem aKP:∀ y e,aQ9 Tryz.prog aDD 41 (aMS f22) aB8 aCE (aWU R6).toList (aAV R6) (inLoop R6) [.list TyD] SN TU y e=aCT y e:=by
 rintro⟨v6,v7,v10,v30,⟨⟩⟩ ⟨e0,⟨⟩⟩
 kernel_rfl
theorem aM6:∀ x,aX9 89 [TyE,TyC,TyE] SN (aQA R6) x=some (aD9 x):=by
 rintro⟨v6,v7,v10,v30,⟨⟩⟩
 kernel_rfl
theorem aLO:aJD Tryz.prog 41 false [] R6 ⟨SN,TU,YS⟩:=aRG aFO RZ aCR func89 (c:=R5 f89) (by kernel_rfl) a62 (by kernel_rfl) (aHZ (l:=[]) (by kernel_rfl) trivial) aM6 aKP
theorem aMA:TY Z3=[R6]:=by kernel_rfl
theorem aNO:∀ x,a4G Tryz.prog aDD f22 (aMS f22) aB8 aCE Z3 [.int .i64,.list TyD,.int .i64] [.list TyC,.int .i64] x=ZZ x:=by
 rintro⟨v0,v1,v2,⟨⟩⟩
 kernel_rfl
abbrev aI9:Ent:=⟨22,_,_,ZZ⟩
theorem aNP:Ent.OK Tryz.prog aI9:=a0I RZ aFO func22 (c:=Z3) (by kernel_rfl) (keep:=aMS f22) (lt:=aB8) (rt:=aCE) (aHZ aMA ⟨aOH aCR aKW rfl aLO,trivial⟩) aNO
def WL(x:aL [.list TyE,.ptr TyC,.ptr TyC]):Option (aL [.bool]):=match x with
 | (v0,v1,v2,()) =>
  aC (VK (v1,v2,v0,())) λy1 =>
  some (y1.1,())
abbrev aB0:Ent:=⟨59,_,_,WL⟩
theorem aAT:Ent.OK Tryz.prog aB0:=oI (RU (oV aFP oW)) func59 (by kernel_rfl) (by rintro⟨v0,v1,v2,⟨⟩⟩; kernel_rfl)
abbrev TA:List (Nat×Kd):=[(0,.list TyD),(1,.clo 59 [TyC,TyC]),(7,.int .i64),(8,.int .i64)]
abbrev UW:List (Ex×List (Nat×Kd)):=[(.ret,[(4,.int .i64)]),(.exit 0,[])]
def Y9(x:Shape.den TA):Option (Shape.den TA⊕fR UW):=match x with
 | (v0,v1,v7,v8,()) =>
  bif ltI v8 v7 then
   bif aF v8 v0.length then aC (WL ((v0.getD v8.toNat []),v1.1,v1.2.1,())) λy2 =>
   bif y2.1 then
    some (.inr (.inl (v8,())))
   else some (.inl (v0,(v1.1,v1.2.1,()),v7,(aB .i64 (v8+1)),())) else none
  else some (.inr (.inr ((()))))
def T9(x:Shape.den TA):Option (fR UW):=aO Y9 (2^64) x
def VX(x:aL [.list TyD,.clo 59 [TyC,TyC]]):Option (aL [.int .i64]):=match x with
 | (v0,v1,()) =>
  aC (T9 (v0,(v1.1,v1.2.1,()),(v0.length:Int),0,())) λz3 =>
  iB z3 (λa4=>some (a4.1,())) λb5 =>
  some ((-1),())
abbrev aA8:Ent:=⟨92,_,_,VX⟩
theorem Z6:Ent.OK Tryz.prog aA8:=oU (RU (oV aAT oW)) func92 2 (lp:=T9) rfl (by kernel_rfl) (by rintro⟨v0,v1,v7,v8,⟨⟩⟩; kernel_rfl) (by rintro⟨v0,v1,⟨⟩⟩; kernel_rfl)
def US(x:aL [.list TyD,.clo 59 [TyC,TyC]]):Option (aL [.bool]):=match x with
 | (v0,v1,()) =>
  aC (VX (v0,(v1.1,v1.2.1,()),())) λy1 =>
  some (!(ltI y1.1 0),())
abbrev UZ:Ent:=⟨58,_,_,US⟩
theorem Y2:Ent.OK Tryz.prog UZ:=oI (RU (oV Z6 oW)) func58 (by kernel_rfl) (by rintro⟨v0,v1,⟨⟩⟩; kernel_rfl)
abbrev R8:List (Nat×Kd):=[(0,.int .i64),(4,.bown 60 50 TyC),(5,.box 35 TyE),(6,.box 25 TyC),(22,.clo 89 [TyE,TyC,TyE])]
abbrev S7:List (Ex×List (Nat×Kd)):=[(.normal,[(0,.int .i64),(4,.bown 60 50 TyC),(5,.box 35 TyE),(6,.box 25 TyC)]),(.ret,[(4,.bown 60 50 TyC),(5,.box 35 TyE)])]
def aAQ(x:Shape.den R8)(e:aL [.list TyD]):Option (Shape.den R8⊕fR S7):=match x,e with
 | (v0,v4,v5,v6,v22,()),(e0,()) =>
  some (.inr (.inr (([],4,()))))
def aBJ(x:Shape.den R8):LP [TyE,TyC,TyE]:=match x with
 | (v0,v4,v5,v6,v22,())=>(v22.1,v22.2.1,v22.2.2.1,())
def W5(x:Shape.den R8):Option (fR S7):=a1X R8 S7 (λx=>aX1 (aBJ x)) aAQ x
abbrev R9:List (Nat×Kd):=[(0,.int .i64),(4,.bown 60 50 TyC),(5,.box 35 TyE),(6,.box 25 TyC),(8,.bown 60 50 TyC),(9,.int .i64),(31,.clo 89 [TyE,TyC,TyE])]
abbrev S6:List (Ex×List (Nat×Kd)):=[(.normal,[(0,.int .i64),(4,.bown 60 50 TyC),(5,.box 35 TyE),(6,.box 25 TyC),(8,.bown 60 50 TyC),(9,.int .i64)]),(.ret,[(4,.bown 60 50 TyC),(5,.box 35 TyE)])]
def aAW(x:Shape.den R9)(e:aL [.list TyD]):Option (Shape.den R9⊕fR S6):=match x,e with
 | (v0,v4,v5,v6,v8,v9,v31,()),(e0,()) =>
  aC (US (v6,(v6,e0,()),())) λy7 =>
  bif y7.1 then
   some (.inl (v0,v4,v5,v6,v8,v9,(v31.1,v31.2.1,v31.2.2.1,()),()))
  else bif eqI (v8.length:Int) 5000 then
   some (.inr (.inr (([],4,()))))
  else aC (aA4 (e0,())) λy8 =>
  bif Nat.ble [y8.1].length 1048576 then bif Nat.ble v8.length 1048576 then some (.inl (v0,v4,v5,v6,(v8++[y8.1]),v9,(v31.1,v31.2.1,v31.2.2.1,()),())) else none else none
def aBB(x:Shape.den R9):LP [TyE,TyC,TyE]:=match x with
 | (v0,v4,v5,v6,v8,v9,v31,())=>(v31.1,v31.2.1,v31.2.2.1,())
def W7(x:Shape.den R9):Option (fR S6):=a1X R9 S6 (λx=>aX1 (aBB x)) aAW x
abbrev S8:List (Nat×Kd):=[(0,.int .i64),(4,.bown 60 50 TyC),(5,.box 35 TyE),(6,.box 25 TyC),(8,.bown 60 50 TyC),(9,.int .i64)]
abbrev TT:List (Ex×List (Nat×Kd)):=[(.ret,[(4,.bown 60 50 TyC),(5,.box 35 TyE)]),(.exit 2,[(4,.bown 60 50 TyC),(5,.box 35 TyE),(8,.bown 60 50 TyC)])]
def aA1(x:Shape.den S8):Option (Shape.den S8⊕fR TT):=match x with
 | (v0,v4,v5,v6,v8,v9,()) =>
  bif !(ltI 6 v9) then
   aC (ZY (v0,v6,v9,())) λy12 =>
   aC (W7 (v0,v4,v5,v6,v8,v9,(y12.1.1,y12.1.2.1,y12.1.2.2.1,()),())) λz13 =>
   iB z13 (λa14=>some (.inl (a14.1,a14.2.1,a14.2.2.1,a14.2.2.2.1,a14.2.2.2.2.1,(aB .i64 (a14.2.2.2.2.2.1+1)),()))) λb15 =>
   some (.inr (.inl (b15.1,b15.2.1,())))
  else some (.inr (.inr ((v4,v5,v8,()))))
def WM(x:Shape.den S8):Option (fR TT):=aO aA1 (2^64) x
def aAN(x:aL [.int .i64,.list TyD]):Option (aL [.list TyC,.int .i64]):=match x with
 | (v0,v1,()) =>
  aC (jS (v0,v1,())) λy1 =>
  bif !(eqI y1.2.1 0) then
   some ([],y1.2.1,())
  else aC (ZY (v0,y1.1,7,())) λy2 =>
  aC (W5 (v0,[],0,y1.1,(y2.1.1,y2.1.2.1,y2.1.2.2.1,()),())) λz3 =>
  iB z3 (λa4=>aC (WM (a4.1,a4.2.1,a4.2.2.1,a4.2.2.2.1,[],1,())) λz16 =>
   iB z16 (λa17=>some (a17.1,a17.2.1,())) λb18 =>
   some (b18.2.2.1,0,())) λb5 =>
  some (b5.1,b5.2.1,())
def U7:Code:=R5 f23
abbrev VA:Env:=aCN [aB3,aA6,aC4,UZ]
theorem VE:OK Tryz.prog VA:=RU ⟨ZI,aCW,aFK,Y2,trivial⟩
def R2:Code:=aXX U7 0
def aLX:Code:=inLoop R2
def T3:Code:=inLoop (aXX U7 1)
def R1:Code:=aXX T3 0
def aLW:Code:=inLoop R1
def UP(id:Nat):Option C8:=bif Nat.beq id 8 then some ⟨S8,TT,WM⟩ else none
def UL(id:Nat):Option C8:=bif Nat.beq id 5 then some ⟨R8,S7,W5⟩ else bif Nat.beq id 12 then some ⟨R9,S6,W7⟩ else none
theorem aHC:R0 aLX=5:=by kernel_rfl
theorem aAY:R2=.rangeFunc (aQA R2) (aWU R2) (aAV R2) (inLoop R2):=by kernel_rfl
theorem aHO:∀ y e,aQ9 Tryz.prog VA 45 (aMS f23) UP UL (aWU R2).toList (aAV R2) (inLoop R2) [.list TyD] R8 S7 y e=aAQ y e:=by
 rintro⟨v0,v4,v5,v6,v22,⟨⟩⟩ ⟨e0,⟨⟩⟩
 kernel_rfl
theorem aJB:∀ x,aX9 89 [TyE,TyC,TyE] R8 (aQA R2) x=some (aBJ x):=by
 rintro⟨v0,v4,v5,v6,v22,⟨⟩⟩
 kernel_rfl
theorem aIZ:aJD Tryz.prog 45 false [] R2 ⟨R8,S7,W5⟩:=aRG VE RZ aAY func89 (c:=R5 f89) (by kernel_rfl) a62 (by kernel_rfl) (aHZ (l:=[]) (by kernel_rfl) trivial) aJB aHO
theorem aHM:R0 aLW=12:=by kernel_rfl
theorem aAX:R1=.rangeFunc (aQA R1) (aWU R1) (aAV R1) (inLoop R1):=by kernel_rfl
theorem aHA:∀ y e,aQ9 Tryz.prog VA 45 (aMS f23) UP UL (aWU R1).toList (aAV R1) (inLoop R1) [.list TyD] R9 S6 y e=aAW y e:=by
 rintro⟨v0,v4,v5,v6,v8,v9,v31,⟨⟩⟩ ⟨e0,⟨⟩⟩
 kernel_rfl
theorem aJK:∀ x,aX9 89 [TyE,TyC,TyE] R9 (aQA R1) x=some (aBB x):=by
 rintro⟨v0,v4,v5,v6,v8,v9,v31,⟨⟩⟩
 kernel_rfl
theorem aIJ:aJD Tryz.prog 45 false [] R1 ⟨R9,S6,W7⟩:=aRG VE RZ aAX func89 (c:=R5 f89) (by kernel_rfl) a62 (by kernel_rfl) (aHZ (l:=[]) (by kernel_rfl) trivial) aJK aHA
theorem aK9:TY T3=[R1]:=by kernel_rfl
theorem aHP:∀ x,aZY Tryz.prog VA 45 (aMS f23) UP UL false [] T3 S8 TT x=aA1 x:=by
 rintro⟨v0,v4,v5,v6,v8,v9,⟨⟩⟩
 kernel_rfl
theorem aIP:aJD Tryz.prog 45 false [] (.loop T3) ⟨S8,TT,WM⟩:=aYN VE.callee RZ.mixed _ (aHZ aK9 ⟨aOH aAX aHM rfl aIJ,trivial⟩) aHP
theorem aJA:TY U7=[R2,.loop T3]:=by kernel_rfl
theorem aKN:∀ x,a4G Tryz.prog VA f23 (aMS f23) UP UL U7 [.int .i64,.list TyD] [.list TyC,.int .i64] x=aAN x:=by
 rintro⟨v0,v1,⟨⟩⟩
 kernel_rfl
abbrev aFL:Ent:=⟨23,_,_,aAN⟩
theorem aKH:Ent.OK Tryz.prog aFL:=a0I RZ VE func23 (c:=U7) (by kernel_rfl) (keep:=aMS f23) (lt:=UP) (rt:=UL) (aHZ aJA ⟨aOH aAY aHC rfl aIZ,aYB (i:=8) (by kernel_rfl) rfl aIP,trivial⟩) aKN
end Go.PM
namespace Go.PM
open Go Go.RowKit Go.Proofs Tryz
set_option maxHeartbeats 4000000
def XD(x:aL []):Option (aL [.bool]):=match x with
 | (()) =>
  aC (ZZ (2,[[1,0],[0,1],[1,(-1)]],3,())) λy1 =>
  aC (ZZ (1,[[1],[4],[3]],3,())) λy2 =>
  bif Nat.ble 0 2 then bif Nat.ble 2 [[1,0],[0,1],[1,(-1)]].length then aC (aAN (2,(([[1,0],[0,1],[1,(-1)]].drop 0).take (2-0)),())) λy3 =>
  bif eqI y1.2.1 0 then
   aC (X6 (y1.1,[[[0,0],[0,1],[1,0]],[[0,0],[1,(-1)],[1,0]]],())) λy4 =>
   bif y4.1 then
    bif eqI y2.2.1 0 then
     aC (X6 (y2.1,[[[0],[1],[4]],[[0],[3],[4]]],())) λy5 =>
     bif y5.1 then
      bif eqI y3.2.1 0 then
       aC (X6 (y3.1,[[[0,0],[0,1]],[[0,0],[1,0]]],())) λy6 =>
       some (y6.1,())
      else some (false,())
     else some (false,())
    else some (false,())
   else some (false,())
  else some (false,()) else none else none
def aAK:Code:=R5 f6
abbrev aFQ:Env:=aCN [aI9,aFL,aG2]
theorem aLA:OK Tryz.prog aFQ:=RU ⟨aNP,aKH,aLL,trivial⟩
def aDZ(id:Nat):Option C8:=none
theorem aJ2:RY aAK=[]:=by kernel_rfl
theorem aKF:∀ x,a0J Tryz.prog aFQ f6 (RV f6) aDZ aAK _ _ x=XD x:=by
 rintro⟨⟨⟩⟩
 kernel_rfl
theorem aMJ:RB Tryz.prog 6 _ _ XD:=aS7 RZ aLA func6 (c:=aAK) (by kernel_rfl) (keep:=RV f6) (lt:=aDZ) (RW aJ2 trivial) aKF
def fD(x:aL []):Option (aL [.bool]):=some (true,())
theorem a4S:∀ x,XD x=fD x:=by
 rintro⟨⟩
 kernel_rfl
theorem aME:RB Tryz.prog 6 _ _ fD:=by
 have h:XD=fD:=funext a4S;rw[<- h];exact aMJ
abbrev aNR:Ent:=⟨6,_,_,fD⟩
theorem aKG:Ent.OK Tryz.prog aNR:=aME
end Go.PM
namespace Go.PM
open Go Go.RowKit Go.Proofs
theorem tO(a:Int):qE (a,())=some (false,()):=by unfold qE; simp[bT]
theorem wW(a b:Int):q9 (a,b,())=some (if a<b then -1 else if b<a then 1 else 0,()):=by
 unfold q9; dsimp only;rw[tO,aD,tO,aD];simp only[aE];grind
theorem rB(l m:List Int)(hl:l.length<=9223372036854775806)(hm:m.length<=9223372036854775806):gW (l,m,())=some (cmpL l m,()):=by
 have hloop:jR (l,m,l,(l.length:Int),0,())=some (((List.range l.length).findSome? λi=>(yS l m i).map λy=>.inl (y,())).getD (.inr (l,m,()))):=by
  refine j8 (N:=2^64) (step:=dG) (λi=>(l,m,l,(l.length:Int),(i:Int),())) (λi=>(yS l m i).map λy=>.inl (y,())) l.length (.inr (l,m,())) (by omega) ?_ ?_
  ·intro i hi;simp only[dG,aE,bT,aG,eV,aN,oN];rw[if_pos (by omega),if_pos (by omega),wW,aD,aT i (by omega)]
   by_cases h2:i<m.length
   ·rw[if_neg (by omega),if_pos (by omega)]
    by_cases h3:l.getD i 0<m.getD i 0
    ·have hc:yS l m i=some (-1):=by unfold yS; rw[if_neg (λh=>h h2),if_pos h3]
     rw[hc,if_pos h3,if_pos (by decide)]; rfl
    ·by_cases h4:m.getD i 0<l.getD i 0
     ·have hc:yS l m i=some 1:=by unfold yS; rw[if_neg (λh=>h h2),if_neg h3,if_pos h4]
      rw[hc,if_neg h3,if_pos h4,if_pos (by decide)]; rfl
     ·have hc:yS l m i=none:=by unfold yS; rw[if_neg (λh=>h h2),if_neg h3,if_neg h4]
      rw[hc,if_neg h3,if_neg h4,if_neg (by decide)]; rfl
   ·have hc:yS l m i=some 1:=by unfold yS; rw[if_pos h2]
    rw[hc,if_pos (by omega)]; rfl
  ·simp only[dG,aE,aN];rw[if_neg (by omega)]
 have hfind:=(JY l m 0).resolve_right (by omega);rw[Nat.sub_zero,<- List.range_eq_range']at hfind;simp only[List.drop_zero]at hfind;unfold gW; dsimp only;rw[hloop,aD,sN,<- hfind];cases (List.range l.length).findSome? (yS l m)with
 | some y=>rfl
 | none =>
  simp only[Option.map_none,Option.getD_none,eG,aE,aN]
  by_cases h:l.length<m.length
  ·rw[if_pos h,if_pos (by omega)]
  ·rw[if_neg h,if_neg (by omega)]
theorem AI(l m:List Int)(hl:l.length<=9223372036854775806)(hm:m.length<=9223372036854775806):uW (l,m,())=some (cmpL l m,()):=by
 unfold uW; dsimp only;rw[rB l m hl hm,aD]
end Go.PM
