/- Texts of one proof, joined (13). -/
import Derived.Test.YtcbgclaonahijaaGreatDoorQI12
set_option linter.unusedSimpArgs false
set_option linter.unusedVariables false
set_option maxRecDepth 100000
noncomputable section
namespace Go.PM
open Go Go.RowKit Go.Proofs
open Go Go.RowKit Go.Proofs Go.Lz
structure QK (p:List Int) (A B l:List (List Int)) (qs:List (List (List Int))) (s:Int) (la:Int×List (List Int)) (mp:List (ByteArray×Int)) (ld:List Int->List Int->List Int):Prop where
 chk:K4 ((((p,(A,B)),l),(qs,s)),())=some (0,())
 fin:qS (((p,(A,B)),l),())=some ((((p,(A,B)),l),(la,mp)),0,())
 lead:∀ i,i<l.length->∀ c∈qs,∀ x∈c,vV ((((p,(A,B)),l),(la,mp)),(i:Int),x,())=some (ld (l.getD i []) x,(if ld (l.getD i []) x∈l then (ixL l (ld (l.getD i []) x):Int) else 0),decide (ld (l.getD i []) x∈l),0,())
 law:∀ i,i<l.length->∀ c∈qs,∀ x∈c,∃ y z e,lV ((p,(A,B)),x,())=some (y,())/\aBB (l.getD i [],y,())=some (z,e,())/\eH ((p,(A,B)),z,())=some (ld (l.getD i []) x,())
 si:SI l
 len:l.length<=60
 w:∀ a∈l,a.length<=64
 lw:∀ i,i<l.length->∀ c∈qs,∀ x∈c,(ld (l.getD i []) x).length<=64
 few:qs.length*l.length<=200
 qc:qs.length<=12
 cl:∀ c∈qs,c.length<=8
def ysM(l:List (List Int)) (ld:List Int->List Int->List Int) (c:List (List Int)) (i:Nat):List (List Int):=c.map (ld (l.getD i []))
def whM(l:List (List Int))(ld:List Int->List Int->List Int)(c:List (List Int))(i:Nat):Bool:=(ysM l ld c i).all λy=>decide (y∈l)
def bSZ(l:List (List Int))(y:List Int):Int:=if y∈l then (ixL l y) else 0
def plM(l:List (List Int))(qs:List (List (List Int)))(ld:List Int->List Int->List Int)(k i:Nat):Option PL:=if whM l ld (qs.getD k []) i=true then some (((k,i)),ntL l (ysM l ld (qs.getD k []) i)) else none
def plR(l:List (List Int))(qs:List (List (List Int)))(ld:List Int->List Int->List Int)(k n:Nat):List PL:=(List.range n).filterMap (plM l qs ld k)
def plT(l:List (List Int))(qs:List (List (List Int)))(ld:List Int->List Int->List Int)(n:Nat):List PL:=(List.range n).flatMap λk=>plR l qs ld k l.length
def plA(l:List (List Int)) (qs:List (List (List Int))) (ld:List Int->List Int->List Int):List PL:=plT l qs ld qs.length
theorem bH9 {l qs ld k n}:plR l qs ld k (n+1)=plR l qs ld k n++(match plM l qs ld k n with|some x=>[x]|none=>[]):=by
 unfold plR;rw[List.range_succ,List.filterMap_append];grind
theorem bFD {l qs ld k n}:(plR l qs ld k n).length<=n:=by
 have:=List.length_filterMap_le (plM l qs ld k) (List.range n);rwa[List.length_range]at this
theorem a6Z {l qs ld n}:plT l qs ld (n+1)=plT l qs ld n++plR l qs ld n l.length:=by
 unfold plT;rw[List.range_succ,List.flatMap_append]; simp
theorem a6A {l qs ld}:∀ n,(plT l qs ld n).length<=n*l.length
 | 0=>by simp[plT]
 | n+1=>by
  rw[a6Z,oH,Nat.succ_mul];have:=a6A (l:=l) (qs:=qs) (ld:=ld) n;have:=bFD (l:=l) (qs:=qs) (ld:=ld) (k:=n) (n:=l.length);omega
theorem bPM {l qs ld x}(h:x∈plA l qs ld):∃ k i,k<qs.length/\i<l.length/\plM l qs ld k i=some x:=by
 obtain⟨k,hk,h⟩:=List.mem_flatMap.1 h;obtain⟨i,hi,h⟩:=List.mem_filterMap.1 h;grind
theorem bFL {qs:List (List (List Int))}{k}(h:k<qs.length):qs.getD k []∈qs:=by grind
section
variable {p:List Int} {A B l:List (List Int)} {qs:List (List (List Int))} {s:Int} {la:Int×List (List Int)} {mp:List (ByteArray×Int)} {ld:List Int->List Int->List Int}
theorem QK.bAM (h:QK p A B l qs s la mp ld):aQZ (plA l qs ld):=by
 refine⟨oR (a6A _) h.few,λj hj=>?_⟩;have hm:(plA l qs ld).getD j ((0,0),[])∈plA l qs ld:=by grind
 obtain⟨k,i,hk,hi,e⟩:=bPM hm;unfold plM at e;split at e
 ·rename_i hw;have hq:=bFL hk;have e:=oB e;rw[<- e];have hall :=λy hy=>of_decide_eq_true (List.all_eq_true.1 hw y hy)
  refine⟨?_,bKQ h.si hall⟩;have h1:=(xK (ysM l ld (qs.getD k []) i)).2.2;have h2:=h.cl _ hq;unfold ntL;rw[List.length_map];have:(ysM l ld (qs.getD k []) i).length=(qs.getD k []).length:=List.length_map ..;omega
 grind
theorem b2X(h:QK p A B l qs s la mp ld) (out:List PL) {k i} (hk:k<qs.length) (hi:i<l.length) :
  PQ ((((p,(A,B)),l),(qs,s)),(((p,(A,B)),l),(la,mp)),out,(k:Int),qs.getD k [],(i:Int),(((k:Int),(i:Int)),([],())),true,qs,(qs.length:Int),(k:Int),(l.length:Int),(i:Int),qs.getD k [],((qs.getD k []).length:Int),0,()) =
   some (.inr ((((p,(A,B)),l),(qs,s)),(((p,(A,B)),l),(la,mp)),out,(k:Int),qs.getD k [],(((k:Int),(i:Int)),((ysM l ld (qs.getD k []) i).map (bSZ l),())),whM l ld (qs.getD k []) i,qs,(qs.length:Int),(k:Int),(l.length:Int),(i:Int),())):=by
 have hq:=bFL hk;have hc:=h.cl _ hq;generalize hcc:qs.getD k []=c at hq hc;have hyl:(ysM l ld c i).length=c.length:=List.length_map ..;refine aK (step:=B7) (N:=2^64) (λt=>((((p,(A,B)),l),(qs,s)),(((p,(A,B)),l),(la,mp)),out,(k:Int),c,(i:Int),(((k:Int),(i:Int)),(((ysM l ld c i).take t).map (bSZ l),())),((ysM l ld c i).take t).all (λy=>decide (y∈l)),qs,(qs.length:Int),(k:Int),(l.length:Int),(i:Int),c,(c.length:Int),(t:Int),())) c.length _ (by omega) (λt ht=>?_) ?_
 ·have hx:c.getD t []=c[t]:=by simp[List.getD,ht]
  have l1:=h.lead i hi c hq c[t] (List.getElem_mem ht);have l2:=wS ht (by omega);have l3:Nat.ble (((ysM l ld c i).take t).map (bSZ l)).length 1048576=true:=bL (by rw[List.length_map,List.length_take]; omega);have hy:(ysM l ld c i)[t]'(by omega)=ld (l.getD i []) c[t]:=by simp[ysM]
  rw[List.take_succ_eq_append_getElem (by omega),hy,List.map_append,List.all_append];generalize hld:ld (l.getD i []) c[t]=y at l1;have l4:[y].map (bSZ l)=[(if y∈l then (ixL l y:Int) else 0)]:=rfl;have l5:([y].all λy=>decide (y∈l))=decide (y∈l):=by simp
  rw[l4,l5];cases hw:((ysM l ld c i).take t).all λy=>decide (y∈l)with
  | true=>simp only[B7,lI ht,iO ht,tN,hx,l1,l2,l3,bO,aC,e00,Bool.not_true,oC,oD,Bool.true_and]
  | false=>simp only[B7,lI ht,iO ht,tN,hx,l1,l2,l3,bO,aC,e00,Bool.not_true,oC,oD,Bool.false_and]
 ·have:(ysM l ld c i).take c.length=ysM l ld c i:=List.take_of_length_le (by omega);simp only[B7,lN,oD,this]; rfl
theorem bTT {l}(h:l.length<4611686018427387904):bIV l=some (srt l):=by unfold bIV; rw[cF,oT h]; rfl
theorem bIU {l}(h:l.length<=9223372036854775807):aS5 l=some (Lib.compact l):=by unfold aS5; rw[eL,oT h]; rfl
theorem b2S(h:QK p A B l qs s la mp ld)(out:List PL)(ho:out.length<=1000){k}(hk:k<qs.length) :
  PO ((((p,(A,B)),l),(qs,s)),(((p,(A,B)),l),(la,mp)),out,(k:Int),qs.getD k [],qs,(qs.length:Int),(k:Int),(l.length:Int),0,()) =
   some (.inr ((((p,(A,B)),l),(qs,s)),(((p,(A,B)),l),(la,mp)),out++plR l qs ld k l.length,qs,(qs.length:Int),(k:Int),())):=by
 have hN:=h.len;have key:=aK (step:=B5) (N:=2^64) (λi=>((((p,(A,B)),l),(qs,s)),(((p,(A,B)),l),(la,mp)),out++plR l qs ld k i,(k:Int),qs.getD k [],qs,(qs.length:Int),(k:Int),(l.length:Int),(i:Int),())) l.length (.inr ((((p,(A,B)),l),(qs,s)),(((p,(A,B)),l),(la,mp)),out++plR l qs ld k l.length,qs,(qs.length:Int),(k:Int),())) (by omega) (λi hi=>?_) ?_
 ·have hz:out++plR l qs ld k 0=out:=List.append_nil _;rw[hz]at key;exact key
 ·have l1:=b2X h (out++plR l qs ld k i) hk hi;have l2:=wS hi (by omega);have l3:Nat.ble (out++plR l qs ld k i).length 1048576=true:=bL (by rw[oH]; have:=bFD (l:=l) (qs:=qs) (ld:=ld) (k:=k) (n:=i); omega);rw[bH9];have hq:=bFL hk;have hc:=h.cl _ hq;have hyl:(ysM l ld (qs.getD k []) i).length=(qs.getD k []).length:=List.length_map ..;cases hw:whM l ld (qs.getD k []) i with
  | true =>
   have hall:∀ y∈ysM l ld (qs.getD k []) i,y∈l:=λy hy=>of_decide_eq_true (List.all_eq_true.1 hw y hy)
   have hm:plM l qs ld k i=some ((((k:Int),(i:Int))),ntL l (ysM l ld (qs.getD k []) i)):=by unfold plM; rw[if_pos hw]
   have hnum:(ysM l ld (qs.getD k []) i).map (bSZ l)=(ysM l ld (qs.getD k []) i).map λy=>(ixL l y:Int):=List.map_congr_left λy hy=>by unfold bSZ; rw[if_pos (hall y hy)]
   rw[hw,hnum]at l1;have l4:=bTT (l:=(ysM l ld (qs.getD k []) i).map λy=>(ixL l y:Int)) (by rw[List.length_map]; omega);have l5:=bIU (l:=srt ((ysM l ld (qs.getD k []) i).map λy=>(ixL l y:Int))) (by rw[a6X,List.length_map]; omega);have l6:Lib.compact (srt ((ysM l ld (qs.getD k []) i).map λy=>(ixL l y:Int)))=ntL l (ysM l ld (qs.getD k []) i):=b0W h.si hall;rw[l6]at l5;rw[hm];simp only[B5,lI hi,l1,l2,l3,l4,l5,bO,aC,bV,oC,List.append_assoc]
  | false =>
   have hm:plM l qs ld k i=none:=by unfold plM; rw[if_neg (by rw[hw]; simp)]
   rw[hw]at l1;rw[hm];simp only[B5,lI hi,l1,l2,aC,bV,oC,oD,List.append_nil]
 ·simp only[B5,lN,oD]
theorem all_eq(h:QK p A B l qs s la mp ld):gH ((((p,(A,B)),l),(qs,s)),())=some (plA l qs ld,0,()):=by
 have hN:=h.qc;have hf:=h.few;have key:=aK (step:=I1) (N:=2^64) (λk=>((((p,(A,B)),l),(qs,s)),(((p,(A,B)),l),(la,mp)),plT l qs ld k,qs,(qs.length:Int),(k:Int),())) qs.length (.inr (plA l qs ld,())) (by omega) (λk hk=>?_) ?_
 ·have key:PU ((((p,(A,B)),l),(qs,s)),(((p,(A,B)),l),(la,mp)),[],qs,(qs.length:Int),0,())=_:=key;have l1:ltI 200 ((plA l qs ld).length:Int)=false:=by
   have:=h.bAM.1;rw[aF]; exact oF (by omega)
  simp only[gH,h.chk,h.fin,aC,e00,Bool.not_true,oD,key,bV,l1]
 ·have hT:(plT l qs ld k).length<=1000:=by
   have:=a6A (l:=l) (qs:=qs) (ld:=ld) k;have:k*l.length<=qs.length*l.length:=Nat.mul_le_mul_right _ (by omega);omega
  have l1:=b2S h (plT l qs ld k) hT hk;have l2:=wS hk (by omega);rw[a6Z];simp only[I1,lI hk,iO hk,tN,l1,l2,aC,bV,oC]
 ·simp only[I1,lN,oD]; rfl
end
section
variable {ps:List Int} {n d r:Nat} {C K:Nat->V}
structure GQ (ps:List Int) (n d r:Nat) (C K:Nat->V) (l:List (List Int)) (qs:List (List (List Int))) (s:Int):Prop where
 rt:RT ps n d r C K
 k8:Big r n K 960000
 n1:1<=n
 r1:1<=r
 g:0<K 0 0
 si:SI l
 l0:0<l.length
 l10:l.length<=10
 lr:∀ a∈l,a.length=r
 lb:∀ a∈l,∀ c∈a,c.natAbs<=40000000
 lc:∀ a∈l,cl r (K 0 0) a=a
 q0:0<qs.length
 q4:qs.length<=4
 qc:∀ c∈qs,0<c.length/\c.length<=8
 qr:∀ c∈qs,∀ x∈c,x.length=n/\(∀ a∈x,a.natAbs<=1000)/\∀ i,i<r->(dot n (eK x) (K i)).natAbs<=36000000
 s1:1<=s
 s8:s<=8
theorem b1J {n A B u v}(hu:∀ i,i<n->(u i).natAbs<=A)(hv:∀ i,i<n->(v i).natAbs<=B):(dot n u v).natAbs<=n*(A*B):=by
 induction n with
 | zero=>simp[dot]
 | succ n ih =>
  have h1:=ih (λi hi=>hu i (by omega)) (λi hi=>hv i (by omega));have h2:(u n*v n).natAbs<=A*B:=by
   rw[Int.natAbs_mul];exact Nat.mul_le_mul (hu n (by simp)) (hv n (by simp))
  show (dot n u v+u n*v n).natAbs<=_;grind
theorem bYN {x B}(h:∀ a∈x,a.natAbs<=B) i:(eK x i).natAbs<=B:=by
 unfold eK;grind
theorem bG0(hk:Big r n K 960000)(n4:n<=4){x}(hx:∀ a∈x,a.natAbs<=9){i}(hi:i<r):(dot n (eK x) (K i)).natAbs<=36000000:=by
 have h1:=b1J (λj _=>bYN hx j) (λj hj=>hk i hi j hj);omega
theorem bGY {x}(hd:∀ i,i<r->(dot n (eK x) (K i)).natAbs<=36000000):∀ a∈tmp n r K x,a.natAbs<=36000000:=λa ha=>by
 obtain⟨i,hi,rfl⟩:=List.mem_map.1 ha;grind
theorem aIC {x}:(tmp n r K x).length=r:=by simp[tmp,Vr]
theorem bGV {A B}:∀ {l m},(∀ a∈l,a.natAbs<=A)->(∀ a∈m,a.natAbs<=B)->∀ a∈TY l m,a.natAbs<=A+B
 | [],[],_,_,a,h=>by simp[TY]at h
 | [],_::_,_,_,a,h=>by simp[TY]at h
 | _::_,[],_,_,a,h=>by simp[TY]at h
 | x::l,y::m,h1,h2,a,h=>by
  rcases List.mem_cons.1 ((h))with rfl|h
  ·have:=h1 x (by simp);have:=h2 y (by simp);omega
  ·exact bGV (λz hz=>h1 z (by grind)) (λz hz=>h2 z (by grind)) a h
theorem bCK:∀ l m ,TY l m=TY m l
 | [],[]=>rfl
 | [],_::_=>rfl
 | _::_,[]=>rfl
 | x::l,y::m=>by simp only[TY,bCK l m,Int.add_comm x y]
theorem aXF(h:RT ps n d r C K) x (hl:x.length=n)(hx:∀ a∈x,a.natAbs<=1000)(hd:∀ i,i<r->(dot n (eK x) (K i)).natAbs<=36000000):lV ((ps,(Mr d n C,Mr r n K)),x,())=some (tmp n r K x,()):=by
 have t1:=aM9 h x hl (λa ha=>by grind) (λi hi=>by grind);simp only[lV,t1,aC]
theorem bYL {l}(h:SI l){i}(hi:i+1<l.length):0<cmpL (l.getD (i+1) []) (l.getD i []):=by
 rw[getD_at hi,getD_at (by omega)];have h1:=List.pairwise_iff_getElem.1 h i (i+1) (by omega) hi (by simp);have h2:=a06 h1;rcases Int.lt_trichotomy (cmpL l[i+1] l[i]) 0 with c|c|c
 ·omega
 ·have e:=bH1 c;grind
 omega
theorem bZ5 {l}(h:SI l){i j}(hij:i<j)(hj:j<l.length):l.getD i []≠l.getD j []:=λe=>by
 rw[getD_at hj,getD_at (by omega)]at e;have h1:=List.pairwise_iff_getElem.1 h i j (by omega) hj hij;rw[e,aFO]at h1; omega
theorem GQ.qk {l qs s}(h:GQ ps n d r C K l qs s):QK ps (Mr d n C) (Mr r n K) l qs s (r,[Vr r (eV (K 0 0))]) (aU2 l l.length) (rL n r K):=by
 have n4:=h.rt.n4;obtain⟨p,hk⟩:=h.rt.hk;have r4:=(Hn.wR hk h.rt.wk).1;have hb:=h.rt.bk 0 (by have:=h.r1; omega) 0 (by have:=h.n1; omega);have hw:Rw r l:=λa ha=>⟨h.lr a ha,λc hc=>by have:=h.lb a ha c hc; omega⟩
 have l10:=h.l10;have hmem:∀ i,i<l.length->l.getD i []∈l:=λi hi=>by rw[getD_at hi]; exact List.getElem_mem hi
 have hsum:∀ i,i<l.length->∀ c∈qs,∀ x∈c,∀ a∈TY (tmp n r K x) (l.getD i []),a.natAbs<=1000000000:=λi hi c hc x hx a ha=>by
  have:=bGV (bGY (h.qr c hc x hx).2.2) (h.lb _ (hmem i hi)) a ha;omega
 have hlen:∀ i,i<l.length->∀ x:List Int,(TY (tmp n r K x) (l.getD i [])).length=r:=λi hi x=>by rw[aBK (by rw[aIC,h.lr _ (hmem i hi)]),aIC]
 refine⟨?_,?_,λi hi c hc x hx=>?_,λi hi c hc x hx=>?_,h.si,by omega,λa ha=>by rw[h.lr a ha]; omega,λi hi c hc x hx=>by unfold rL; rw[HO]; omega,?_,by have:=h.q4; omega,λc hc=>(h.qc c hc).2⟩
 ·exact bRA (bBS h.rt h.n1 h.r1 h.g hw h.l0 (by omega) h.lc λi hi=>bYL h.si hi) h.rt.pr h.rt.len (by omega) h.q0 (by have:=h.q4; omega) (λc hc=>⟨(h.qc c hc).1,(h.qc c hc).2,λx hx=>⟨(h.qr c hc x hx).1,(h.qr c hc x hx).2.1⟩⟩) h.s1 h.s8
 ·exact bHR h.rt h.n1 h.r1 h.g hw (by omega) λi j hij hj=>bZ5 h.si hij hj
 ·have hx':=h.qr c hc x hx;have t1:=bWT h.rt h.n1 h.r1 h.g hw hi x hx'.1 (λa ha=>by have:=hx'.2.1 a ha; omega) (λj hj=>by have:=hx'.2.2 j hj; omega) (by rw[<- getD_at hi]; exact hsum i hi c hc x hx);rw[<- getD_at hi]at t1;rw[t1]
  by_cases c1:rL n r K (l.getD i []) x∈l
  ·rw[if_pos c1];have a:=aXM c1;have t2:=bYI hw (λi j hij hj=>bZ5 h.si hij hj) a.1;rw[<- getD_at a.1,a.2]at t2;rw[t2]
  ·rw[if_neg c1];have hyl:(TY (tmp n r K x) (l.getD i [])).length=r:=hlen i hi x;have t3:=bIJ hw (x:=rL n r K (l.getD i []) x) ⟨HO _ _ _,bZS h.g (by omega) hyl (hsum i hi c hc x hx)⟩;rw[oF c1]at t3;rw[getM_none _ _ t3]
 ·have hx':=h.qr c hc x hx;have e1:=bCK (l.getD i []) (tmp n r K x);have t2:=bLX (l.getD i []) (tmp n r K x) (by rw[h.lr _ (hmem i hi)]; omega) (by rw[aIC,h.lr _ (hmem i hi)]) (λa ha=>by have:=h.lb _ (hmem i hi) a ha; omega) (λa ha=>by have:=bGY hx'.2.2 a ha; omega) (by rw[e1]; exact hsum i hi c hc x hx);rw[e1]at t2;exact⟨_,_,_,aXF h.rt x hx'.1 hx'.2.1 hx'.2.2,t2,aXX h.rt h.n1 h.r1 h.g _ (hlen i hi x) (hsum i hi c hc x hx)⟩
 ·have h1:=h.q4;have:qs.length*l.length<=4*10:=Nat.mul_le_mul h1 l10;omega
end
end Go.PM
namespace Go.PM
open Go Go.RowKit Go.Proofs Tryz
set_option maxHeartbeats 4000000
abbrev tM:List (Nat×Kd):=[(1,.box 27 TyK),(2,.box 41 TyJ),(4,.box 36 TyG),(5,.bag 41 TyV 33 TyC (some TyE)),(6,.own 3 TyE),(7,.list TyD),(8,.own 69 TyI),(9,.int .i64)]
abbrev zM:List (Ex×List (Nat×Kd)):=[(.exit 0,[(1,.box 27 TyK),(2,.box 41 TyJ),(4,.box 36 TyG),(5,.bag 41 TyV 33 TyC (some TyE)),(6,.own 3 TyE),(7,.list TyD)])]
def vW(x:Shape.den tM):oS tM zM:=match x with
 | (v1,v2,v4,v5,v6,v7,v8,v9,()) =>
  bif ltI v9 (v8.length:Int) then
   bif aE v9 v8.length then bif Nat.blt v9.toNat v8.length then aB (mI (v4.1,((v8.getD v9.toNat (0,(0,(0,0)))).1,((v8.getD v9.toNat (0,(0,(0,0)))).2.1,((v8.getD v9.toNat (0,(0,(0,0)))).2.2.1,(v8.getD v9.toNat (0,(0,(0,0)))).2.2.2))),())) λy7 =>
   aB (lV (v4,y7.1,())) λy8 =>
   aB (eH (v4,y8.1,())) λy9 =>
   aB (fR (v7,y9.1,())) λy10 =>
   some (.inl (v1,v2,v4,v5,v6,y10.1,v8,(aA .i64 (v9+1)),())) else none else none
  else some (.inr ((v1,v2,v4,v5,v6,v7,())))
def vI(x:Shape.den tM):oX zM:=aV vW (2^64) x
abbrev tI:List (Nat×Kd):=[(1,.box 27 TyK),(2,.box 41 TyJ),(4,.box 36 TyG),(5,.bag 41 TyV 33 TyC (some TyE)),(6,.list TyE),(10,.int .i64),(11,.own 29 TyD),(12,.int .i64)]
abbrev zQ:List (Ex×List (Nat×Kd)):=[(.exit 4,[(1,.box 27 TyK),(2,.box 41 TyJ),(4,.box 36 TyG),(5,.bag 41 TyV 33 TyC (some TyE)),(6,.list TyE),(10,.int .i64),(11,.own 29 TyD)])]
def vU(x:Shape.den tI):oS tI zQ:=match x with
 | (v1,v2,v4,v5,v6,v10,v11,v12,()) =>
  bif aE v10 v1.2.2.1.length then bif ltI v12 ((v1.2.2.1.getD v10.toNat []).length:Int) then
   bif aE v10 v1.2.2.1.length then bif aE v12 (v1.2.2.1.getD v10.toNat []).length then aB (mI (v4.1,(((v1.2.2.1.getD v10.toNat []).getD v12.toNat (0,(0,(0,0)))).1,(((v1.2.2.1.getD v10.toNat []).getD v12.toNat (0,(0,(0,0)))).2.1,(((v1.2.2.1.getD v10.toNat []).getD v12.toNat (0,(0,(0,0)))).2.2.1,((v1.2.2.1.getD v10.toNat []).getD v12.toNat (0,(0,(0,0)))).2.2.2))),())) λy13 =>
   bif Nat.ble [y13.1].length 1048576 then bif Nat.ble v11.length 1048576 then some (.inl (v1,v2,v4,v5,v6,v10,(v11++[y13.1]),(aA .i64 (v12+1)),())) else none else none else none else none
  else some (.inr ((v1,v2,v4,v5,v6,v10,v11,()))) else none
def CL(x:Shape.den tI):oX zQ:=aV vU (2^64) x
abbrev tH:List (Nat×Kd):=[(1,.box 27 TyK),(2,.box 41 TyJ),(4,.box 36 TyG),(5,.bag 41 TyV 33 TyC (some TyE)),(6,.list TyE),(10,.int .i64)]
abbrev zK:List (Ex×List (Nat×Kd)):=[(.exit 2,[(2,.box 41 TyJ),(5,.bag 41 TyV 33 TyC (some TyE)),(6,.list TyE)])]
def wE(x:Shape.den tH):oS tH zK:=match x with
 | (v1,v2,v4,v5,v6,v10,()) =>
  bif ltI v10 (v1.2.2.1.length:Int) then
   aB (CL (v1,v2,v4,v5,v6,v10,[v6],0,())) λz15 =>
   bif Nat.ble [z15.2.2.2.2.2.2.1].length 1048576 then bif Nat.ble z15.2.2.2.1.2.1.length 1048576 then some (.inl (z15.1,z15.2.1,z15.2.2.1,(z15.2.2.2.1.1,((z15.2.2.2.1.2.1++[z15.2.2.2.2.2.2.1]),z15.2.2.2.1.2.2)),z15.2.2.2.2.1,(aA .i64 (z15.2.2.2.2.2.1+1)),())) else none else none
  else some (.inr ((v2,v5,v6,())))
def wD(x:Shape.den tH):oX zK:=aV wE (2^64) x
def eG(x:aM [.agg TyK]):oK [.agg TyJ,.bool]:=match x with
 | (v0,()) =>
  aB (vF (v0.1,())) λy1 =>
  bif !(ltI (y1.1.1.length:Int) 0) then bif !(ltI (y1.1.1.length:Int) (y1.1.1.length:Int)) then bif !(ltI 1048576 (y1.1.1.length:Int)) then aB (AA (y1.1,())) λy2 =>
  bif y2.1 then
   some (((y1.1,[]),([],(aA .i64 (1+(IntKind.wrap .i64 (v0.2.2.2.tmod 3)))))),false,())
  else bif Nat.ble v0.2.1.length 1048576 then bif Nat.ble [(0,(0,(0,0)))].length 1048576 then aB (vI (v0,((([],([],[])),[]),([],0)),y1.1,((y1.1.1,(y1.1.2.1,(y1.1.2.2,[]))),([],(aA .i64 (1+(IntKind.wrap .i64 (v0.2.2.2.tmod 3)))))),(List.replicate ((y1.1.1.length:Int).toNat) (0:Ty.den TyE)),[],([(0,(0,(0,0)))]++v0.2.1),0,())) λz11 =>
  aB (wD (z11.1,z11.2.1,z11.2.2.1,((z11.2.2.2.1.1.1,(z11.2.2.2.1.1.2.1,(z11.2.2.2.1.1.2.2.1,z11.2.2.2.2.2.1))),z11.2.2.2.1.2),z11.2.2.2.2.1,0,())) λz16 =>
  bif eqI (z16.2.1.2.1.length:Int) 0 then
   some ((((z16.2.1.1.1,(z16.2.1.1.2.1,z16.2.1.1.2.2.1)),z16.2.1.1.2.2.2),([[z16.2.2.1]],z16.2.1.2.2)),true,())
  else some ((((z16.2.1.1.1,(z16.2.1.1.2.1,z16.2.1.1.2.2.1)),z16.2.1.1.2.2.2),z16.2.1.2),true,()) else none else none else none else none else none
def FU:Code:=bY f14
abbrev FN:Env:=B1 [MK,UN,S1,RF,U7,P9]
theorem GC:dN tP FN:=aS ⟨HG,YP,M3,K7,YX,LS,trivial⟩
def Q5:Code:=inLoop (QF FU 0)
def BM:Code:=inLoop (QF FU 1)
def RR:Code:=inLoop (QF BM 0)
def DC(id:Nat):Option cI:=bif Nat.beq id 9 then some ⟨tM,zM,vI⟩ else bif Nat.beq id 18 then some ⟨tI,zQ,CL⟩ else bif Nat.beq id 14 then some ⟨tH,zK,wD⟩ else none
def DE(id:Nat):Option cI:=none
theorem aL7:∀ x,TD tP FN 106 (xD f14) DC DE false [] Q5 tM zM x=vW x:=by
 rintro⟨v1,v2,v4,v5,v6,v7,v8,v9,⟨⟩⟩
 kernel_rfl
theorem aN0:H7 tP 106 false [] (.loop Q5) ⟨tM,zM,vI⟩:=FI GC.callee aQ.mixed _ (nK (l:=[]) (by kernel_rfl) trivial) aL7
theorem aL8:∀ x,TD tP FN 106 (xD f14) DC DE false [] RR tI zQ x=vU x:=by
 rintro⟨v1,v2,v4,v5,v6,v10,v11,v12,⟨⟩⟩
 kernel_rfl
theorem aMO:H7 tP 106 false [] (.loop RR) ⟨tI,zQ,CL⟩:=FI GC.callee aQ.mixed _ (nK (l:=[]) (by kernel_rfl) trivial) aL8
theorem aQD:dV BM=[.loop RR]:=by kernel_rfl
theorem aKP:∀ x,TD tP FN 106 (xD f14) DC DE false [] BM tH zK x=wE x:=by
 rintro⟨v1,v2,v4,v5,v6,v10,⟨⟩⟩
 kernel_rfl
theorem aNU:H7 tP 106 false [] (.loop BM) ⟨tH,zK,wD⟩:=FI GC.callee aQ.mixed _ (nK aQD ⟨E7 (i:=18) (by kernel_rfl) rfl aMO,trivial⟩) aKP
theorem aN7:dV FU=[.loop Q5,.loop BM]:=by kernel_rfl
theorem aQ0:∀ x,a0L tP FN f14 (xD f14) DC DE FU [.agg TyK] [.agg TyJ,.bool] x=eG x:=by
 rintro⟨v0,⟨⟩⟩
 kernel_rfl
abbrev M6:Ent:=⟨14,_,_,eG⟩
theorem zS:Ent.OK tP M6:=aJK aQ GC func14 (c:=FU) (by kernel_rfl) (keep:=xD f14) (lt:=DC) (rt:=DE) (nK aN7 ⟨E7 (i:=9) (by kernel_rfl) rfl aN0,E7 (i:=14) (by kernel_rfl) rfl aNU,trivial⟩) aQ0
end Go.PM
namespace Go.PM
open Go Go.RowKit Go.Proofs Go.Lz
section
variable {ps:List Int} {n d r:Nat} {C K:Nat->V}
abbrev I4:=Int×Int×Int×Int
def ivL(n:Nat) (t:I4):List Int:=(List.range n).map λi=>(aBV t i).tmod 10
theorem aO6 {n t}:(ivL n t).length=n:=by simp[ivL]
theorem aLW {n t}:∀ a∈ivL n t,a.natAbs<=9:=λa ha=>by
 obtain⟨i,_,rfl⟩:=List.mem_map.1 ha;grind
theorem b1G {l:List I4}{t} h:l.getD t (0,(0,(0,0)))=l[t]:=by grind
theorem b2N {r g} x:cl r g (cl r g x)=cl r g x:=by
 unfold cl Vr;refine List.map_congr_left λi hi=>?_
 have hi:=List.mem_range.1 hi;have e:eK ((List.range r).map (clV g (eK x))) i=clV g (eK x) i:=by simp[eK,hi]
 unfold clV at e ⊢
 by_cases c:i=0
 ·simp_all
 grind
theorem bZ9(h:RT ps n d r C K)(hk:Big r n K 960000)(hn1:1<=n)(hr:1<=r)(hg:0<K 0 0){x}(hx:∀ a∈x,a.natAbs<=9):∀ a∈tcl n r K x,a.natAbs<=40000000:=λa ha=>by
 have n4:=h.n4;have hg9:=hk 0 (by omega) 0 (by omega);obtain⟨i,hi,rfl⟩:=List.mem_map.1 ha;have hi:=List.mem_range.1 hi;have hd:∀ i,i<r->(dot n (eK x) (K i)).natAbs<=36000000:=λi hi=>bG0 hk n4 hx hi
 unfold clV;split
 ·have h1:=Int.emod_nonneg (eK (tmp n r K x) 0) (show K 0 0≠0 by omega);have h2:=Int.emod_lt_of_pos (eK (tmp n r K x) 0) hg;omega
 ·have e:eK (tmp n r K x) i=dot n (eK x) (K i):=by simp[eK,tmp,Vr,hi]
  grind
theorem bPY:∀ v ,v<10->1<=(L12.getD v []).length:=by decide
theorem bMU {x}(h0:0<=x)(h1:x<256):aA .i64 (1+IntKind.wrap .i64 (x.tmod 3))=1+x%3:=by
 rw[Int.tmod_eq_emod_of_nonneg h0];rw[aAM (by omega) (by omega),wrap64 (by omega) (by omega)]
def aV5(n r:Nat) (K:Nat->V) (notes:List I4):List (List Int):=MB (((0,(0,(0,0)))::notes).map λt=>tcl n r K (ivL n t))
def bLY(n:Nat)(c:List I4):List (List Int):=List.replicate n 0::c.map (ivL n)
def aAR(n:Nat)(cs:List (List I4)):List (List (List Int)):=if cs.length=0 then [[List.replicate n 0]] else cs.map (bLY n)
theorem bMO(h:RT ps n d r C K) (hk:Big r n K 960000) (hn1:1<=n) (hr:1<=r) (hg:0<K 0 0) (v1:Ty.den (.prod (.prod (.int .u8) (.prod (.list (.prod (.int .i8) (.prod (.int .i8) (.prod (.int .i8) (.int .i8))))) .bool)) (.prod (.list (.prod (.int .i8) (.prod (.int .i8) (.prod (.int .i8) (.int .i8))))) (.prod (.list (.list (.prod (.int .i8) (.prod (.int .i8) (.prod (.int .i8) (.int .i8)))))) (.int .u8)))))
  (v2:Ty.den (.prod (.prod (.prod (.list (.int .i64)) (.prod (.list (.list (.int .i64))) (.list (.list (.int .i64))))) (.list (.list (.int .i64)))) (.prod (.list (.list (.list (.int .i64)))) (.int .i64)))) (v5:(List Int×List (List Int)×List (List Int)×List (List Int))×List (List (List Int))×Int) (v6:List Int) {ts:List I4} (hts:ts.length<=1000) (hI:∀ t∈ts,I8 t) :
  vI (v1,v2,(ps,(Mr d n C,Mr r n K)),v5,v6,[],ts,0,())=some (v1,v2,(ps,(Mr d n C,Mr r n K)),v5,v6,MB (ts.map λt=>tcl n r K (ivL n t)),()):=by
 have n4:=h.n4;obtain⟨p,hkk⟩:=h.hk;have r4:=(Hn.wR hkk h.wk).1;refine aK (step:=vW) (N:=2^64) (λt=>(v1,v2,(ps,(Mr d n C,Mr r n K)),v5,v6,MB ((ts.take t).map λt=>tcl n r K (ivL n t)),ts,(t:Int),())) ts.length (v1,v2,(ps,(Mr d n C,Mr r n K)),v5,v6,MB (ts.map λt=>tcl n r K (ivL n t)),()) (by omega) (λt ht=>?_) ?_
 ·have l1:=aJ2 ps (by rw[h.len]; omega) ts[t] (hI _ (List.getElem_mem ht));rw[h.len]at l1;have l2:=aXF h (ivL n ts[t]) aO6 (λa ha=>by have:=aLW a ha; omega) (λi hi=>bG0 hk n4 aLW hi);have l3:=aXX h hn1 hr hg (tmp n r K (ivL n ts[t])) aIC (λa ha=>by have:=bGY (λi hi=>bG0 hk n4 (x:=ivL n ts[t]) aLW hi) a ha; omega);have hp:=xK ((ts.take t).map λt=>tcl n r K (ivL n t));have l4:=insert_eq (MB ((ts.take t).map λt=>tcl n r K (ivL n t))) (tcl n r K (ivL n ts[t])) (by have:=hp.2.2; rw[List.length_map,List.length_take]at this; omega) (by unfold tcl; rw[HO]; omega) (λa ha=>by
   obtain⟨x,_,rfl⟩:=List.mem_map.1 ((hp.2.1 a).1 ha);unfold tcl; rw[HO]; omega)
  have l5:=wS ht (by omega);rw[List.take_succ_eq_append_getElem ht,List.map_append,List.map_cons,List.map_nil,aY5];simp only[vW,lI ht,iO ht,bT ht,tN,b1G ht,oC];rw[l1];show aB (lV ((ps,(Mr d n C,Mr r n K)),ivL n ts[t],())) _=_;rw[l2,aC];rw[l3,aC];show aB (fR (_,tcl n r K (ivL n ts[t]),())) _=_;rw[l4,aC,l5]
 ·have:ts.take ts.length=ts:=List.take_length;simp only[vW,lN,oD,this]
theorem b0B {l:List (List I4)}{t} h:l.getD t []=l[t]:=by grind
theorem bOL(n4:ps.length<=4) (v2:Ty.den (.prod (.prod (.prod (.list (.int .i64)) (.prod (.list (.list (.int .i64))) (.list (.list (.int .i64))))) (.list (.list (.int .i64)))) (.prod (.list (.list (.list (.int .i64)))) (.int .i64)))) (A B:List (List Int)) (v5:(List Int×List (List Int)×List (List Int)×List (List Int))×List (List (List Int))×Int) (v6:List Int)
  w (ns:List I4) {cs:List (List I4)} (le:Int) {k:Nat} hk (hc:cs[k].length<=1000) (hI:∀ t∈cs[k],I8 t) :
  CL ((w,(ns,(cs,le))),v2,(ps,(A,B)),v5,v6,(k:Int),[v6],0,())=some ((w,(ns,(cs,le))),v2,(ps,(A,B)),v5,v6,(k:Int),v6::cs[k].map (ivL ps.length),()):=by
 refine aK (step:=vU) (N:=2^64) (λt=>((w,(ns,(cs,le))),v2,(ps,(A,B)),v5,v6,(k:Int),v6::(cs[k].take t).map (ivL ps.length),(t:Int),())) cs[k].length _ (by omega) (λt ht=>?_) ?_
 ·have l1:=aJ2 ps n4 cs[k][t] (hI _ (List.getElem_mem ht));have l2:Nat.ble (v6::(cs[k].take t).map (ivL ps.length)).length 1048576=true:=bL (by grind);have l5:=wS ht (by omega);rw[List.take_succ_eq_append_getElem ht,List.map_append];simp only[vU,iO hk,tN,b0B hk,lI ht,iO ht,b1G ht,oC];rw[l1];simp only[aC,l2,l5,bO,oC];rfl
 ·simp only[vU,iO hk,tN,b0B hk,lN,oC,oD,List.take_length]
theorem bNA(n4:ps.length<=4) (v2:Ty.den (.prod (.prod (.prod (.list (.int .i64)) (.prod (.list (.list (.int .i64))) (.list (.list (.int .i64))))) (.list (.list (.int .i64)))) (.prod (.list (.list (.list (.int .i64)))) (.int .i64)))) (A B:List (List Int)) (u:List Int×List (List Int)×List (List Int)×List (List Int)) (s:Int) (v6:List Int)
  w (ns:List I4) {cs:List (List I4)} (le:Int) (hn:cs.length<=1000) (hc:∀ c∈cs,c.length<=1000) (hI:∀ c∈cs,∀ t∈c,I8 t) :
  wD ((w,(ns,(cs,le))),v2,(ps,(A,B)),(u,([],s)),v6,0,())=some (v2,(u,(cs.map (λc=>v6::c.map (ivL ps.length)),s)),v6,()):=by
 refine aK (step:=wE) (N:=2^64) (λt=>((w,(ns,(cs,le))),v2,(ps,(A,B)),(u,((cs.take t).map (λc=>v6::c.map (ivL ps.length)),s)),v6,(t:Int),())) cs.length _ (by omega) (λt ht=>?_) ?_
 ·have hm:=List.getElem_mem ht;have l1:=bOL n4 v2 A B (u,((cs.take t).map (λc=>v6::c.map (ivL ps.length)),s)) v6 w ns le ht (hc _ hm) (hI _ hm);have l2:Nat.ble ((cs.take t).map (λc=>v6::c.map (ivL ps.length))).length 1048576=true:=bL (by grind);have l5:=wS ht (by omega);rw[List.take_succ_eq_append_getElem ht,List.map_append];simp only[wE,lI ht,oC];rw[l1];simp only[aC,l2,l5,bO,oC];rfl
 ·simp only[wE,lN,oD,List.take_length]
theorem bRB(v:Int) (h0:0<=v) (h1:v<256) (rows:List I4) (hk:rows.length<=3) (hr:∀ t∈rows,I8 t) (vals:Bool) (ns:List I4) (hns:ns.length<=9) (hnI:∀ t∈ns,I8 t) (cs:List (List I4)) (hcs:cs.length<=4) (hcl:∀ c∈cs,c.length<=4) (hcI:∀ c∈cs,∀ t∈c,I8 t) (le:Int) (hl0:0<=le) (hl1:le<256) :
  ∃ ps n d r C K,(RT ps n d r C K/\Big d n C 960000)/\1<=n/\vF ((v,(rows,vals)),())=some ((ps,(Mr d n C,Mr r n K)),()) /\
   ((S6 r K=true/\eG (((v,(rows,vals)),(ns,(cs,le))),())=some ((((ps,(Mr d n C,Mr r n K)),[]),([],1+le%3)),false,())) \/
     (S6 r K=false/\eG (((v,(rows,vals)),(ns,(cs,le))),())=some ((((ps,(Mr d n C,Mr r n K)),aV5 n r K ns),(aAR n cs,1+le%3)),true,())/\GQ ps n d r C K (aV5 n r K ns) (aAR n cs) (1+le%3))):=by
 obtain⟨d,r,C,K,m1,rt,k8,c8⟩:=bEB v h0 h1 rows hk hr vals;have hn1:=bPY (v%10).toNat (by omega);generalize L12.getD (v%10).toNat []=ps at m1 rt k8 c8 hn1;have n4:=rt.n4;refine⟨ps,ps.length,d,r,C,K,⟨rt,c8⟩,hn1,m1,?_⟩;generalize hnn:ps.length=n at m1 hn1 rt k8 c8 n4;obtain⟨p,hkk⟩:=rt.hk;have e1:ltI (n:Int) 0=false:=by rw[aF]; exact oF (by omega)
 have e2:ltI (n:Int) (n:Int)=false:=lN n;have e3:ltI 1048576 (n:Int)=false:=by rw[aF]; exact oF (by omega)
 have e4:=bPH rt hn1;have e5:=bMU hl0 hl1;have e6:Nat.ble ns.length 1048576=true:=bL (by omega);have e7:Nat.ble [(((0:Int),((0:Int),((0:Int),(0:Int)))):I4)].length 1048576=true:=rfl;cases hlost:S6 r K with
 | true =>
  rw[hlost]at e4;refine .inl ⟨rfl,?_⟩;simp only[eG,m1,aC,hnn,e1,e2,e3,e4,e5,Bool.not_false,oC]
 | false =>
  rw[hlost]at e4;refine .inr ⟨rfl,?_,?_⟩
  ·have hr1:1<=r:=by
    unfold S6 at hlost;grind
   have hg:0<K 0 0:=by
    unfold S6 at hlost;rw[Bool.or_eq_false_iff]at hlost;have:=of_decide_eq_false hlost.2;have:=a8L hkk hr1;omega
   have l0:=bMO rt k8 hn1 hr1 hg ((v,(rows,vals)),(ns,(cs,le))) ((([],([],[])),[]),([],0)) ((ps,(Mr d n C,(Mr r n K,[]))),([],1+le%3)) (List.replicate n 0) (ts:=(0,(0,(0,0)))::ns) (by rw[List.length_cons]; omega) (λt ht=>by
    rcases List.mem_cons.1 ht with rfl|ht
    ·intro i hi;rcases(show i=0\/i=1\/i=2\/i=3 by omega)with rfl|rfl|rfl|rfl <;> decide
    ·exact hnI t ht)
   have l2:=bNA (ps:=ps) (by omega) ((([],([],[])),[]),([],0)) (Mr d n C) (Mr r n K) (ps,(Mr d n C,(Mr r n K,aV5 n r K ns))) (1+le%3) (List.replicate n 0) (v,(rows,vals)) ns (cs:=cs) le (by omega) (λc hc=>by have:=hcl c hc; omega) hcI;rw[hnn]at l2;have hadd:[((0,(0,(0,0))):I4)]++ns=(0,(0,(0,0)))::ns:=rfl;simp only[eG,m1,aC,hnn,e1,e2,e3,e4,e5,e6,e7,Bool.not_false,oC,oD,tN,hadd];have l0:vI (((v,(rows,vals)),(ns,(cs,le))),((([],([],[])),[]),([],0)),(ps,(Mr d n C,Mr r n K)),((ps,(Mr d n C,(Mr r n K,[]))),([],1+le%3)),List.replicate n (0:Ty.den (.int .i64)),[],(0,(0,(0,0)))::ns,0,())=_:=l0
   rw[l0];simp only[aC];show aB (wD (((v,(rows,vals)),(ns,(cs,le))),((([],([],[])),[]),([],0)),(ps,(Mr d n C,Mr r n K)),((ps,(Mr d n C,(Mr r n K,aV5 n r K ns))),([],1+le%3)),List.replicate n 0,0,())) _=_;rw[l2];simp only[aC];unfold aAR
   by_cases c0:cs.length=0
   ·have e8:eqI (((cs.map (λc=>List.replicate n 0::c.map (ivL n))).length:Nat):Int) 0=true:=by rw[List.length_map,c0]; rfl
    rw[if_pos c0,e8]; rfl
   ·have e8:eqI (((cs.map (λc=>List.replicate n 0::c.map (ivL n))).length:Nat):Int) 0=false:=by rw[List.length_map,bN]; exact oF (by omega)
    rw[if_neg c0,e8]; rfl
  ·have hr1:1<=r:=by
    unfold S6 at hlost;rw[Bool.or_eq_false_iff]at hlost;have:=of_decide_eq_false hlost.1; omega
   have hg:0<K 0 0:=by
    unfold S6 at hlost;rw[Bool.or_eq_false_iff]at hlost;have:=of_decide_eq_false hlost.2;have:=a8L hkk hr1;omega
   have hp:=xK (((0,(0,(0,0)))::ns).map λt=>tcl n r K (ivL n t));have hmem:∀ a∈aV5 n r K ns,∃ t,a=tcl n r K (ivL n t):=λa ha=>by
    obtain⟨t,_,rfl⟩:=List.mem_map.1 ((hp.2.1 a).1 ha);exact⟨t,rfl⟩
   have hz:∀ a∈List.replicate n (0:Int),a.natAbs<=9:=λa ha=>by rw[(List.mem_replicate.1 ha).2]; decide
   have hx9:∀ x:List Int,x.length=n->(∀ a∈x,a.natAbs<=9)->x.length=n/\(∀ a∈x,a.natAbs<=1000)/\∀ i,i<r->(dot n (eK x) (K i)).natAbs<=36000000:=λx h1 h2=>⟨h1,λa ha=>by have:=h2 a ha; omega,λi hi=>bG0 k8 n4 h2 hi⟩
   have hq:∀ c∈aAR n cs,(0<c.length/\c.length<=8)/\∀ x∈c,x.length=n/\(∀ a∈x,a.natAbs<=1000)/\∀ i,i<r->(dot n (eK x) (K i)).natAbs<=36000000:=λc hc=>by
    unfold aAR at hc;split at hc
    ·rw[List.mem_singleton.1 hc];refine⟨by simp,λx hx=>?_⟩;rw[List.mem_singleton.1 hx];exact hx9 _ List.length_replicate hz
    ·obtain⟨c',hc',rfl⟩:=List.mem_map.1 hc;have:=hcl c' hc';unfold bLY;refine⟨by rw[List.length_cons,List.length_map]; omega,λx hx=>?_⟩;rcases List.mem_cons.1 hx with rfl|hx
     ·exact hx9 _ List.length_replicate hz
     ·obtain⟨t,_,rfl⟩:=List.mem_map.1 hx;exact hx9 _ aO6 aLW
   have hql:0<(aAR n cs).length/\(aAR n cs).length<=4:=by
    unfold aAR;split
    ·exact⟨by simp,by simp⟩
    ·rw[List.length_map]; omega
   refine⟨rt,k8,hn1,hr1,hg,hp.1,?_,?_,λa ha=>?_,λa ha=>?_,λa ha=>?_,hql.1,hql.2,λc hc=>(hq c hc).1,λc hc=>(hq c hc).2,by omega,by omega⟩
   ·exact List.length_pos_of_mem ((hp.2.1 (tcl n r K (ivL n (0,(0,(0,0)))))).2 (by simp))
   ·have:=hp.2.2;rw[List.length_map,List.length_cons]at this;unfold aV5; omega
   ·obtain⟨t,rfl⟩:=hmem a ha;unfold tcl; exact HO _ _ _
   ·obtain⟨t,rfl⟩:=hmem a ha;exact bZ9 rt k8 hn1 hr1 hg aLW
   ·obtain⟨t,rfl⟩:=hmem a ha;unfold tcl; exact b2N _
end
def tC:List (List Int):=[[4,-4,1]]
def tK:List (List Int):=[[1,0,-4],[0,1,4]]
def tL:List (List Int):=[[0,0],[0,1],[0,2],[0,3],[0,4],[0,5],[0,6]]
def tQ:List (List (List Int)):=[[[0,0,0],[-2,0,1],[-1,1,0]],[[0,0,0],[1,1,-1],[-1,1,0]]]
theorem bVU:vF ((0,([(4,(-4,(1,0)))],false)),())=some (([2,3,5],(tC,tK)),()):=by kernel_rfl
theorem b08:∃ C K,(RT [2,3,5] 3 1 2 C K/\Big 2 3 K 960000)/\Mr 1 3 C=tC/\Mr 2 3 K=tK:=by
 obtain⟨d,r,C,K,h1,h2⟩:=bEB 0 (by decide) (by decide) [(4,(-4,(1,0)))] (by decide) (λt ht=>by
  obtain rfl:=List.mem_singleton.1 ht;intro i hi;rcases(show i=0\/i=1\/i=2\/i=3 by omega)with rfl|rfl|rfl|rfl <;> decide) false
 have hL:L12.getD ((0:Int)%10).toNat []=[2,3,5]:=by decide
 rw[hL]at h1 h2;rw[bVU]at h1;have h1:=oB h1;simp only[oP,and_true,true_and]at h1;have e1:Mr d 3 C=tC:=h1.1.symm;have e2:Mr r 3 K=tK:=h1.2.symm;have l1:d=1:=by have:=oZ List.length e1; rwa[eO]at this
 have l2:r=2:=by have:=oZ List.length e2; rwa[eO]at this
 subst l1; subst l2;exact⟨C,K,⟨h2.1,h2.2.1⟩,e1,e2⟩
theorem a1E {r n:Nat}{K:Nat->V}{m:List (List Int)}(hw:Wd r n K)(h:Mr r n K=m){i:Nat}(hi:i<r):K i=aDR m i:=by
 rw[<- h];unfold aDR;rw[a2X K hi,aTR (hw i hi)]
theorem bXG {r n:Nat}{K:Nat->V}{m:List (List Int)}(hw:Wd r n K)(h:Mr r n K=m)(hr:1<=r):rL n r K=rL n r (aDR m):=by
 funext note x
 unfold rL;rw[a1E hw h (show 0<r by omega)]
 congr 2
 unfold tmp Vr;refine List.map_congr_left λi hi=>?_
 rw[a1E hw h (List.mem_range.1 hi)]
theorem bEF:∃ C K,GQ [2,3,5] 3 1 2 C K tL tQ 2/\Mr 1 3 C=tC/\Mr 2 3 K=tK/\rL 3 2 K=rL 3 2 (aDR tK):=by
 obtain⟨C,K,h,e1,e2⟩:=b08;have hK:K 0 0=1:=by rw[a1E h.1.wk e2 (show 0<2 by omega)]; rfl
 have hd:∀ c∈tQ,∀ x∈c,x.length=3/\∀ a∈x,a.natAbs<=9:=by decide
 refine⟨C,K,⟨h.1,h.2,by decide,by decide,by rw[hK]; decide,by unfold SI; decide,by decide,by decide,by decide,by decide,by rw[hK]; decide,by decide,by decide,by decide,λc hc x hx=>⟨(hd c hc x hx).1,λa ha=>by have:=(hd c hc x hx).2 a ha; omega,λi hi=>bG0 h.2 (by decide) (hd c hc x hx).2 hi⟩,by decide,by decide⟩,e1,e2,bXG h.1.wk e2 (by decide)⟩
def tT:List Int×List (List Int)×List (List Int):=([2,3,5],(tC,tK))
def bGS(x:List Int):Bool:=Nat.beq x.length 3&&(eqI (x.getD 0 0) 0&&(eqI (x.getD 2 0) 0&&(!(ltI (x.getD 1 0) 0)&&ltI (x.getD 1 0) 9)))
def fTc(x:aM [.agg TyG]):oK [.agg TyH,.int .i64]:=match x with
 | (t,())=>bif decide (t=tT) then some ((2,[[1,0]]),0,()) else none
def fTm(x:aM [.list TyE,.list TyD]):oK [.int .i64]:=match x with
 | (p,l,())=>bif decide (p=[2,3,5])&&(Nat.ble l.length 100&&l.all bGS) then some (0,()) else none
def fTt(x:aM [.agg TyG,.list TyE]):oK [.list TyE,.int .i64]:=match x with
 | (t,y,())=>bif decide (t=tT)&&bGS y then some ([0,y.getD 1 0],0,()) else none
def fTr(x:aM [.agg TyH,.list TyE]):oK [.list TyE,.int .i64]:=match x with
 | (l,y,())=>bif decide (l=(2,[[1,0]]))&&(Nat.beq y.length 2&&(eqI (y.getD 0 0) 0&&(!(ltI (y.getD 1 0) 0)&&ltI (y.getD 1 0) 9))) then some (y,0,()) else none
theorem a23 {x}(h:bGS x=true):∃ k ,x=[0,k,0]/\0<=k/\k<9:=by
 unfold bGS at h;simp only[oA,bN,aF]at h;obtain⟨h1,h2,h3,h4,h5⟩:=h
 match x,h1 with
 | [a,b,c],_ =>
  grind
theorem b1D:∀ x y,fTc x=some y->iG x=some y:=by
 rintro⟨t,⟨⟩⟩ y h;unfold fTc at h;dsimp only at h
 by_cases c:t=tT
 ·rw[oT c,oC]at h;obtain rfl:=oB h;subst c;obtain⟨C,K,g,e1,e2,_⟩:=bEF;have:=U0 g.rt g.n1 g.r1 g.g;rw[e1,e2,a1E g.rt.wk e2 (show 0<2 by omega)]at this;exact this
 ·rw[oF c]at h; cases h
theorem b0R:∀ x y,fTm x=some y->rK x=some y:=by
 rintro⟨p,l,⟨⟩⟩ y h;unfold fTm at h;obtain⟨hb,h⟩:=aJ h;obtain rfl:=oB h;simp only[oA,decide_eq_true_eq,List.all_eq_true]at hb;obtain⟨rfl,h1,h2⟩:=hb;obtain⟨C,K,g,_⟩:=bEF;refine aN9 g.rt.pr rfl (by simp) l (by have:=oL h1; omega) (λx hx=>?_) (λx hx a ha=>?_)
 ·obtain⟨k,rfl,_⟩:=a23 (h2 x hx); rfl
 ·obtain⟨k,rfl,k1,k2⟩:=a23 (h2 x hx);grind
theorem b0C:∀ x y,fTt x=some y->gW x=some y:=by
 rintro⟨t,x,⟨⟩⟩ y h;unfold fTt at h;dsimp only at h;obtain⟨hb,h⟩:=aJ h;obtain rfl:=oB h;simp only[oA,decide_eq_true_eq]at hb;obtain⟨rfl,h1⟩:=hb;obtain⟨k,rfl,k1,k2⟩:=a23 h1;obtain⟨C,K,g,e1,e2,_⟩:=bEF;have h9:∀ a∈[0,k,0],a.natAbs<=9:=λa ha=>by
  simp only[List.mem_cons,List.mem_nil_iff,or_false]at ha;omega
 have:=aM9 g.rt [0,k,0] rfl (λa ha=>by have:=h9 a ha; omega) (λi hi=>by have:=bG0 g.k8 (by decide) h9 hi; omega);rw[e1,e2]at this;have ht:tmp 3 2 K [0,k,0]=[0,k]:=by
  show [dot 3 (eK [0,k,0]) (K 0),dot 3 (eK [0,k,0]) (K 1)]=_;rw[a1E g.rt.wk e2 (show 0<2 by omega),a1E g.rt.wk e2 (show 1<2 by omega)];simp[dot,eK,aDR,tK,List.getD]
 rw[ht]at this;exact this
theorem b05:∀ x y,fTr x=some y->gD x=some y:=by
 rintro⟨l,x,⟨⟩⟩ y h;unfold fTr at h;dsimp only at h;obtain⟨hb,h⟩:=aJ h;obtain rfl:=oB h;simp only[oA,bN,aF,decide_eq_true_eq,Bool.not_eq_true',decide_eq_false_iff_not]at hb;obtain⟨rfl,h1,h2,h3,h4⟩:=hb
 match x,h1 with
 | [a,b],_ =>
  have h2:a=0:=h2;subst h2;have:=UB (r:=2) (g:=1) (by decide) (by decide) (by decide) (by decide) [0,b] rfl (λa ha=>by
   grind)
  exact this
def bW9:List Ent:=[⟨77,[.agg TyG],[.agg TyH,.int .i64],fTc⟩,⟨69,[.list TyE,.list TyD],[.int .i64],fTm⟩,⟨56,[.agg TyG,.list TyE],[.list TyE,.int .i64],fTt⟩,⟨79,[.agg TyH,.list TyE],[.list TyE,.int .i64],fTr⟩]
theorem bWN:∀ e∈bW9,e.OK tP:=by
 intro e he;simp only[bW9,List.mem_cons,List.mem_nil_iff,or_false]at he;rcases he with rfl|rfl|rfl|rfl
 ·exact λx y h=>aKJ x y (b1D x y h)
 ·exact λx y h=>aMR x y (b0R x y h)
 ·exact λx y h=>aBG x y (b0C x y h)
 ·exact λx y h=>aD3 x y (b05 x y h)
def bUD(g:FuncId)(qs:List PV):Option PV:=match a7A bW9 g qs with
 | some r=>(match r.val with
  | some y=>some (r.out y)
  | none=>none)
 | none=>none
theorem bWR:∀ g args r,bUD g args=some r->IE tP g args r:=by
 intro g args r h;unfold bUD at h;split at h
 ·rename_i q hq;split at h
  ·rename_i y hy;obtain rfl:=oB h;exact aS9 bWN g args q hq y hy
  ·cases h
 ·cases h
def bZO:List Nat->Nat->Bool
 | [],_=>false
 | a::r,g=>bif Nat.beq a g then true else bZO r g
def shT:List Nat:=[80,124,125,160,219]
theorem bM4:(match a9C tP (aVR tP) (bZO shT) bUD 1000 14 59 (lF [] ())with|some r=>bFX [.agg TyJ] r|none=>none)=some (((tT,tL),(tQ,2)),()):=by kernel_rfl
def BN(x:aM []):oK [.agg TyJ]:=some (((tT,tL),(tQ,2)),())
theorem aQV:WA tP 59 _ _ BN:=by
 rintro⟨⟩ y h;obtain rfl:=oB h;have h:=bM4;split at h
 ·rename_i r hr;intro w G vs hl hv;obtain⟨h1,h2⟩:=JP aQ bWR hr w G vs hl hv;exact⟨h1,h2.mono λe w' ⟨v',G',e1,e2,e3,e4⟩=>⟨v',G',e1,e2,e3,aOH h e4⟩⟩
 ·cases h
abbrev aBR:Ent:=⟨59,_,_,BN⟩
theorem aMU:Ent.OK tP aBR:=aQV
end Go.PM
namespace Go.PM
open Go Go.RowKit Go.Proofs Tryz
set_option maxHeartbeats 4000000
def TG(hharmony_Parts:aM [.agg TyJ]->Option (aM [.list TyD,.int .i64])) (hharmony_Places:aM [.agg TyJ]->Option (aM [.list TyO,.int .i64])) (hschismalaw41_triads:aM []->Option (aM [.agg TyJ])) (x:aM []):Option (aM [.bool]):=match x with
 | (()) =>
  aB (hschismalaw41_triads (())) λy1 =>
  aB (hharmony_Places (y1.1,())) λy2 =>
  aB (hharmony_Parts (y1.1,())) λy3 =>
  bif eqI y2.2.1 0 then
   bif eqI (y2.1.length:Int) 6 then
    bif aE 2 y2.1.length then bif (eqI ((y2.1.getD 2 (0,0)).1) 0&&(eqI ((y2.1.getD 2 (0,0)).2) 2&&true)) then
     bif aE 3 y2.1.length then bif (eqI ((y2.1.getD 3 (0,0)).1) 1&&(eqI ((y2.1.getD 3 (0,0)).2) 3&&true)) then
      bif eqI y3.2.1 0 then
       some (eqI (y3.1.length:Int) 1,())
      else some (false,())
     else some (false,()) else none
    else some (false,()) else none
   else some (false,())
  else some (false,())
def yQ(x:aM []):Option (aM [.bool]):=TG xN yU BN x
def KA:Code:=bY f12
abbrev aDZ:Env:=B1 [W0,aQC,aBR]
theorem aOF:dN tP aDZ:=aS ⟨X6,UM,aMU,trivial⟩
def QM(id:Nat):Option cI:=none
theorem aNS:bA KA=[]:=by kernel_rfl
theorem aMI(hharmony_Parts:aM [.agg TyJ]->Option (aM [.list TyD,.int .i64]))(hharmony_Places:aM [.agg TyJ]->Option (aM [.list TyO,.int .i64]))(hschismalaw41_triads:aM []->Option (aM [.agg TyJ])):∀ x,bII tP (B1 [⟨48,[.agg TyJ],[.list TyD,.int .i64],hharmony_Parts⟩,⟨21,[.agg TyJ],[.list TyO,.int .i64],hharmony_Places⟩,⟨59,[],[.agg TyJ],hschismalaw41_triads⟩]) f12 (aP f12) QM KA [] [.bool] x=TG hharmony_Parts hharmony_Places hschismalaw41_triads x:=by
 rintro⟨⟩
 kernel_rfl
theorem aO5:∀ x,bII tP aDZ f12 (aP f12) QM KA _ _ x=yQ x:=aMI xN yU BN
theorem aRU:WA tP 12 _ _ yQ:=W4 aQ aOF func12 (c:=KA) (by kernel_rfl) (keep:=aP f12) (lt:=QM) (aO aNS trivial) aO5
end Go.PM
namespace Go.PM
open Go Go.RowKit Go.Proofs Go.Lz
def tPz:List PL:=[((0,0),[0,1,4]),((0,1),[1,2,5]),((0,2),[2,3,6]),((1,3),[0,3,4]),((1,4),[1,4,5]),((1,5),[2,5,6])]
theorem b2B:plA tL tQ (rL 3 2 (aDR tK))=tPz:=by rfl
theorem bUR:yL (((([2,3,5],(tC,tK)),tL),(tQ,2)),tPz,[],List.replicate 6 false,6,0,())=some ([[0,1,2,3,4,5]],()):=by kernel_rfl
theorem bON:yQ ()=some (true,()):=by
 obtain⟨C,K,h,e1,e2,e3⟩:=bEF;have hq:=h.qk;rw[e1,e2,e3]at hq;have ha:=all_eq hq;rw[b2B]at ha;have p1:=aTW (by decide) ha;have p2:xN (((([2,3,5],(tC,tK)),tL),(tQ,2)),())=some ([[0,1,2,3,4,5]],0,()):=by
  have l1:ltI (tPz.length:Int) 0=false:=by decide
  have l2:ltI (tPz.length:Int) (tPz.length:Int)=false:=by decide
  have l3:ltI 1048576 (tPz.length:Int)=false:=by decide
  have k:yL (((([2,3,5],(tC,tK)),tL),(tQ,2)),tPz,[],List.replicate ((tPz.length:Int).toNat) (false:Ty.den .bool),(tPz.length:Int),0,())=some ([[0,1,2,3,4,5]],()):=bUR;simp only[xN,ha,aC,e00,l1,l2,l3,Bool.not_true,Bool.not_false,oC,oD,k]
 have triads_eq:BN ()=some (((([2,3,5],(tC,tK)),tL),(tQ,2)),()):=rfl;have e6:eqI ((tPz.map (·.1)).length:Int) 6=true:=by decide
 simp only[yQ,TG,triads_eq,aC,p1,p2,e00,oC,e6];decide
end Go.PM
namespace Go.PM
open Go Go.RowKit Go.Proofs
set_option maxHeartbeats 4000000
def aZ(x:aM []):oK [.bool]:=some (true,())
theorem aPA:∀ x,yQ x=aZ x:=by
 rintro⟨⟩;exact bON
theorem aRH:WA tP 12 _ _ aZ:=by
 have h:yQ=aZ:=funext aPA;rw[<- h];exact aRU
abbrev DA:Ent:=⟨12,_,_,aZ⟩
theorem rV:Ent.OK tP DA:=aRH
end Go.PM
namespace Go.PM
open Go Go.RowKit Go.Proofs Go.Lz
abbrev PT:=(Int×List I4×Bool)×List I4×List (List I4)×Int
theorem bTW(p:Int×List I4×Bool):FM (p,())=some (decide (p.2.1.length<=3),()):=by
 obtain⟨a,b,c⟩:=p;have:(!(ltI 3 b.length))=decide (b.length<=3):=by
  rw[aF];grind
 simp only[FM,this]
theorem bS7(x:PT)(hl:x.2.2.1.length<=9223372036854775807):∃ b,dU (x,())=some (b,())/\(b=true->x.1.2.1.length<=3/\x.2.1.length<=9/\x.2.2.1.length<=4/\∀ c∈x.2.2.1,c.length<=4):=by
 obtain⟨⟨v,rows,vals⟩,ns,cs,le⟩:=x;have hl:cs.length<=9223372036854775807:=hl;have key:=ME (step:=vO) (N:=2^64) (λt=>(((v,(rows,vals)),(ns,(cs,le))),(t:Int),())) (λi=>4<(cs.getD i []).length) (λj=>.inl (false,())) cs.length (.inr (((v,(rows,vals)),(ns,(cs,le))),())) (by omega) (λt ht=>?_) ?_
 ·rcases key with ⟨j,h1,h2,_,h4⟩|⟨h1,h2⟩
  ·have h4:CI (((v,(rows,vals)),(ns,(cs,le))),0,())=some (.inl (false,())):=h4;refine⟨false,?_,λh=>by cases h⟩;simp only[dU,h4,aC,rT]
  ·have h2:CI (((v,(rows,vals)),(ns,(cs,le))),0,())=some (.inr (((v,(rows,vals)),(ns,(cs,le))),())):=h2;have hf:=bTW (v,(rows,vals))
   by_cases c1:rows.length<=3
   ·rw[oT c1]at hf
    by_cases c2:ns.length<=9
    ·have e2:ltI 9 (ns.length:Int)=false:=by rw[aF]; exact oF (by omega)
     by_cases c3:cs.length<=4
     ·have e3:ltI 4 (cs.length:Int)=false:=by rw[aF]; exact oF (by omega)
      refine⟨true,?_,λ_=>⟨c1,c2,c3,λc hc=>?_⟩⟩
      ·simp only[dU,h2,aC,bV,hf,e2,e3,oC,Bool.not_false]
      ·obtain⟨i,hi,rfl⟩:=List.getElem_of_mem hc;have:=h1 i hi;rw[b0B hi]at this;omega
     ·have e3:ltI 4 (cs.length:Int)=true:=by rw[aF]; exact oT (by omega)
      refine⟨false,?_,λh=>by cases h⟩;simp only[dU,h2,aC,bV,hf,e2,e3,oC,Bool.not_false,Bool.not_true]
    ·have e2:ltI 9 (ns.length:Int)=true:=by rw[aF]; exact oT (by omega)
     refine⟨false,?_,λh=>by cases h⟩;simp only[dU,h2,aC,bV,hf,e2,oC,oD,Bool.not_true]
   ·rw[oF c1]at hf;refine⟨false,?_,λh=>by cases h⟩;simp only[dU,h2,aC,bV,hf,oD]
 ·have l1:aA .i64 ((t:Int)+1)=((t+1:Nat):Int):=bP t (by omega)
  by_cases c:4<(cs.getD t []).length
  ·have e1:ltI 4 ((cs.getD t []).length:Int)=true:=by rw[aF]; exact oT (by omega)
   rw[if_pos c];simp only[vO,lI ht,iO ht,tN,e1,oC]
  ·have e1:ltI 4 ((cs.getD t []).length:Int)=false:=by rw[aF]; exact oF (by omega)
   rw[if_neg c];simp only[vO,lI ht,iO ht,tN,e1,l1,oC,oD]
 ·simp only[vO,lN,oD]
structure XP (x:PT):Prop where
 p:(0<=x.1.1/\x.1.1<256)/\∀ t∈x.1.2.1,I8 t
 n:∀ t∈x.2.1,I8 t
 c:∀ c∈x.2.2.1,∀ t∈c,I8 t
 l:0<=x.2.2.2/\x.2.2.2<256
 k:x.2.2.1.length<=9223372036854775807
theorem aHL:aZ (())=some (true,()):=rfl
theorem aHK(x:PT) (h:XP x):dU (x,())=some (false,())\/(dU (x,())=some (true,())/\∃ ps n d r C K,(RT ps n d r C K/\Big d n C 960000)/\1<=n /\
  ((S6 r K=true/\∃ s:Int,eG (x,())=some ((((ps,(Mr d n C,Mr r n K)),[]),([],s)),false,())) \/
    (∃ (l:List (List Int)) (qs:List (List (List Int))) (s:Int),eG (x,())=some ((((ps,(Mr d n C,Mr r n K)),l),(qs,s)),true,())/\GQ ps n d r C K l qs s/\s<=3/\∀ c∈qs,c.length<=5))):=by
 obtain⟨b,hf,hb⟩:=bS7 x h.k;cases b with
 | false=>exact .inl hf
 | true =>
  obtain⟨b1,b2,b3,b4⟩:=hb rfl;obtain⟨ps,n,d,r,C,K,h1,h2,_,h4⟩:=bRB x.1.1 h.p.1.1 h.p.1.2 x.1.2.1 b1 h.p.2 x.1.2.2 x.2.1 b2 h.n x.2.2.1 b3 b4 h.c x.2.2.2 h.l.1 h.l.2;refine .inr ⟨hf,ps,n,d,r,C,K,h1,h2,?_⟩;rcases h4 with ⟨e1,e2⟩|⟨e1,e2,e3⟩
  ·exact .inl ⟨e1,_,e2⟩
  ·refine .inr ⟨aV5 n r K x.2.1,aAR n x.2.2.1,1+x.2.2.2%3,e2,e3,?_,λc hc=>?_⟩
   ·have:=Int.emod_lt_of_pos x.2.2.2 (show (0:Int)<3 by decide);omega
   unfold aAR at hc;split at hc
   ·rw[List.mem_singleton.1 hc]; simp
   ·obtain⟨c',hc',rfl⟩:=List.mem_map.1 hc;have:=b4 c' hc';simp only[bLY,List.length_cons,List.length_map]; omega
theorem a0C a:eqI a a=true:=by rw[bN]; simp
end Go.PM
namespace Go.PM
open Go Go.RowKit Go.Proofs Tryz
set_option maxHeartbeats 4000000
abbrev AF:List (Nat×Kd):=[(1,.int .i64),(2,.int .i64),(7,.box 41 TyJ),(9,.list TyO),(11,.list TyE),(12,.int .i64),(13,.int .i64),(14,.int .i64),(15,.list TyO),(16,.int .i64)]
abbrev LJ:List (Ex×List (Nat×Kd)):=[(.ret,[(6,.bool)]),(.exit 0,[(1,.int .i64),(2,.int .i64),(7,.box 41 TyJ),(9,.list TyO),(11,.list TyE),(12,.int .i64),(13,.int .i64),(14,.int .i64)])]
def pT(x:Shape.den AF):oS AF LJ:=match x with
 | (v1,v2,v7,v9,v11,v12,v13,v14,v15,v16,()) =>
  bif ltI v16 (v9.length:Int) then
   bif aE v16 v9.length then bif aE v16 v15.length then bif !(eqI ((v9.getD v16.toNat (0,0)).1) ((v15.getD v16.toNat (0,0)).1)&&(eqI ((v9.getD v16.toNat (0,0)).2) ((v15.getD v16.toNat (0,0)).2)&&true)) then
    some (.inr (.inl (false,())))
   else some (.inl (v1,v2,v7,v9,v11,v12,v13,v14,v15,(aA .i64 (v16+1)),())) else none else none
  else some (.inr (.inr ((v1,v2,v7,v9,v11,v12,v13,v14,()))))
def xR(x:Shape.den AF):oX LJ:=aV pT (2^64) x
abbrev vE:List (Nat×Kd):=[(10,.list TyO),(18,.list TyO),(20,.int .i64)]
abbrev E3:List (Ex×List (Nat×Kd)):=[(.ret,[(6,.bool)]),(.exit 0,[])]
def jZ(x:Shape.den vE):oS vE E3:=match x with
 | (v10,v18,v20,()) =>
  bif ltI v20 (v10.length:Int) then
   bif aE v20 v10.length then bif aE v20 v18.length then bif !(eqI ((v10.getD v20.toNat (0,0)).1) ((v18.getD v20.toNat (0,0)).1)&&(eqI ((v10.getD v20.toNat (0,0)).2) ((v18.getD v20.toNat (0,0)).2)&&true)) then
    some (.inr (.inl (false,())))
   else some (.inl (v10,v18,(aA .i64 (v20+1)),())) else none else none
  else some (.inr (.inr ((()))))
def sY(x:Shape.den vE):oX E3:=aV jZ (2^64) x
def fA(x:aM [.agg TyK,.agg (.prod (.int .u8) (.int .u8)),.int .i8]):oK [.bool]:=match x with
 | (v0,v1,v2,()) =>
  aB (aZ (())) λy1 =>
  bif y1.1 then
   aB (dU (v0,())) λy2 =>
   bif y2.1 then
    aB (eG (v0,())) λy3 =>
    bif y3.2.1 then
     aB (yU (y3.1,())) λy4 =>
     bif !(eqI y4.2.1 0) then
      some (false,())
     else bif eqI (y3.1.1.1.2.1.length:Int) 0 then
      some (true,())
     else bif eqI (y3.1.2.1.length:Int) 0 then none else bif aE ((IntKind.wrap .i64 v1.1).tmod (y3.1.2.1.length:Int)) y3.1.2.1.length then bif Nat.ble (y3.1.2.1.getD (((IntKind.wrap .i64 v1.1).tmod (y3.1.2.1.length:Int)).toNat) []).length 1048576 then bif Nat.ble ([]:List Int).length 1048576 then bif eqI (y3.1.1.1.2.1.length:Int) 0 then none else bif aE ((IntKind.wrap .i64 v1.2).tmod (y3.1.1.1.2.1.length:Int)) y3.1.1.1.2.1.length then aB (aN2 ((y3.1.1.1.2.1.getD (((IntKind.wrap .i64 v1.2).tmod (y3.1.1.1.2.1.length:Int)).toNat) []),(IntKind.wrap .i64 (v2.tmod 5)),())) λy5 =>
     bif !(eqI y5.2.1 0) then
      some (false,())
     else bif aE (aA .i64 ((([]++(y3.1.2.1.getD (((IntKind.wrap .i64 v1.1).tmod (y3.1.2.1.length:Int)).toNat) [])).length:Int)-1)) ([]++(y3.1.2.1.getD (((IntKind.wrap .i64 v1.1).tmod (y3.1.2.1.length:Int)).toNat) [])).length then bif Nat.blt ((aA .i64 ((([]++(y3.1.2.1.getD (((IntKind.wrap .i64 v1.1).tmod (y3.1.2.1.length:Int)).toNat) [])).length:Int)-1)).toNat) ([]++(y3.1.2.1.getD (((IntKind.wrap .i64 v1.1).tmod (y3.1.2.1.length:Int)).toNat) [])).length then aB (aBB ((([]++(y3.1.2.1.getD (((IntKind.wrap .i64 v1.1).tmod (y3.1.2.1.length:Int)).toNat) [])).getD ((aA .i64 ((([]++(y3.1.2.1.getD (((IntKind.wrap .i64 v1.1).tmod (y3.1.2.1.length:Int)).toNat) [])).length:Int)-1)).toNat) []),y5.1,())) λy6 =>
     bif !(eqI y6.2.1 0) then
      some (true,())
     else aB (X4 (y3.1.1.1.1,y6.1,())) λy7 =>
     bif !(eqI y7.1 0) then
      some (true,())
     else bif aE (aA .i64 ((([]++(y3.1.2.1.getD (((IntKind.wrap .i64 v1.1).tmod (y3.1.2.1.length:Int)).toNat) [])).length:Int)-1)) ([]++(y3.1.2.1.getD (((IntKind.wrap .i64 v1.1).tmod (y3.1.2.1.length:Int)).toNat) [])).length then bif Nat.blt ((aA .i64 ((([]++(y3.1.2.1.getD (((IntKind.wrap .i64 v1.1).tmod (y3.1.2.1.length:Int)).toNat) [])).length:Int)-1)).toNat) ([]++(y3.1.2.1.getD (((IntKind.wrap .i64 v1.1).tmod (y3.1.2.1.length:Int)).toNat) [])).length then bif Nat.ble y3.1.2.1.length 1048576 then bif aE ((IntKind.wrap .i64 v1.1).tmod (y3.1.2.1.length:Int)) y3.1.2.1.length then bif Nat.blt (((IntKind.wrap .i64 v1.1).tmod (y3.1.2.1.length:Int)).toNat) y3.1.2.1.length then aB (yU ((y3.1.1,((y3.1.2.1.set (((IntKind.wrap .i64 v1.1).tmod (y3.1.2.1.length:Int)).toNat) (([]++(y3.1.2.1.getD (((IntKind.wrap .i64 v1.1).tmod (y3.1.2.1.length:Int)).toNat) [])).set ((aA .i64 ((([]++(y3.1.2.1.getD (((IntKind.wrap .i64 v1.1).tmod (y3.1.2.1.length:Int)).toNat) [])).length:Int)-1)).toNat) y6.1)),y3.1.2.2)),())) λy8 =>
     bif !(eqI y8.2.1 0) then
      some (false,())
     else bif !(eqI (y4.1.length:Int) (y8.1.length:Int)) then
      some (false,())
     else aB (sY (y4.1,y8.1,0,())) λz9 =>
     mN z9 (λa10=>some (a10.1,())) λb11 =>
     some (true,()) else none else none else none else none else none else none else none else none else none else none else none
    else some (true,())
   else aB (aZ (())) λy12 =>
   some (y12.1,())
  else aB (aZ (())) λy13 =>
  some (y13.1,())
theorem X7:WA tP 4 _ _ fA:=oU (aS (oV UM (oV a4V (oV aR3 (oV bBY (oV zR (oV zS (oV rV oW)))))))) func4 27 (lp:=sY) rfl (by kernel_rfl) (by rintro⟨v10,v18,v20,⟨⟩⟩; kernel_rfl) (by rintro⟨v0,v1,v2,⟨⟩⟩; kernel_rfl)
end Go.PM
namespace Go.PM
open Go Go.RowKit Go.Proofs Go.Lz
theorem bXK(v1 v2:Int) (q:Ty.den (.prod (.prod (.prod (.list (.int .i64)) (.prod (.list (.list (.int .i64))) (.list (.list (.int .i64))))) (.list (.list (.int .i64)))) (.prod (.list (.list (.list (.int .i64)))) (.int .i64)))) (l:List (Int×Int)) (hl:l.length<=1000) (v11:List Int) (v12 v13 v14:Int) :
  xR (v1,v2,q,l,v11,v12,v13,v14,l,0,())=some (.inr (v1,v2,q,l,v11,v12,v13,v14,())):=by
 refine aK (step:=pT) (λt=>(v1,v2,q,l,v11,v12,v13,v14,l,t,())) l.length (.inr (v1,v2,q,l,v11,v12,v13,v14,())) (by omega) (λt ht=>?_) ?_
 ·have l1:=wS ht (by omega);simp only[pT,lI ht,iO ht,l1,a0C,oC,oD,Bool.and_true,Bool.not_true]
 ·simp only[pT,lN,oD]
theorem wf_u8 {x} (h:(Lit.int .u8 x).wf=true):0<=x/\x<256:=by
 simp only[Lit.wf,oA,decide_eq_true_eq]at h;have h1:IntKind.u8.min=0:=by rfl
 have h2:IntKind.u8.max=255:=by rfl
 omega
theorem wf_i8 {x}(h:(Lit.int .i8 x).wf=true) : -128<=x/\x<128:=by
 simp only[Lit.wf,oA,decide_eq_true_eq]at h;have h1:IntKind.i8.min = -128:=by rfl
 have h2:IntKind.i8.max=127:=by rfl
 omega
theorem bYW {v:I4}(h:WF (.prod (.int .i8) (.prod (.int .i8) (.prod (.int .i8) (.int .i8)))) v):I8 v:=λi hi=>by
 obtain⟨a1,a2,a3,a4⟩:=h;rcases(show i=0\/i=1\/i=2\/i=3 by omega)with rfl|rfl|rfl|rfl
 ·exact wf_i8 a1
 ·exact wf_i8 a2
 ·exact wf_i8 a3
 ·exact wf_i8 a4
theorem b3J {x:PT}(h:WF (.prod (.prod (.int .u8) (.prod (.list (.prod (.int .i8) (.prod (.int .i8) (.prod (.int .i8) (.int .i8))))) .bool)) (.prod (.list (.prod (.int .i8) (.prod (.int .i8) (.prod (.int .i8) (.int .i8))))) (.prod (.list (.list (.prod (.int .i8) (.prod (.int .i8) (.prod (.int .i8) (.int .i8)))))) (.int .u8)))) x):XP x:=by
 obtain⟨⟨h1,⟨_,h2⟩,_⟩,⟨_,h3⟩,⟨h4,h5⟩,h6⟩:=h;exact⟨⟨wf_u8 h1,λt ht=>bYW (h2 t ht)⟩,λt ht=>bYW (h3 t ht),λc hc t ht=>bYW ((h5 c hc).2 t ht),wf_u8 h6,h4⟩
theorem a04 {a}{N:Nat}(h0:0<=a)(h1:a<256)(hN:0<N):(IntKind.wrap .i64 a).tmod (N:Int)=((a.toNat%N:Nat)):=by
 rw[aAM (by omega) (by omega),Int.tmod_eq_emod_of_nonneg h0];grind
theorem bTO(l:List Int) k (hl:l.length<=64) (hk:k.natAbs<=1000000000) (ha:∀ a∈l,a.natAbs<=1000000000) (hs:∀ a∈l,(k*a).natAbs<=1000000000):aN2 (l,k,())=some (l.map (k*·),0,()):=by
 have c1:=A9 l hl ha;have c2:=A9 (l.map (k*·)) (by rw[List.length_map]; exact hl) (λa h=>by
  obtain⟨b,hb,rfl⟩:=List.mem_map.1 h;exact hs b hb)
 have f1:ltI k (-1000000000)=false:=by rw[aF]; exact oF (by omega)
 have f2:ltI 1000000000 k=false:=by rw[aF]; exact oF (by omega)
 have e2:ltI (l.length:Int) 0=false:=by rw[aF]; exact oF (by omega)
 have e3:ltI 1048576 (l.length:Int)=false:=by rw[aF]; exact oF (by omega)
 have key:=aK (step:=UI) (N:=2^64) (λt=>(k,(l.take t).map (k*·),l,(l.length:Int),(t:Int),())) l.length (l.map (k*·),()) (by omega) (λt ht=>?_) ?_
 ·have key:aC0 (k,(List.replicate 0 (0:Ty.den (.int .i64))),l,(l.length:Int),0,())=some (l.map (k*·),()):=key;simp only[aN2,c1,c2,aC,e00,Bool.not_true,oD,aFV,f1,f2,Bool.not_false,oC,e2,e3,key,aAZ]
 ·have hx:l.getD t 0=l[t]:=by simp[List.getD,ht]
  have hm:=List.getElem_mem ht;have l1:=wS ht (by omega);have l2:aA .i64 (k*l[t])=k*l[t]:=wrap64 (by have:=hs _ hm; omega) (by have:=hs _ hm; omega);have l3:Nat.ble ((l.take t).map (k*·)).length 1048576=true:=bL (by rw[List.length_map,List.length_take]; omega);rw[List.take_succ_eq_append_getElem ht,List.map_append];simp only[UI,lI ht,iO ht,tN,hx,l1,l2,l3,bO,oC];rfl
 ·simp only[UI,lN,oD,List.take_length]
theorem bM7 {ps:List Int} (hp:BD (ps,())=some (0,())) (hn:ps.length<=64) (x:List Int) (hx:x.length=ps.length):∃ e,X4 (ps,x,())=some (e,())/\(e=0->∀ a∈x,a.natAbs<=1000):=by
 have key:=ME (step:=fU) (N:=2^64) (λt=>(ps,[x],1,0,x,(x.length:Int),(t:Int),())) (λt=>1000<x.getD t 0\/x.getD t 0 < -1000) (λ_=>.inl (4,())) x.length (.inr (ps,[x],1,0,())) (by omega) (λt ht=>?_) ?_
 ·have q4:eqI (x.length:Int) (ps.length:Int)=true:=by rw[hx]; exact a0C _
  have a1:ltI ((0:Nat):Int) 1=true:=by decide
  have a2:aE ((0:Nat):Int) 1=true:=by decide
  have a3:=bP 0 (by omega);have a4:ltI ((1:Nat):Int) 1=false:=by decide
  rcases key with ⟨j,h1,h2,_,h4⟩|⟨h1,h2⟩
  ·have h4:lH (ps,[x],1,0,x,(x.length:Int),0,())=some (.inl (4,())):=h4;refine⟨4,?_,λe=>absurd e (by decide)⟩;have k1:lR (ps,[x],1,0,())=some (.inl (4,())):=by
    refine aK (step:=fQ) (N:=2^64) (λt=>(ps,[x],1,(t:Int),())) 0 (.inl (4,())) (by omega) (λt ht=>by omega) ?_;simp only[fQ,a1,oC];show (bif aE ((0:Nat):Int) 1 then bif !(eqI (x.length:Int) (ps.length:Int)) then _ else aB (lH (ps,[x],1,0,x,(x.length:Int),0,())) _ else none)=_;simp only[a2,q4,h4,oC,oD,Bool.not_true,aC,rT]
   have k1:lR (ps,[x],(([x].length:Nat):Int),0,())=some (.inl (4,())):=k1;simp only[X4,rK,hp,k1,aC,e00,rT,Bool.not_true,oD]
  ·have h2:lH (ps,[x],1,0,x,(x.length:Int),0,())=some (.inr (ps,[x],1,0,())):=h2;refine⟨0,?_,λ_ a ha=>?_⟩
   ·have k1:lR (ps,[x],1,0,())=some (.inr ()):=by
     refine aK (step:=fQ) (N:=2^64) (λt=>(ps,[x],1,(t:Int),())) 1 (.inr ()) (by omega) (λt ht=>?_) ?_
     ·obtain rfl:t=0:=by omega
      simp only[fQ,a1,oC];show (bif aE ((0:Nat):Int) 1 then bif !(eqI (x.length:Int) (ps.length:Int)) then _ else aB (lH (ps,[x],1,0,x,(x.length:Int),0,())) _ else none)=_;simp only[a2,q4,h2,oC,oD,Bool.not_true,aC,bV];rfl
     ·simp only[fQ,a4,oD]
    have k1:lR (ps,[x],(([x].length:Nat):Int),0,())=some (.inr ()):=k1;simp only[X4,rK,hp,k1,aC,e00,bV,Bool.not_true,oD]
   ·obtain⟨i,hi,rfl⟩:=Q4.1 ha;have:=h1 i hi;omega
 ·have l1:aA .i64 ((t:Int)+1)=((t+1:Nat):Int):=bP t (by omega)
  by_cases c1:1000<x.getD t 0
  ·have e1:ltI 1000 (x.getD t 0)=true:=by rw[aF]; exact oT c1
   rw[if_pos (.inl c1)];simp only[fU,lI ht,iO ht,tN,e1,oC]
  ·have e1:ltI 1000 (x.getD t 0)=false:=by rw[aF]; exact oF c1
   by_cases c2:x.getD t 0 < -1000
   ·have e2:ltI (x.getD t 0) (-1000)=true:=by rw[aF]; exact oT c2
    rw[if_pos (.inr c2)];simp only[fU,lI ht,iO ht,tN,e1,e2,oC,oD]
   ·have e2:ltI (x.getD t 0) (-1000)=false:=by rw[aF]; exact oF c2
    rw[if_neg (by omega)];simp only[fU,lI ht,iO ht,tN,e1,e2,l1,oC,oD]
 ·simp only[fU,lN,oD]
theorem bUE {a b}(h:a.length=b.length) i:eK (TY a b) i=eK a i+eK b i:=by
 induction a generalizing b i with
 | nil=>cases b with
  | nil=>rfl
  | cons y b=>grind
 | cons x a ih=>cases b with
  | nil=>grind
  | cons y b=>cases i with
   | zero=>rfl
   | succ i=>exact ih (by grind) i
theorem bNK {k l} i:eK (l.map (k*·)) i=k*eK l i:=by
 unfold eK;grind
theorem bPU {u v w k}(h:∀ i,u i=v i+k*w i) z:∀ n,dot n u z=dot n v z+k*dot n w z
 | 0=>by simp[dot]
 | n+1=>by
  show dot n u z+u n*z n=dot n v z+v n*z n+k*(dot n w z+w n*z n);rw[bPU h z n,h n];grind
theorem bE7 {f:List (List Int)->List (List Int)}{qs:List (List (List Int))}{c x}(h:f x=f (qs.getD c []))(hc:c<qs.length) k:f ((qs.set c x).getD k [])=f (qs.getD k []):=by grind
theorem bV6(l:List (Int×Int))(hl:l.length<=1000):sY (l,l,0,())=some (.inr ()):=by
 refine aK (step:=jZ) (λt=>(l,l,t,())) l.length (.inr ()) (by omega) (λt ht=>?_) ?_
 ·have l1:=wS ht (by omega);simp only[jZ,lI ht,iO ht,l1,a0C,oC,oD,Bool.and_true,Bool.not_true]
 ·simp only[jZ,lN,oD]
theorem a43 x (hx:XP x)(w:Int×Int)(m:Int)(hw1:0<=w.1/\w.1<256)(hw2:0<=w.2/\w.2<256)(hm8 : -128<=m/\m<128):fA (x,w,m,())=some (true,()):=by
 rcases aHK x hx with hf|⟨hf,ps,n,d,r,C,K,⟨hrt,hcb⟩,hn1,⟨_,s,hm⟩|⟨l,qs,s,hm,hg,hs3,hq5⟩⟩
 ·simp only[fA,aHL,aC,oC,hf,oD]
 ·simp only[fA,aHL,aC,oC,hf,hm,oD]
 ·have hq:=hg.qk;have hN:=hq.bAM.1;have c1:=aTW hN (all_eq hq);have n4:=hg.rt.n4;have hq0:=hg.q0;have hq4:=hg.q4
  by_cases hd:d=0
  ·have e1:eqI ((Mr d n C).length:Int) 0=true:=by rw[eO,hd]; rfl
   simp only[fA,aHL,aC,oC,hf,hm,c1,e00,Bool.not_true,oD,e1]
  ·have e1:eqI ((Mr d n C).length:Int) 0=false:=by rw[eO,bN]; exact oF (by omega)
   have e2:eqI (qs.length:Int) 0=false:=by rw[bN]; exact oF (by omega)
   have m1:=a04 hw1.1 hw1.2 (show 0<qs.length by omega);have m2:=a04 hw2.1 hw2.2 (show 0<(Mr d n C).length by rw[eO]; omega);have i1:w.1.toNat%qs.length<qs.length:=Nat.mod_lt _ (by omega);have i2:w.2.toNat%(Mr d n C).length<d:=by
    have:=Nat.mod_lt w.2.toNat (show 0<(Mr d n C).length by rw[eO]; omega);rwa[eO]at this ⊢
   generalize w.1.toNat%qs.length=c at m1 i1;generalize w.2.toNat%(Mr d n C).length=j at m2 i2;have hcq:=bFL i1;have hc0:=hg.qc _ hcq;have hc5:=hq5 _ hcq;have hcr:=hg.qr _ hcq;have hwt:IntKind.wrap .i64 (m.tmod 5)=m.tmod 5:=by
    have:=Int.natAbs_tmod m 5;have:=Nat.mod_lt m.natAbs (show 0<(5:Int).natAbs by decide);have e5:(5:Int).natAbs=5:=rfl;exact aAM (by omega) (by omega)
   have hk5:(m.tmod 5).natAbs<=4:=by
    have:=Int.natAbs_tmod m 5;have:=Nat.mod_lt m.natAbs (show 0<(5:Int).natAbs by decide);have e5:(5:Int).natAbs=5:=rfl;omega
   generalize hkk:m.tmod 5=k at hwt hk5;have hcj:∀ a∈Vr n (C j),a.natAbs<=960000:=bF4 λz hz=>hcb j i2 z hz
   have hkj:∀ a∈Vr n (C j),(k*a).natAbs<=3840000:=λa ha=>by
    rw[Int.natAbs_mul];exact Nat.mul_le_mul hk5 (hcj a ha)
   have s1:=bTO (Vr n (C j)) k (by rw[zV]; omega) (by omega) (λa ha=>by have:=hcj a ha; omega) (λa ha=>by have:=hkj a ha; omega);generalize hch:qs.getD c []=ch at hcq hc0 hc5 hcr;have hlast:ch.length-1<ch.length:=by omega
   have hxm:=List.getElem_mem hlast;have hxr:=hcr _ hxm;generalize hxx:ch[ch.length-1]=y at hxm hxr;have hyl:ch.getD (ch.length-1) []=y:=by rw[<- hxx]; simp[List.getD,hlast]
   have hml:((Vr n (C j)).map (k*·)).length=n:=by rw[List.length_map,zV]
   have hsb:∀ a∈TY y ((Vr n (C j)).map (k*·)),a.natAbs<=1000000000:=λa ha=>by
    have:=bGV (A:=1000) (B:=3840000) hxr.2.1 (λb hb=>by
     obtain⟨b',hb',rfl⟩:=List.mem_map.1 hb;exact hkj b' hb') a ha
    omega
   have s2:=bLX y ((Vr n (C j)).map (k*·)) (by rw[hxr.1]; omega) (by rw[hxr.1,hml]) (λa ha=>by have:=hxr.2.1 a ha; omega) (λa ha=>by
    obtain⟨b,hb,rfl⟩:=List.mem_map.1 ha;have:=hkj b hb; omega) hsb
   have hsl:(TY y ((Vr n (C j)).map (k*·))).length=n:=by rw[aBK (by rw[hxr.1,hml]),hxr.1]
   obtain⟨e,s3,s4⟩:=bM7 hrt.pr (by rw[hrt.len]; omega) (TY y ((Vr n (C j)).map (k*·))) (by rw[hsl,hrt.len]);have hdot:∀ i,i<r->dot n (eK (TY y ((Vr n (C j)).map (k*·)))) (K i)=dot n (eK y) (K i):=λi hi=>by
    have h1:=bPU (u:=eK (TY y ((Vr n (C j)).map (k*·)))) (v:=eK y) (w:=eK (Vr n (C j))) (k:=k) (λz=>by rw[bUE (by rw[hxr.1,hml]),bNK]) (K i) n;rw[h1,aTR (hrt.wc j i2)];have h2:=((hrt.ker (K i)).1 (Sp.mem hi)).2 j i2;rw[TR (C j),h2]; omega
   have htmp:tmp n r K (TY y ((Vr n (C j)).map (k*·)))=tmp n r K y:=by
    unfold tmp Vr;exact List.map_congr_left λi hi=>hdot i (List.mem_range.1 hi)
   generalize TY y ((Vr n (C j)).map (k*·))=z at s2 s3 s4 hsb hsl hdot htmp;have o1:aE (c:Int) qs.length=true:=iO i1;have o2:aE (j:Int) (Mr d n C).length=true:=iO (by rw[eO]; exact i2);have o3:=a2X (n:=n) C i2 ([]:List Int);have o4:Nat.ble ch.length 1048576=true:=bL (by omega);have o5:Nat.ble ([]:List Int).length 1048576=true:=rfl;have o6:aA .i64 ((ch.length:Int)-1)=((ch.length-1:Nat):Int):=by rw[wrap64 (by omega) (by omega)]; omega
   have o7:aE (((ch.length-1:Nat)):Int) ch.length=true:=iO hlast;have o8:Nat.blt (ch.length-1) ch.length=true:=bT hlast;have o9:Nat.ble qs.length 1048576=true:=bL (by omega);have o10:Nat.blt c qs.length=true:=bT i1;simp only[fA,aHL,aC,oC,hf,hm,c1,e00,Bool.not_true,oD,e1,e2,m1,m2,hkk,hwt,o1,o2,tN,hch,o3,o4,o5,s1,List.nil_append,o6,o7,o8,hyl,s2,s3]
   by_cases he:e=0
   ·have hz:=s4 he;subst he;have hg':GQ ps n d r C K l (qs.set c (ch.set (ch.length-1) z)) s:=by
     refine⟨hg.rt,hg.k8,hg.n1,hg.r1,hg.g,hg.si,hg.l0,hg.l10,hg.lr,hg.lb,hg.lc,by rw[List.length_set]; exact hq0,by rw[List.length_set]; exact hq4,λc' hc'=>?_,λc' hc' x' hx'=>?_,hg.s1,hg.s8⟩
     ·rcases List.mem_or_eq_of_mem_set hc' with h|h
      ·exact hg.qc c' h
      ·rw[h,List.length_set]; exact hc0
     ·rcases List.mem_or_eq_of_mem_set hc' with h|h
      ·exact hg.qr c' h x' hx'
      ·rw[h]at hx';rcases List.mem_or_eq_of_mem_set hx' with h'|h'
       ·exact hcr x' h'
       ·rw[h'];exact⟨hsl,hz,λi hi=>by rw[hdot i hi]; exact hxr.2.2 i hi⟩
    have hq':=hg'.qk;have c2:=aTW hq'.bAM.1 (all_eq hq');have hmap:∀ i,ysM l (rL n r K) (ch.set (ch.length-1) z) i=ysM l (rL n r K) (qs.getD c []) i:=λi=>by
     unfold ysM;rw[hch,List.map_set];have:rL n r K (l.getD i []) z=rL n r K (l.getD i []) y:=by unfold rL; rw[htmp]
     rw[this];refine List.ext_getElem (by simp) λa h1 h2=>?_
     rw[List.getElem_set];split
     ·rename_i h; subst h; simp[hxx]
     ·rfl
    have hpl:plA l (qs.set c (ch.set (ch.length-1) z)) (rL n r K)=plA l qs (rL n r K):=by
     unfold plA plT plR;rw[List.length_set]
     congr 1
     funext k'
     congr 1
     funext i
     unfold plM whM;rw[bE7 (f:=λq=>ysM l (rL n r K) q i) (hmap i) i1 k']
    rw[hpl]at c2;have c3:=bV6 ((plA l qs (rL n r K)).map (·.1)) (by rw[List.length_map]; omega);simp only[e00,Bool.not_true,oD,o9,o10,oC,c2,aC,a0C,c3,bV]
   ·have e3:eqI e 0=false:=by rw[bN]; exact oF he
    simp only[e3,Bool.not_false,oC]
end Go.PM
namespace Go.PM
open Go Go.RowKit Go.Proofs
open Go Go.RowKit Go.Proofs Go.Lz
end Go.PM
