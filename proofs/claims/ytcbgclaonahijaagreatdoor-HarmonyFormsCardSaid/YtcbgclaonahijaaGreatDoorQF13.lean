/- Texts of one proof, joined (13). -/
import Derived.Test.YtcbgclaonahijaaGreatDoorQF12
set_option linter.unusedSimpArgs false
set_option linter.unusedVariables false
set_option linter.defProp false
set_option maxRecDepth 100000
noncomputable section
namespace Go.PM
open Go Go.RowKit Go.Proofs
open Go.Lz
structure QK (p:List Int) (A B l:List (List Int)) (qs:List (List (List Int))) (s:Int) (la:Int×List (List Int)) (mp:List (ByteArray×Int)) (ld:List Int->List Int->List Int):Prop where
 chk:K4 ((((p,(A,B)),l),(qs,s)),())=some (0,())
 fin:qS (((p,(A,B)),l),())=some ((((p,(A,B)),l),(la,mp)),0,())
 lead:∀ i,i<l.length->∀ c∈qs,∀ x∈c,vV ((((p,(A,B)),l),(la,mp)),(i:Int),x,())=some (ld (l.getD i []) x,(if ld (l.getD i []) x∈l then (ixL l (ld (l.getD i []) x):Int) else 0),decide (ld (l.getD i []) x∈l),0,())
 law:∀ i,i<l.length->∀ c∈qs,∀ x∈c,∃ y z e,lV ((p,(A,B)),x,())=some (y,())/\aBB (l.getD i [],y,())=some (z,e,())/\eH ((p,(A,B)),z,())=some (ld (l.getD i []) x,())
 si:SI l
 len:l.length<=60
 w:∀ a∈l,a.length<=64
 lw:∀ i,i<l.length->∀ c∈qs,∀ x∈c,(ld (l.getD i []) x).length<=64
 few:qs.length*l.length<=200
 qc:qs.length<=12
 cl:∀ c∈qs,c.length<=8
def ysM(l:List (List Int)) (ld:List Int->List Int->List Int) (c:List (List Int)) (i:Nat):List (List Int):=c.map (ld (l.getD i []))
def whM(l:List (List Int))(ld:List Int->List Int->List Int)(c:List (List Int))(i:Nat):Bool:=(ysM l ld c i).all λy=>decide (y∈l)
def bSZ(l:List (List Int))(y:List Int):Int:=if y∈l then (ixL l y) else 0
def plM(l:List (List Int))(qs:List (List (List Int)))(ld:List Int->List Int->List Int)(k i:Nat):Option PL:=if whM l ld (qs.getD k []) i=true then some (((k,i)),ntL l (ysM l ld (qs.getD k []) i)) else none
def plR(l:List (List Int))(qs:List (List (List Int)))(ld:List Int->List Int->List Int)(k n:Nat):List PL:=(List.range n).filterMap (plM l qs ld k)
def plT(l:List (List Int))(qs:List (List (List Int)))(ld:List Int->List Int->List Int)(n:Nat):List PL:=(List.range n).flatMap λk=>plR l qs ld k l.length
def plA(l:List (List Int)) (qs:List (List (List Int))) (ld:List Int->List Int->List Int):List PL:=plT l qs ld qs.length
def bH9 {l qs ld k n}:plR l qs ld k (n+1)=plR l qs ld k n++(match plM l qs ld k n with|some x=>[x]|none=>[]):=by
 unfold plR;rw[List.range_succ,List.filterMap_append];grind
def bFD {l qs ld k n}:(plR l qs ld k n).length<=n:=by
 have:=List.length_filterMap_le (plM l qs ld k) (List.range n);rwa[List.length_range]at this
def a6Z {l qs ld n}:plT l qs ld (n+1)=plT l qs ld n++plR l qs ld n l.length:=by
 unfold plT;rw[List.range_succ,List.flatMap_append]; simp
def a6A {l qs ld}:∀ n,(plT l qs ld n).length<=n*l.length
 | 0=>by simp[plT]
 | n+1=>by
  rw[a6Z,oH,Nat.succ_mul];have:=a6A (l:=l) (qs:=qs) (ld:=ld) n;have:=bFD (l:=l) (qs:=qs) (ld:=ld) (k:=n) (n:=l.length);omega
def bPM {l qs ld x}(h:x∈plA l qs ld):∃ k i,k<qs.length/\i<l.length/\plM l qs ld k i=some x:=by
 have⟨k,a,h⟩:=List.mem_flatMap.1 h;have⟨i,hi,h⟩:=List.mem_filterMap.1 h;grind
def bFL {qs:List (List (List Int))}{k}(h:k<qs.length):qs.getD k []∈qs:=W
section
variable {p:List Int} {A B l:List (List Int)} {qs:List (List (List Int))} {s:Int} {la:Int×List (List Int)} {mp:List (ByteArray×Int)} {ld:List Int->List Int->List Int}
def QK.bAM (h:QK p A B l qs s la mp ld):aQZ (plA l qs ld):=by
 refine⟨oR (a6A _) h.few,λj m=>?_⟩;have hm:(plA l qs ld).getD j ((0,0),[])∈plA l qs ld:=W;have⟨k,i,c,hi,e⟩:=bPM hm;unfold plM at e;split at e;rename_i hw;have b:=bFL c;have e:=oB e;rw[<- e];have a :=λy d=>of_decide_eq_true (List.all_eq_true.1 hw y d);refine⟨?_,bKQ h.si a⟩;have f:=(xK (ysM l ld (qs.getD k []) i)).2.2;have g:=h.cl _ b;unfold ntL;rw[List.length_map];have:(ysM l ld (qs.getD k []) i).length=(qs.getD k []).length:=List.length_map ..;omega;grind
def b2X(h:QK p A B l qs s la mp ld) (out:List PL) {k i} (j:k<qs.length) (hi:i<l.length) :
  PQ ((((p,(A,B)),l),(qs,s)),(((p,(A,B)),l),(la,mp)),out,(k:Int),qs.getD k [],(i:Int),(((k:Int),(i:Int)),([],())),true,qs,(qs.length:Int),(k:Int),(l.length:Int),(i:Int),qs.getD k [],((qs.getD k []).length:Int),0,()) =
   some (.inr ((((p,(A,B)),l),(qs,s)),(((p,(A,B)),l),(la,mp)),out,(k:Int),qs.getD k [],(((k:Int),(i:Int)),((ysM l ld (qs.getD k []) i).map (bSZ l),())),whM l ld (qs.getD k []) i,qs,(qs.length:Int),(k:Int),(l.length:Int),(i:Int),())):=by
 have a:=bFL j;have u:=h.cl _ a;generalize n:qs.getD k []=c at a u;have o:(ysM l ld c i).length=c.length:=List.length_map ..;refine aK (step:=B7) (N:=2^64) (λt=>((((p,(A,B)),l),(qs,s)),(((p,(A,B)),l),(la,mp)),out,(k:Int),c,(i:Int),(((k:Int),(i:Int)),(((ysM l ld c i).take t).map (bSZ l),())),((ysM l ld c i).take t).all (λy=>decide (y∈l)),qs,(qs.length:Int),(k:Int),(l.length:Int),(i:Int),c,(c.length:Int),(t:Int),())) c.length _ Z (λt ht=>?_) ?_
 ·have d:c.getD t []=c[t]:=(by simp[List.getD,ht]);have b:=h.lead i hi c a c[t] (List.getElem_mem ht);have f:=wS ht Z;have e:Nat.ble (((ysM l ld c i).take t).map (bSZ l)).length 1048576=true:=bL (by rw[List.length_map,List.length_take]; omega);have q:(ysM l ld c i)[t]' Z=ld (l.getD i []) c[t]:=(by simp[ysM]);rw[List.take_succ_eq_append_getElem Z,q,List.map_append,List.all_append];generalize m:ld (l.getD i []) c[t]=y at b;have g:[y].map (bSZ l)=[(if y∈l then (ixL l y:Int) else 0)]:=rfl;have r:([y].all λy=>decide (y∈l))=decide (y∈l):=R;rw[g,r];cases hw:((ysM l ld c i).take t).all λy=>decide (y∈l)with
  | true=>simp only[B7,lI ht,iO ht,tN,d,b,f,e,bO,e00,Bool.true_and,zz];| false=>simp only[B7,lI ht,iO ht,tN,d,b,f,e,bO,e00,Bool.false_and,zz]
 have:(ysM l ld c i).take c.length=ysM l ld c i:=List.take_of_length_le Z;simp only[B7,lN,oD,this]; rfl
def bTT {l}(h:l.length<4611686018427387904):bIV l=some (srt l):=by unfold bIV; rw[cF,oT h]; rfl
def bIU {l}(h:l.length<=9223372036854775807):aS5 l=some (Lib.compact l):=by unfold aS5; rw[eL,oT h]; rfl
def b2S(h:QK p A B l qs s la mp ld)(out:List PL)(u:out.length<=1000){k}(e:k<qs.length) :
  PO ((((p,(A,B)),l),(qs,s)),(((p,(A,B)),l),(la,mp)),out,(k:Int),qs.getD k [],qs,(qs.length:Int),(k:Int),(l.length:Int),0,()) =
   some (.inr ((((p,(A,B)),l),(qs,s)),(((p,(A,B)),l),(la,mp)),out++plR l qs ld k l.length,qs,(qs.length:Int),(k:Int),())):=by
 have t:=h.len;have key:=aK (step:=B5) (N:=2^64) (λi=>((((p,(A,B)),l),(qs,s)),(((p,(A,B)),l),(la,mp)),out++plR l qs ld k i,(k:Int),qs.getD k [],qs,(qs.length:Int),(k:Int),(l.length:Int),(i:Int),())) l.length (.inr ((((p,(A,B)),l),(qs,s)),(((p,(A,B)),l),(la,mp)),out++plR l qs ld k l.length,qs,(qs.length:Int),(k:Int),())) Z (λi hi=>?_) ?_;have hz:out++plR l qs ld k 0=out:=List.append_nil _;rw[hz]at key;exact key
 ·have c:=b2X h (out++plR l qs ld k i) e hi;have f:=wS hi Z;have m:Nat.ble (out++plR l qs ld k i).length 1048576=true:=bL (by rw[oH]; have:=bFD (l:=l) (qs:=qs) (ld:=ld) (k:=k) (n:=i); omega);rw[bH9];have o:=bFL e;have v:=h.cl _ o;have r:(ysM l ld (qs.getD k []) i).length=(qs.getD k []).length:=List.length_map ..;cases hw:whM l ld (qs.getD k []) i with
  | true =>
   have a:∀ y∈ysM l ld (qs.getD k []) i,y∈l:=λy d=>of_decide_eq_true (List.all_eq_true.1 hw y d)
   have hm:plM l qs ld k i=some ((((k:Int),(i:Int))),ntL l (ysM l ld (qs.getD k []) i)):=by unfold plM; rw[if_pos hw]
   have b:(ysM l ld (qs.getD k []) i).map (bSZ l)=(ysM l ld (qs.getD k []) i).map λy=>(ixL l y:Int):=List.map_congr_left λy d=>by unfold bSZ; rw[if_pos (a y d)]
   rw[hw,b]at c;have j:=bTT (l:=(ysM l ld (qs.getD k []) i).map λy=>(ixL l y:Int)) (by rw[List.length_map]; omega);have g:=bIU (l:=srt ((ysM l ld (qs.getD k []) i).map λy=>(ixL l y:Int))) (by rw[a6X,List.length_map]; omega);have q:Lib.compact (srt ((ysM l ld (qs.getD k []) i).map λy=>(ixL l y:Int)))=ntL l (ysM l ld (qs.getD k []) i):=b0W h.si a;rw[q]at g;rw[hm];simp only[B5,lI hi,c,f,m,j,g,bO,List.append_assoc,zz]
  | false =>
   have hm:plM l qs ld k i=none:=by unfold plM; rw[if_neg (by rw[hw]; simp)]
   rw[hw]at c;rw[hm];simp only[B5,lI hi,c,f,List.append_nil,zz]
 simp only[B5,lN,oD]
def all_eq(h:QK p A B l qs s la mp ld):gH ((((p,(A,B)),l),(qs,s)),())=some (plA l qs ld,0,()):=by
 have e:=h.qc;have f:=h.few;have key:=aK (step:=I1) (N:=2^64) (λk=>((((p,(A,B)),l),(qs,s)),(((p,(A,B)),l),(la,mp)),plT l qs ld k,qs,(qs.length:Int),(k:Int),())) qs.length (.inr (plA l qs ld,())) Z (λk a=>?_) ?_;have key:PU ((((p,(A,B)),l),(qs,s)),(((p,(A,B)),l),(la,mp)),[],qs,(qs.length:Int),0,())=_:=key;have b:ltI 200 ((plA l qs ld).length:Int)=false:=(by have:=h.bAM.1;rw[aF]; exact oF Z);simp only[gH,h.chk,h.fin,e00,key,b,zz];have c:(plT l qs ld k).length<=1000:=(by have:=a6A (l:=l) (qs:=qs) (ld:=ld) k;have:k*l.length<=qs.length*l.length:=Nat.mul_le_mul_right _ Z;omega);have b:=b2S h (plT l qs ld k) c a;have d:=wS a Z;rw[a6Z];simp only[I1,lI a,iO a,tN,b,d,zz];simp only[I1,lN,oD]; rfl
end
section
variable {ps:List Int} {n d r:Nat} {C K:Nat->V}
structure GQ (ps:List Int) (n d r:Nat) (C K:Nat->V) (l:List (List Int)) (qs:List (List (List Int))) (s:Int):Prop where
 rt:RT ps n d r C K
 k8:Big r n K 960000
 n1:1<=n
 r1:1<=r
 g:0<K 0 0
 si:SI l
 l0:0<l.length
 l10:l.length<=10
 lr:∀ a∈l,a.length=r
 lb:∀ a∈l,∀ c∈a,c.natAbs<=40000000
 lc:∀ a∈l,cl r (K 0 0) a=a
 q0:0<qs.length
 q4:qs.length<=4
 qc:∀ c∈qs,0<c.length/\c.length<=8
 qr:∀ c∈qs,∀ x∈c,x.length=n/\(∀ a∈x,a.natAbs<=1000)/\∀ i,i<r->(dot n (eK x) (K i)).natAbs<=36000000
 s1:1<=s
 s8:s<=8
def b1J {n A B u v}(hu:∀ i,i<n->(u i).natAbs<=A)(a:∀ i,i<n->(v i).natAbs<=B):(dot n u v).natAbs<=n*(A*B):=by
 induction n with
 | zero=>simp[dot]
 | succ n b =>
  have d:=b (λi hi=>hu i Z) (λi hi=>a i Z);have c:(u n*v n).natAbs<=A*B:=by
   rw[Int.natAbs_mul];exact Nat.mul_le_mul (hu n R) (a n R)
  show (dot n u v+u n*v n).natAbs<=_;grind
def bYN {x B}(h:∀ a∈x,a.natAbs<=B) i:(eK x i).natAbs<=B:=by
 unfold eK;grind
def bG0(b:Big r n K 960000)(n4:n<=4){x}(c:∀ a∈x,a.natAbs<=9){i}(hi:i<r):(dot n (eK x) (K i)).natAbs<=36000000:=by
 have e:=b1J (λj _=>bYN c j) (λj d=>b i hi j d);omega
def bGY {x}(hd:∀ i,i<r->(dot n (eK x) (K i)).natAbs<=36000000):∀ a∈tmp n r K x,a.natAbs<=36000000:=λa b=>by
 obtain⟨i,hi,rfl⟩:=List.mem_map.1 b;grind
def aIC {x}:(tmp n r K x).length=r:=by simp[tmp,Vr]
def bGV {A B}:∀ {l m},(∀ a∈l,a.natAbs<=A)->(∀ a∈m,a.natAbs<=B)->∀ a∈TY l m,a.natAbs<=A+B
 | [],[],_,_,a,h=>by simp[TY]at h
 | [],_::_,_,_,a,h=>by simp[TY]at h
 | _::_,[],_,_,a,h=>by simp[TY]at h
 | x::l,y::m,h1,h2,a,h=>by
  rcases List.mem_cons.1 ((h))with rfl|h
  ·have:=h1 x R;have:=h2 y R;omega
  ·exact bGV (λz hz=>h1 z W) (λz hz=>h2 z W) a h
def bCK:∀ l m ,TY l m=TY m l| [],[]=>rfl| [],_::_=>rfl| _::_,[]=>rfl| x::l,y::m=>by simp only[TY,bCK l m,Int.add_comm x y]
def aXF(h:RT ps n d r C K) x (b:x.length=n)(c:∀ a∈x,a.natAbs<=1000)(hd:∀ i,i<r->(dot n (eK x) (K i)).natAbs<=36000000):lV ((ps,(Mr d n C,Mr r n K)),x,())=some (tmp n r K x,()):=by
 have t1:=aM9 h x b (λa e=>by grind) (λi hi=>by grind);simp only[lV,t1,aC]
def bYL {l}(h:SI l){i}(hi:i+1<l.length):0<cmpL (l.getD (i+1) []) (l.getD i []):=by
 rw[getD_at hi,getD_at Z];have a:=List.pairwise_iff_getElem.1 h i (i+1) Z hi R;have b:=a06 a;rcases Int.lt_trichotomy (cmpL l[i+1] l[i]) 0 with c|c|c;omega;have e:=bH1 c;grind;omega
def bZ5 {l}(h:SI l){i j}(a:i<j)(b:j<l.length):l.getD i []≠l.getD j []:=λe=>by
 rw[getD_at b,getD_at Z]at e;have c:=List.pairwise_iff_getElem.1 h i j Z b a;rw[e,aFO]at c; omega
def GQ.qk {l qs s}(h:GQ ps n d r C K l qs s):QK ps (Mr d n C) (Mr r n K) l qs s (r,[Vr r (eV (K 0 0))]) (aU2 l l.length) (rL n r K):=by
 have n4:=h.rt.n4;have⟨p,hk⟩:=h.rt.hk;have y:=(Hn.wR hk h.rt.wk).1;have z:=h.rt.bk 0 (by have:=h.r1; omega) 0 (by have:=h.n1; omega);have hw:Rw r l:=λa o=>⟨h.lr a o,λc b=>by have:=h.lb a o c b; omega⟩
 have l10:=h.l10;have f:∀ i,i<l.length->l.getD i []∈l:=λi hi=>by rw[getD_at hi]; exact List.getElem_mem hi
 have k:∀ i,i<l.length->∀ c∈qs,∀ x∈c,∀ a∈TY (tmp n r K x) (l.getD i []),a.natAbs<=1000000000:=λi hi c b x m a o=>by
  have:=bGV (bGY (h.qr c b x m).2.2) (h.lb _ (f i hi)) a o;omega
 have hlen:∀ i,i<l.length->∀ x:List Int,(TY (tmp n r K x) (l.getD i [])).length=r:=λi hi x=>by rw[aBK (by rw[aIC,h.lr _ (f i hi)]),aIC]
 refine⟨?_,?_,λi hi c b x m=>?_,λi hi c b x m=>?_,h.si,by omega,λa o=>by rw[h.lr a o]; omega,λi hi c b x m=>by unfold rL; rw[HO]; omega,?_,by have:=h.q4; omega,λc b=>(h.qc c b).2⟩;exact bRA (bBS h.rt h.n1 h.r1 h.g hw h.l0 Z h.lc λi hi=>bYL h.si hi) h.rt.pr h.rt.len Z h.q0 (by have:=h.q4; omega) (λc b=>⟨(h.qc c b).1,(h.qc c b).2,λx m=>⟨(h.qr c b x m).1,(h.qr c b x m).2.1⟩⟩) h.s1 h.s8;exact bHR h.rt h.n1 h.r1 h.g hw Z λi j q t=>bZ5 h.si q t;have e:=h.qr c b x m;have t1:=bWT h.rt h.n1 h.r1 h.g hw hi x e.1 (λa o=>by have:=e.2.1 a o; omega) (λj t=>by have:=e.2.2 j t; omega) (by rw[<- getD_at hi]; exact k i hi c b x m);rw[<- getD_at hi]at t1;rw[t1];by_cases c1:rL n r K (l.getD i []) x∈l;rw[if_pos c1];have a:=aXM c1;have t2:=bYI hw (λi j q t=>bZ5 h.si q t) a.1;rw[<- getD_at a.1,a.2]at t2;rw[t2];rw[if_neg c1];have u:(TY (tmp n r K x) (l.getD i [])).length=r:=hlen i hi x;have t3:=bIJ hw (x:=rL n r K (l.getD i []) x) ⟨HO _ _ _,bZS h.g Z u (k i hi c b x m)⟩;rw[oF c1]at t3;rw[getM_none _ _ t3];have e:=h.qr c b x m;have v:=bCK (l.getD i []) (tmp n r K x);have t2:=bLX (l.getD i []) (tmp n r K x) (by rw[h.lr _ (f i hi)]; omega) (by rw[aIC,h.lr _ (f i hi)]) (λa o=>by have:=h.lb _ (f i hi) a o; omega) (λa o=>by have:=bGY e.2.2 a o; omega) (by rw[v]; exact k i hi c b x m);rw[v]at t2;exact⟨_,_,_,aXF h.rt x e.1 e.2.1 e.2.2,t2,aXX h.rt h.n1 h.r1 h.g _ (hlen i hi x) (k i hi c b x m)⟩;have w:=h.q4;have:qs.length*l.length<=4*10:=Nat.mul_le_mul w l10;omega
end
open Tryz
set_option maxHeartbeats 4000000
abbrev tM:zb:=[(1,.box 27 TyK),(2,.box 41 TyJ),(4,.box 36 TyG),(5,.bag 41 TyV 33 TyC (some TyE)),(6,.own 3 TyE),(7,.list TyD),(8,.own 69 TyI),(9,zd)]
abbrev zM:zc:=[(.exit 0,[(1,.box 27 TyK),(2,.box 41 TyJ),(4,.box 36 TyG),(5,.bag 41 TyV 33 TyC (some TyE)),(6,.own 3 TyE),(7,.list TyD)])]
def vW:zp tM zM:=λ(e,h,c,f,i,g,b,a,())=>bif ltI a (b.length:Int) then za (aE a b.length)<|za (Nat.blt a.toNat b.length)<|aB (mI (c.1,((b.getD a.toNat (0,(0,(0,0)))).1,((b.getD a.toNat (0,(0,(0,0)))).2.1,((b.getD a.toNat (0,(0,(0,0)))).2.2.1,(b.getD a.toNat (0,(0,(0,0)))).2.2.2))),())) λj=>aB (lV (c,j.1,())) λk=>aB (eH (c,k.1,())) λl=>aB (fR (g,l.1,())) λd=>some (.inl (e,h,c,f,i,d.1,b,(aA .i64 (a+1)),()))else some (.inr ((e,h,c,f,i,g,())))
def vI:zq tM zM:=aV vW (2^64)
abbrev tI:zb:=[(1,.box 27 TyK),(2,.box 41 TyJ),(4,.box 36 TyG),(5,.bag 41 TyV 33 TyC (some TyE)),(6,.list TyE),(10,zd),(11,.own 29 TyD),(12,zd)]
abbrev zQ:zc:=[(.exit 4,[(1,.box 27 TyK),(2,.box 41 TyJ),(4,.box 36 TyG),(5,.bag 41 TyV 33 TyC (some TyE)),(6,.list TyE),(10,zd),(11,.own 29 TyD)])]
def vU:zp tI zQ:=λ(c,h,f,g,i,a,d,b,())=>za (aE a c.2.2.1.length)<|bif ltI b ((c.2.2.1.getD a.toNat []).length:Int) then za (aE a c.2.2.1.length)<|za (aE b (c.2.2.1.getD a.toNat []).length)<|aB (mI (f.1,(((c.2.2.1.getD a.toNat []).getD b.toNat (0,(0,(0,0)))).1,(((c.2.2.1.getD a.toNat []).getD b.toNat (0,(0,(0,0)))).2.1,(((c.2.2.1.getD a.toNat []).getD b.toNat (0,(0,(0,0)))).2.2.1,((c.2.2.1.getD a.toNat []).getD b.toNat (0,(0,(0,0)))).2.2.2))),())) λe=>za (Nat.ble [e.1].length 1048576)<|za (Nat.ble d.length 1048576)<|some (.inl (c,h,f,g,i,a,(d++[e.1]),(aA .i64 (b+1)),()))else some (.inr ((c,h,f,g,i,a,d,())))
def CL:zq tI zQ:=aV vU (2^64)
abbrev tH:zb:=[(1,.box 27 TyK),(2,.box 41 TyJ),(4,.box 36 TyG),(5,.bag 41 TyV 33 TyC (some TyE)),(6,.list TyE),(10,zd)]
abbrev zK:zc:=[(.exit 2,[(2,.box 41 TyJ),(5,.bag 41 TyV 33 TyC (some TyE)),(6,.list TyE)])]
def wE:zp tH zK:=λ(e,f,g,d,c,b,())=>bif ltI b (e.2.2.1.length:Int) then aB (CL (e,f,g,d,c,b,[c],0,())) λa=>za (Nat.ble [a.2.2.2.2.2.2.1].length 1048576)<|za (Nat.ble a.2.2.2.1.2.1.length 1048576)<|some (.inl (a.1,a.2.1,a.2.2.1,(a.2.2.2.1.1,((a.2.2.2.1.2.1++[a.2.2.2.2.2.2.1]),a.2.2.2.1.2.2)),a.2.2.2.2.1,(aA .i64 (a.2.2.2.2.2.1+1)),()))else some (.inr ((f,d,c,())))
def wD:zq tH zK:=aV wE (2^64)
def eG:zo [.agg TyK] [.agg TyJ,.bool]:=λ(d,())=>aB (vF (d.1,())) λc=>za (!(ltI (c.1.1.length:Int) 0))<|za (!(ltI (c.1.1.length:Int) (c.1.1.length:Int)))<|za (!(ltI 1048576 (c.1.1.length:Int)))<|aB (AA (c.1,())) λe=>bif e.1 then some (((c.1,[]),([],(aA .i64 (1+(IntKind.wrap .i64 (d.2.2.2.tmod 3)))))),false,())else za (Nat.ble d.2.1.length 1048576)<|za (Nat.ble [(0,(0,(0,0)))].length 1048576)<|aB (vI (d,((([],([],[])),[]),([],0)),c.1,((c.1.1,(c.1.2.1,(c.1.2.2,[]))),([],(aA .i64 (1+(IntKind.wrap .i64 (d.2.2.2.tmod 3)))))),(List.replicate ((c.1.1.length:Int).toNat) (0:Ty.den TyE)),[],([(0,(0,(0,0)))]++d.2.1),0,())) λb=>aB (wD (b.1,b.2.1,b.2.2.1,((b.2.2.2.1.1.1,(b.2.2.2.1.1.2.1,(b.2.2.2.1.1.2.2.1,b.2.2.2.2.2.1))),b.2.2.2.1.2),b.2.2.2.2.1,0,())) λa=>bif eqI (a.2.1.2.1.length:Int) 0 then some ((((a.2.1.1.1,(a.2.1.1.2.1,a.2.1.1.2.2.1)),a.2.1.1.2.2.2),([[a.2.2.1]],a.2.1.2.2)),true,())else some ((((a.2.1.1.1,(a.2.1.1.2.1,a.2.1.1.2.2.1)),a.2.1.1.2.2.2),a.2.1.2),true,())
def FU:Code:=bY f14
abbrev FN:Env:=B1 [MK,UN,S1,RF,U7,P9]
def GC:dN tP FN:=aS ⟨HG,YP,M3,K7,YX,LS,trivial⟩
def Q5:Code:=inLoop (QF FU 0)
def BM:Code:=inLoop (QF FU 1)
def RR:Code:=inLoop (QF BM 0)
def DC(id:Nat):Option cI:=bif Nat.beq id 9 then some ⟨tM,zM,vI⟩ else bif Nat.beq id 18 then some ⟨tI,zQ,CL⟩ else bif Nat.beq id 14 then some ⟨tH,zK,wD⟩ else none
def DE(id:Nat):Option cI:=none
def aL7:∀ x,TD tP FN 106 (xD f14) DC DE false [] Q5 tM zM x=vW x:=λ_=>Y
def aN0:H7 tP 106 false [] (.loop Q5) ⟨tM,zM,vI⟩:=FI GC.callee aQ.mixed _ (nK (l:=[]) Y trivial) aL7
def aL8:∀ x,TD tP FN 106 (xD f14) DC DE false [] RR tI zQ x=vU x:=λ_=>Y
def aMO:H7 tP 106 false [] (.loop RR) ⟨tI,zQ,CL⟩:=FI GC.callee aQ.mixed _ (nK (l:=[]) Y trivial) aL8
def aQD:dV BM=[.loop RR]:=Y
def aKP:∀ x,TD tP FN 106 (xD f14) DC DE false [] BM tH zK x=wE x:=λ_=>Y
def aNU:H7 tP 106 false [] (.loop BM) ⟨tH,zK,wD⟩:=FI GC.callee aQ.mixed _ (nK aQD ⟨E7 (i:=18) Y rfl aMO,trivial⟩) aKP
def aN7:dV FU=[.loop Q5,.loop BM]:=Y
def aQ0:∀ x,a0L tP FN f14 (xD f14) DC DE FU [.agg TyK] [.agg TyJ,.bool] x=eG x:=λ_=>Y
abbrev M6:Ent:=⟨14,_,_,eG⟩
def zS:Ent.OK tP M6:=aJK aQ GC func14 (c:=FU) Y (keep:=xD f14) (lt:=DC) (rt:=DE) (nK aN7 ⟨E7 (i:=9) Y rfl aN0,E7 (i:=14) Y rfl aNU,trivial⟩) aQ0
section
variable {ps:List Int} {n d r:Nat} {C K:Nat->V}
abbrev I4:=Int×Int×Int×Int
def ivL(n:Nat) (t:I4):List Int:=(List.range n).map λi=>(aBV t i).tmod 10
def aO6 {n t}:(ivL n t).length=n:=by simp[ivL]
def aLW {n t}:∀ a∈ivL n t,a.natAbs<=9:=λa b=>by
 obtain⟨i,_,rfl⟩:=List.mem_map.1 b;grind
def b1G {l:List I4}{t} h:l.getD t (0,(0,(0,0)))=l[t]:=W
def b2N {r g} x:cl r g (cl r g x)=cl r g x:=by
 unfold cl Vr;refine List.map_congr_left λi hi=>?_;have hi:=List.mem_range.1 hi;have e:eK ((List.range r).map (clV g (eK x))) i=clV g (eK x) i:=(by simp[eK,hi]);unfold clV at e ⊢;by_cases c:i=0;simp_all;grind
def bZ9(h:RT ps n d r C K)(b:Big r n K 960000)(j:1<=n)(o:1<=r)(k:0<K 0 0){x}(c:∀ a∈x,a.natAbs<=9):∀ a∈tcl n r K x,a.natAbs<=40000000:=λa g=>by
 have n4:=h.n4;have f:=b 0 Z 0 Z;obtain⟨i,hi,rfl⟩:=List.mem_map.1 g;have hi:=List.mem_range.1 hi;have hd:∀ i,i<r->(dot n (eK x) (K i)).natAbs<=36000000:=λi hi=>bG0 b n4 c hi
 unfold clV;split
 ·have l:=Int.emod_nonneg (eK (tmp n r K x) 0) (show K 0 0≠0 by omega);have m:=Int.emod_lt_of_pos (eK (tmp n r K x) 0) k;omega
 ·have e:eK (tmp n r K x) i=dot n (eK x) (K i):=by simp[eK,tmp,Vr,hi]
  grind
def bPY:∀ v ,v<10->1<=(L12.getD v []).length:=O
def bMU {x}(a:0<=x)(b:x<256):aA .i64 (1+IntKind.wrap .i64 (x.tmod 3))=1+x%3:=by
 rw[Int.tmod_eq_emod_of_nonneg a];rw[aAM Z Z,wrap64 Z Z]
def aV5(n r:Nat) (K:Nat->V) (notes:List I4):List (List Int):=MB (((0,(0,(0,0)))::notes).map λt=>tcl n r K (ivL n t))
def bLY(n:Nat)(c:List I4):List (List Int):=List.replicate n 0::c.map (ivL n)
def aAR(n:Nat)(cs:List (List I4)):List (List (List Int)):=if cs.length=0 then [[List.replicate n 0]] else cs.map (bLY n)
def bMO(h:RT ps n d r C K) (hk:Big r n K 960000) (c:1<=n) (o:1<=r) (q:0<K 0 0) (v1:Ty.den (.prod (.prod (.int .u8) (.prod (.list (.prod (.int .i8) (.prod (.int .i8) (.prod (.int .i8) (.int .i8))))) .bool)) (.prod (.list (.prod (.int .i8) (.prod (.int .i8) (.prod (.int .i8) (.int .i8))))) (.prod (.list (.list (.prod (.int .i8) (.prod (.int .i8) (.prod (.int .i8) (.int .i8)))))) (.int .u8)))))
  (v2:Ty.den (.prod (.prod (.prod (.list (.int .i64)) (.prod (.list (.list (.int .i64))) (.list (.list (.int .i64))))) (.list (.list (.int .i64)))) (.prod (.list (.list (.list (.int .i64)))) (.int .i64)))) (v5:(List Int×List (List Int)×List (List Int)×List (List Int))×List (List (List Int))×Int) (v6:List Int) {ts:List I4} (g:ts.length<=1000) (l:∀ t∈ts,I8 t) :
  vI (v1,v2,(ps,(Mr d n C,Mr r n K)),v5,v6,[],ts,0,())=some (v1,v2,(ps,(Mr d n C,Mr r n K)),v5,v6,MB (ts.map λt=>tcl n r K (ivL n t)),()):=by
 have n4:=h.n4;have⟨p,e⟩:=h.hk;have u:=(Hn.wR e h.wk).1;refine aK (step:=vW) (N:=2^64) (λt=>(v1,v2,(ps,(Mr d n C,Mr r n K)),v5,v6,MB ((ts.take t).map λt=>tcl n r K (ivL n t)),ts,(t:Int),())) ts.length (v1,v2,(ps,(Mr d n C,Mr r n K)),v5,v6,MB (ts.map λt=>tcl n r K (ivL n t)),()) Z (λt ht=>?_) ?_
 ·have f:=aJ2 ps (by rw[h.len]; omega) ts[t] (l _ (List.getElem_mem ht));rw[h.len]at f;have m:=aXF h (ivL n ts[t]) aO6 (λa b=>by have:=aLW a b; omega) (λi hi=>bG0 hk n4 aLW hi);have k:=aXX h c o q (tmp n r K (ivL n ts[t])) aIC (λa b=>by have:=bGY (λi hi=>bG0 hk n4 (x:=ivL n ts[t]) aLW hi) a b; omega);have hp:=xK ((ts.take t).map λt=>tcl n r K (ivL n t));have j:=insert_eq (MB ((ts.take t).map λt=>tcl n r K (ivL n t))) (tcl n r K (ivL n ts[t])) (by have:=hp.2.2; rw[List.length_map,List.length_take]at this; omega) (by unfold tcl; rw[HO]; omega) (λa b=>by
   obtain⟨x,_,rfl⟩:=List.mem_map.1 ((hp.2.1 a).1 b);unfold tcl; rw[HO]; omega)
  have s:=wS ht Z;rw[List.take_succ_eq_append_getElem ht,List.map_append,List.map_cons,List.map_nil,aY5];simp only[vW,lI ht,iO ht,bT ht,tN,b1G ht,oC];rw[f];show aB (lV ((ps,(Mr d n C,Mr r n K)),ivL n ts[t],())) _=_;rw[m,aC];rw[k,aC];show aB (fR (_,tcl n r K (ivL n ts[t]),())) _=_;rw[j,aC,s]
 have:ts.take ts.length=ts:=List.take_length;simp only[vW,lN,oD,this]
def b0B {l:List (List I4)}{t} h:l.getD t []=l[t]:=W
def bOL(n4:ps.length<=4) (v2:Ty.den (.prod (.prod (.prod (.list (.int .i64)) (.prod (.list (.list (.int .i64))) (.list (.list (.int .i64))))) (.list (.list (.int .i64)))) (.prod (.list (.list (.list (.int .i64)))) (.int .i64)))) (A B:List (List Int)) (v5:(List Int×List (List Int)×List (List Int)×List (List Int))×List (List (List Int))×Int) (v6:List Int)
  w (a:List I4) {cs:List (List I4)} (le:Int) {k:Nat} hk (f:cs[k].length<=1000) (b:∀ t∈cs[k],I8 t) :
  CL ((w,(a,(cs,le))),v2,(ps,(A,B)),v5,v6,(k:Int),[v6],0,())=some ((w,(a,(cs,le))),v2,(ps,(A,B)),v5,v6,(k:Int),v6::cs[k].map (ivL ps.length),()):=by
 refine aK (step:=vU) (N:=2^64) (λt=>((w,(a,(cs,le))),v2,(ps,(A,B)),v5,v6,(k:Int),v6::(cs[k].take t).map (ivL ps.length),(t:Int),())) cs[k].length _ Z (λt ht=>?_) ?_;have d:=aJ2 ps n4 cs[k][t] (b _ (List.getElem_mem ht));have c:Nat.ble (v6::(cs[k].take t).map (ivL ps.length)).length 1048576=true:=bL W;have e:=wS ht Z;rw[List.take_succ_eq_append_getElem ht,List.map_append];simp only[vU,iO hk,tN,b0B hk,lI ht,iO ht,b1G ht,oC];rw[d];simp only[c,e,bO,zz];rfl;simp only[vU,iO hk,tN,b0B hk,lN,List.take_length,zz]
def bNA(n4:ps.length<=4) (v2:Ty.den (.prod (.prod (.prod (.list (.int .i64)) (.prod (.list (.list (.int .i64))) (.list (.list (.int .i64))))) (.list (.list (.int .i64)))) (.prod (.list (.list (.list (.int .i64)))) (.int .i64)))) (A B:List (List Int)) (u:List Int×List (List Int)×List (List Int)×List (List Int)) (s:Int) (v6:List Int)
  w (a:List I4) {cs:List (List I4)} (le:Int) (hn:cs.length<=1000) (g:∀ c∈cs,c.length<=1000) (b:∀ c∈cs,∀ t∈c,I8 t) :
  wD ((w,(a,(cs,le))),v2,(ps,(A,B)),(u,([],s)),v6,0,())=some (v2,(u,(cs.map (λc=>v6::c.map (ivL ps.length)),s)),v6,()):=by
 refine aK (step:=wE) (N:=2^64) (λt=>((w,(a,(cs,le))),v2,(ps,(A,B)),(u,((cs.take t).map (λc=>v6::c.map (ivL ps.length)),s)),v6,(t:Int),())) cs.length _ Z (λt ht=>?_) ?_;have hm:=List.getElem_mem ht;have e:=bOL n4 v2 A B (u,((cs.take t).map (λc=>v6::c.map (ivL ps.length)),s)) v6 w a le ht (g _ hm) (b _ hm);have d:Nat.ble ((cs.take t).map (λc=>v6::c.map (ivL ps.length))).length 1048576=true:=bL W;have f:=wS ht Z;rw[List.take_succ_eq_append_getElem ht,List.map_append];simp only[wE,lI ht,oC];rw[e];simp only[d,f,bO,zz];rfl;simp only[wE,lN,oD,List.take_length]
def bRB(v:Int) (W:0<=v) (E:v<256) (rows:List I4) (hk:rows.length<=3) (Y:∀ t∈rows,I8 t) (e:Bool) (f:List I4) (Z:f.length<=9) (J:∀ t∈f,I8 t) (cs:List (List I4)) (X:cs.length<=4) (u:∀ c∈cs,c.length<=4) (F:∀ c∈cs,∀ t∈c,I8 t) (le:Int) (I:0<=le) (G:le<256) :
  ∃ ps n d r C K,(RT ps n d r C K/\Big d n C 960000)/\1<=n/\vF ((v,(rows,e)),())=some ((ps,(Mr d n C,Mr r n K)),()) /\
   ((S6 r K=true/\eG (((v,(rows,e)),(f,(cs,le))),())=some ((((ps,(Mr d n C,Mr r n K)),[]),([],1+le%3)),false,())) \/
     (S6 r K=false/\eG (((v,(rows,e)),(f,(cs,le))),())=some ((((ps,(Mr d n C,Mr r n K)),aV5 n r K f),(aAR n cs,1+le%3)),true,())/\GQ ps n d r C K (aV5 n r K f) (aAR n cs) (1+le%3))):=by
 have⟨d,r,C,K,m1,rt,q,H⟩:=bEB v W E rows hk Y e;have g:=bPY (v%10).toNat zN;generalize L12.getD (v%10).toNat []=ps at m1 rt q H g;have n4:=rt.n4;refine⟨ps,ps.length,d,r,C,K,⟨rt,H⟩,g,m1,?_⟩;generalize m:ps.length=n at m1 g rt q H n4;have⟨p,w⟩:=rt.hk;have R:ltI (n:Int) 0=false:=zf
 have N:ltI (n:Int) (n:Int)=false:=lN n;have S:ltI 1048576 (n:Int)=false:=zf
 have A:=bPH rt g;have P:=bMU I G;have U:Nat.ble f.length 1048576=true:=bL zN;have V:Nat.ble [(((0:Int),((0:Int),((0:Int),(0:Int)))):I4)].length 1048576=true:=rfl;cases b:S6 r K with
 | true =>
  rw[b]at A;refine .inl ⟨rfl,?_⟩;simp only[eG,m1,m,R,N,S,A,P,zz]
 | false =>
  rw[b]at A;refine .inr ⟨rfl,?_,?_⟩
  ·have h:1<=r:=by
    unfold S6 at b;grind
   have B:0<K 0 0:=by
    unfold S6 at b;rw[Bool.or_eq_false_iff]at b;have:=of_decide_eq_false b.2;have:=a8L w h;omega
   have L:=bMO rt q g h B ((v,(rows,e)),(f,(cs,le))) ((([],([],[])),[]),([],0)) ((ps,(Mr d n C,(Mr r n K,[]))),([],1+le%3)) (List.replicate n 0) (ts:=(0,(0,(0,0)))::f) (by rw[List.length_cons]; omega) (λt ht=>by
    rcases List.mem_cons.1 ht with rfl|ht
    ·intro i hi;rcases(show i=0\/i=1\/i=2\/i=3 by omega)with rfl|rfl|rfl|rfl <;> decide
    ·exact J t ht)
   have O:=bNA (ps:=ps) zN ((([],([],[])),[]),([],0)) (Mr d n C) (Mr r n K) (ps,(Mr d n C,(Mr r n K,aV5 n r K f))) (1+le%3) (List.replicate n 0) (v,(rows,e)) f (cs:=cs) le zN (λc l=>by have:=u c l; omega) F;rw[m]at O;have s:[((0,(0,(0,0))):I4)]++f=(0,(0,(0,0)))::f:=rfl;simp only[eG,m1,m,R,N,S,A,P,U,V,tN,s,zz];have L:vI (((v,(rows,e)),(f,(cs,le))),((([],([],[])),[]),([],0)),(ps,(Mr d n C,Mr r n K)),((ps,(Mr d n C,(Mr r n K,[]))),([],1+le%3)),List.replicate n (0:Ty.den (.int .i64)),[],(0,(0,(0,0)))::f,0,())=_:=L
   rw[L];simp only[aC];show aB (wD (((v,(rows,e)),(f,(cs,le))),((([],([],[])),[]),([],0)),(ps,(Mr d n C,Mr r n K)),((ps,(Mr d n C,(Mr r n K,aV5 n r K f))),([],1+le%3)),List.replicate n 0,0,())) _=_;rw[O];simp only[aC];unfold aAR
   by_cases c0:cs.length=0
   ·have D:eqI (((cs.map (λc=>List.replicate n 0::c.map (ivL n))).length:Nat):Int) 0=true:=by rw[List.length_map,c0]; rfl
    rw[if_pos c0,D]; rfl
   ·have D:eqI (((cs.map (λc=>List.replicate n 0::c.map (ivL n))).length:Nat):Int) 0=false:=by rw[List.length_map,bN]; exact oF zN
    rw[if_neg c0,D]; rfl
  ·have h:1<=r:=by
    unfold S6 at b;rw[Bool.or_eq_false_iff]at b;have:=of_decide_eq_false b.1; omega
   have B:0<K 0 0:=by
    unfold S6 at b;rw[Bool.or_eq_false_iff]at b;have:=of_decide_eq_false b.2;have:=a8L w h;omega
   have hp:=xK (((0,(0,(0,0)))::f).map λt=>tcl n r K (ivL n t));have j:∀ a∈aV5 n r K f,∃ t,a=tcl n r K (ivL n t):=λa k=>by
    obtain⟨t,_,rfl⟩:=List.mem_map.1 ((hp.2.1 a).1 k);exact⟨t,rfl⟩
   have hz:∀ a∈List.replicate n (0:Int),a.natAbs<=9:=λa k=>by rw[(List.mem_replicate.1 k).2]; decide
   have o:∀ x:List Int,x.length=n->(∀ a∈x,a.natAbs<=9)->x.length=n/\(∀ a∈x,a.natAbs<=1000)/\∀ i,i<r->(dot n (eK x) (K i)).natAbs<=36000000:=λx E Q=>⟨E,λa k=>by have:=Q a k; omega,λi hi=>bG0 q n4 Q hi⟩
   have T:∀ c∈aAR n cs,(0<c.length/\c.length<=8)/\∀ x∈c,x.length=n/\(∀ a∈x,a.natAbs<=1000)/\∀ i,i<r->(dot n (eK x) (K i)).natAbs<=36000000:=λc l=>by
    unfold aAR at l;split at l
    ·rw[List.mem_singleton.1 l];refine⟨by simp,λx y=>?_⟩;rw[List.mem_singleton.1 y];exact o _ List.length_replicate hz
    ·obtain⟨c',M,rfl⟩:=List.mem_map.1 l;have:=u c' M;unfold bLY;refine⟨by rw[List.length_cons,List.length_map]; omega,λx y=>?_⟩;rcases List.mem_cons.1 y with rfl|y
     ·exact o _ List.length_replicate hz
     ·obtain⟨t,_,rfl⟩:=List.mem_map.1 y;exact o _ aO6 aLW
   have z:0<(aAR n cs).length/\(aAR n cs).length<=4:=by
    unfold aAR;split
    ·exact⟨by simp,by simp⟩
    ·rw[List.length_map]; omega
   refine⟨rt,q,g,h,B,hp.1,?_,?_,λa k=>?_,λa k=>?_,λa k=>?_,z.1,z.2,λc l=>(T c l).1,λc l=>(T c l).2,by omega,by omega⟩
   ·exact List.length_pos_of_mem ((hp.2.1 (tcl n r K (ivL n (0,(0,(0,0)))))).2 zr)
   ·have:=hp.2.2;rw[List.length_map,List.length_cons]at this;unfold aV5; omega
   ·obtain⟨t,rfl⟩:=j a k;unfold tcl; exact HO _ _ _
   ·obtain⟨t,rfl⟩:=j a k;exact bZ9 rt q g h B aLW
   ·obtain⟨t,rfl⟩:=j a k;unfold tcl; exact b2N _
end
def tC:List (List Int):=[[4,-4,1]]
def tK:List (List Int):=[[1,0,-4],[0,1,4]]
def tL:List (List Int):=[[0,0],[0,1],[0,2],[0,3],[0,4],[0,5],[0,6]]
def tQ:List (List (List Int)):=[[[0,0,0],[-2,0,1],[-1,1,0]],[[0,0,0],[1,1,-1],[-1,1,0]]]
def bVU:vF ((0,([(4,(-4,(1,0)))],false)),())=some (([2,3,5],(tC,tK)),()):=Y
def b08:∃ C K,(RT [2,3,5] 3 1 2 C K/\Big 2 3 K 960000)/\Mr 1 3 C=tC/\Mr 2 3 K=tK:=by
 have⟨d,r,C,K,a,b⟩:=bEB 0 O O [(4,(-4,(1,0)))] O (λt ht=>by
  obtain rfl:=List.mem_singleton.1 ht;intro i hi;rcases(show i=0\/i=1\/i=2\/i=3 by omega)with rfl|rfl|rfl|rfl <;> decide) false
 have h:L12.getD ((0:Int)%10).toNat []=[2,3,5]:=O
 rw[h]at a b;rw[bVU]at a;have a:=oB a;simp only[oP,and_true,true_and]at a;have e:Mr d 3 C=tC:=a.1.symm;have c:Mr r 3 K=tK:=a.2.symm;have g:d=1:=by have:=oZ List.length e; rwa[eO]at this
 have f:r=2:=by have:=oZ List.length c; rwa[eO]at this
 subst g; subst f;exact⟨C,K,⟨b.1,b.2.1⟩,e,c⟩
def a1E {r n:Nat}{K:Nat->V}{m:List (List Int)}(hw:Wd r n K)(h:Mr r n K=m){i:Nat}(hi:i<r):K i=aDR m i:=by
 rw[<- h];unfold aDR;rw[a2X K hi,aTR (hw i hi)]
def bXG {r n:Nat}{K:Nat->V}{m:List (List Int)}(hw:Wd r n K)(h:Mr r n K=m)(a:1<=r):rL n r K=rL n r (aDR m):=by
 funext note x;unfold rL;rw[a1E hw h (show 0<r by omega)];congr 2;unfold tmp Vr;refine List.map_congr_left λi hi=>?_;rw[a1E hw h (List.mem_range.1 hi)]
def bEF:∃ C K,GQ [2,3,5] 3 1 2 C K tL tQ 2/\Mr 1 3 C=tC/\Mr 2 3 K=tK/\rL 3 2 K=rL 3 2 (aDR tK):=by
 have⟨C,K,h,j,d⟩:=b08;have f:K 0 0=1:=by rw[a1E h.1.wk d (show 0<2 by omega)]; rfl
 have hd:∀ c∈tQ,∀ x∈c,x.length=3/\∀ a∈x,a.natAbs<=9:=O
 refine⟨C,K,⟨h.1,h.2,by decide,by decide,by rw[f]; decide,by unfold SI; decide,by decide,by decide,by decide,by decide,by rw[f]; decide,by decide,by decide,by decide,λc e x b=>⟨(hd c e x b).1,λa g=>by have:=(hd c e x b).2 a g; omega,λi hi=>bG0 h.2 O (hd c e x b).2 hi⟩,by decide,by decide⟩,j,d,bXG h.1.wk d O⟩
def tT:List Int×List (List Int)×List (List Int):=([2,3,5],(tC,tK))
def bGS(x:List Int):Bool:=Nat.beq x.length 3&&(eqI (x.getD 0 0) 0&&(eqI (x.getD 2 0) 0&&(!(ltI (x.getD 1 0) 0)&&ltI (x.getD 1 0) 9)))
def fTc:zo [.agg TyG] [.agg TyH,zd]:=λ(t,())=>za (decide (t=tT))<|some ((2,[[1,0]]),0,())
def fTm:zo [.list TyE,.list TyD] [zd]:=λ(p,l,())=>za (decide (p=[2,3,5])&&(Nat.ble l.length 100&&l.all bGS))<|some (0,())
def fTt:zo [.agg TyG,.list TyE] [.list TyE,zd]:=λ(t,y,())=>za (decide (t=tT)&&bGS y)<|some ([0,y.getD 1 0],0,())
def fTr:zo [.agg TyH,.list TyE] [.list TyE,zd]:=λ(l,y,())=>za (decide (l=(2,[[1,0]]))&&(Nat.beq y.length 2&&(eqI (y.getD 0 0) 0&&(!(ltI (y.getD 1 0) 0)&&ltI (y.getD 1 0) 9))))<|some (y,0,())
def a23 {x}(h:bGS x=true):∃ k ,x=[0,k,0]/\0<=k/\k<9:=by
 unfold bGS at h;simp only[oA,bN,aF]at h;have⟨d,f,g,i,e⟩:=h;match x,d with
 | [a,b,c],_ =>
  grind
def b1D:∀ x y,fTc x=some y->iG x=some y:=by
 rintro⟨t,⟨⟩⟩ y h;unfold fTc at h;dsimp only[za]at h;by_cases c:t=tT;rw[oT c,oC]at h;obtain rfl:=oB h;subst c;have⟨C,K,g,b,a,_⟩:=bEF;have:=U0 g.rt g.n1 g.r1 g.g;rw[b,a,a1E g.rt.wk a (show 0<2 by omega)]at this;exact this;rw[oF c]at h; cases h
def b0R:∀ x y,fTm x=some y->rK x=some y:=by
 rintro⟨p,l,⟨⟩⟩ y h;unfold fTm at h;have⟨d,h⟩:=aJ h;obtain rfl:=oB h;simp only[oA,decide_eq_true_eq,List.all_eq_true]at d;obtain⟨rfl,e,c⟩:=d;have⟨C,K,g,_⟩:=bEF;refine aN9 g.rt.pr rfl R l (by have:=oL e; omega) (λx b=>?_) (λx b a f=>?_);obtain⟨k,rfl,_⟩:=a23 (c x b); rfl;obtain⟨k,rfl,i,j⟩:=a23 (c x b);grind
def b0C:∀ x y,fTt x=some y->gW x=some y:=by
 rintro⟨t,x,⟨⟩⟩ y h;unfold fTt at h;dsimp only at h;have⟨e,h⟩:=aJ h;obtain rfl:=oB h;simp only[oA,decide_eq_true_eq]at e;obtain⟨rfl,f⟩:=e;obtain⟨k,rfl,l,m⟩:=a23 f;have⟨C,K,g,j,b,_⟩:=bEF;have d:∀ a∈[0,k,0],a.natAbs<=9:=λa c=>by
  simp only[List.mem_cons,List.mem_nil_iff,or_false]at c;omega
 have:=aM9 g.rt [0,k,0] rfl (λa c=>by have:=d a c; omega) (λi hi=>by have:=bG0 g.k8 O d hi; omega);rw[j,b]at this;have ht:tmp 3 2 K [0,k,0]=[0,k]:=(by show [dot 3 (eK [0,k,0]) (K 0),dot 3 (eK [0,k,0]) (K 1)]=_;rw[a1E g.rt.wk b (show 0<2 by omega),a1E g.rt.wk b (show 1<2 by omega)];simp[dot,eK,aDR,tK,List.getD]);rw[ht]at this;exact this
def b05:∀ x y,fTr x=some y->gD x=some y:=by
 rintro⟨l,x,⟨⟩⟩ y h;unfold fTr at h;dsimp only at h;have⟨d,h⟩:=aJ h;obtain rfl:=oB h;simp only[oA,bN,aF,decide_eq_true_eq,Bool.not_eq_true',decide_eq_false_iff_not]at d;obtain⟨rfl,e,c,i,j⟩:=d;match x,e with
 | [a,b],_ =>
  have c:a=0:=c;subst c;have:=UB (r:=2) (g:=1) O O O O [0,b] rfl (λa f=>by
   grind)
  exact this
def bW9:List Ent:=[⟨77,[.agg TyG],[.agg TyH,.int .i64],fTc⟩,⟨69,[.list TyE,.list TyD],[.int .i64],fTm⟩,⟨56,[.agg TyG,.list TyE],[.list TyE,.int .i64],fTt⟩,⟨79,[.agg TyH,.list TyE],[.list TyE,.int .i64],fTr⟩]
def bWN:∀ e∈bW9,e.OK tP:=by
 intro e he;simp only[bW9,List.mem_cons,List.mem_nil_iff,or_false]at he;rcases he with rfl|rfl|rfl|rfl;exact λx y h=>aKJ x y (b1D x y h);exact λx y h=>aMR x y (b0R x y h);exact λx y h=>aBG x y (b0C x y h);exact λx y h=>aD3 x y (b05 x y h)
def bUD(g:FuncId)(qs:List PV):Option PV:=match a7A bW9 g qs with| some r=>(match r.val with| some y=>some (r.out y)| none=>none)| none=>none
def bWR:∀ g args r,bUD g args=some r->IE tP g args r:=by
 intro g args r h;unfold bUD at h;split at h;rename_i q b;split at h;rename_i y a;obtain rfl:=oB h;exact aS9 bWN g args q b y a;cases h;cases h
def bZO:List Nat->Nat->Bool| [],_=>false| a::r,g=>bif Nat.beq a g then true else bZO r g
def shT:List Nat:=[80,124,125,160,219]
def bM4:(match a9C tP (aVR tP) (bZO shT) bUD 1000 14 59 (lF [] ())with|some r=>bFX [.agg TyJ] r|none=>none)=some (((tT,tL),(tQ,2)),()):=Y
def BN(x:aM []):oK [.agg TyJ]:=some (((tT,tL),(tQ,2)),())
def aQV:WA tP 59 _ _ BN:=by
 rintro⟨⟩ y h;obtain rfl:=oB h;have h:=bM4;split at h;rename_i r i;intro w G vs d g;have⟨b,f⟩:=JP aQ bWR i w G vs d g;exact⟨b,f.mono λe w' ⟨v',G',k,c,a,j⟩=>⟨v',G',k,c,a,aOH h j⟩⟩;cases h
abbrev aBR:Ent:=⟨59,_,_,BN⟩
def aMU:Ent.OK tP aBR:=aQV
def TG(hharmony_Parts:aM [.agg TyJ]->Option (aM [.list TyD,zd])) (hharmony_Places:aM [.agg TyJ]->Option (aM [.list TyO,zd])) (hschismalaw41_triads:aM []->Option (aM [.agg TyJ])) (x:aM []):Option (aM [.bool]):=match x with|(())=>aB (hschismalaw41_triads (())) λb=>aB (hharmony_Places (b.1,())) λa=>aB (hharmony_Parts (b.1,())) λc=>bif eqI a.2.1 0 then bif eqI (a.1.length:Int) 6 then bif aE 2 a.1.length then bif (eqI ((a.1.getD 2 (0,0)).1) 0&&(eqI ((a.1.getD 2 (0,0)).2) 2&&true)) then bif aE 3 a.1.length then bif (eqI ((a.1.getD 3 (0,0)).1) 1&&(eqI ((a.1.getD 3 (0,0)).2) 3&&true)) then bif eqI c.2.1 0 then some (eqI (c.1.length:Int) 1,())else some (false,())else some (false,()) else none else some (false,()) else none else some (false,())else some (false,())
def yQ(x:aM []):Option (aM [.bool]):=TG xN yU BN x
def KA:Code:=bY f12
abbrev aDZ:Env:=B1 [W0,aQC,aBR]
def aOF:dN tP aDZ:=aS ⟨X6,UM,aMU,trivial⟩
def QM(id:Nat):Option cI:=none
def aNS:bA KA=[]:=Y
def aMI(c:aM [.agg TyJ]->Option (aM [.list TyD,zd]))(b:aM [.agg TyJ]->Option (aM [.list TyO,zd]))(a:aM []->Option (aM [.agg TyJ])):∀ x,bII tP (B1 [⟨48,[.agg TyJ],[.list TyD,.int .i64],c⟩,⟨21,[.agg TyJ],[.list TyO,.int .i64],b⟩,⟨59,[],[.agg TyJ],a⟩]) f12 (aP f12) QM KA [] [.bool] x=TG c b a x:=λ_=>Y
def aO5:∀ x,bII tP aDZ f12 (aP f12) QM KA _ _ x=yQ x:=aMI xN yU BN
def aRU:WA tP 12 _ _ yQ:=W4 aQ aOF func12 (c:=KA) Y (keep:=aP f12) (lt:=QM) (aO aNS trivial) aO5
def tPz:List PL:=[((0,0),[0,1,4]),((0,1),[1,2,5]),((0,2),[2,3,6]),((1,3),[0,3,4]),((1,4),[1,4,5]),((1,5),[2,5,6])]
def b2B:plA tL tQ (rL 3 2 (aDR tK))=tPz:=by rfl
def bUR:yL (((([2,3,5],(tC,tK)),tL),(tQ,2)),tPz,[],List.replicate 6 false,6,0,())=some ([[0,1,2,3,4,5]],()):=Y
def bON:yQ ()=some (true,()):=by
 have⟨C,K,h,m,f,d⟩:=bEF;have c:=h.qk;rw[m,f,d]at c;have b:=all_eq c;rw[b2B]at b;have i:=aTW O b;have p2:xN (((([2,3,5],(tC,tK)),tL),(tQ,2)),())=some ([[0,1,2,3,4,5]],0,()):=by
  have j:ltI (tPz.length:Int) 0=false:=O
  have g:ltI (tPz.length:Int) (tPz.length:Int)=false:=O
  have e:ltI 1048576 (tPz.length:Int)=false:=O
  have k:yL (((([2,3,5],(tC,tK)),tL),(tQ,2)),tPz,[],List.replicate ((tPz.length:Int).toNat) (false:Ty.den .bool),(tPz.length:Int),0,())=some ([[0,1,2,3,4,5]],()):=bUR;simp only[xN,b,e00,j,g,e,k,zz]
 have a:BN ()=some (((([2,3,5],(tC,tK)),tL),(tQ,2)),()):=rfl;have l:eqI ((tPz.map (·.1)).length:Int) 6=true:=O
 simp only[yQ,TG,a,i,p2,e00,l,zz];decide
def aZ(x:aM []):oK [.bool]:=some (true,())
def aPA:∀ x,yQ x=aZ x:=by
 rintro⟨⟩;exact bON
def aRH:WA tP 12 _ _ aZ:=by
 have h:yQ=aZ:=funext aPA;rw[<- h];exact aRU
abbrev DA:Ent:=⟨12,_,_,aZ⟩
def rV:Ent.OK tP DA:=aRH
abbrev PT:=(Int×List I4×Bool)×List I4×List (List I4)×Int
def bTW(p:Int×List I4×Bool):FM (p,())=some (decide (p.2.1.length<=3),()):=by
 have⟨a,b,c⟩:=p;have:(!(ltI 3 b.length))=decide (b.length<=3):=(by rw[aF];grind);simp only[FM,this]
def bS7(x:PT)(n:x.2.2.1.length<=9223372036854775807):∃ b,dU (x,())=some (b,())/\(b=true->x.1.2.1.length<=3/\x.2.1.length<=9/\x.2.2.1.length<=4/\∀ c∈x.2.2.1,c.length<=4):=by
 have⟨⟨v,rows,a⟩,d,cs,le⟩:=x;have n:cs.length<=9223372036854775807:=n;have key:=ME (step:=vO) (N:=2^64) (λt=>(((v,(rows,a)),(d,(cs,le))),(t:Int),())) (λi=>4<(cs.getD i []).length) (λj=>.inl (false,())) cs.length (.inr (((v,(rows,a)),(d,(cs,le))),())) Z (λt ht=>?_) ?_
 ·rcases key with ⟨j,h1,e,_,l⟩|⟨h1,e⟩;have l:CI (((v,(rows,a)),(d,(cs,le))),0,())=some (.inl (false,())):=l;refine⟨false,?_,λh=>by cases h⟩;simp only[dU,l,zz]
  ·have e:CI (((v,(rows,a)),(d,(cs,le))),0,())=some (.inr (((v,(rows,a)),(d,(cs,le))),())):=e;have f:=bTW (v,(rows,a));by_cases c1:rows.length<=3
   ·rw[oT c1]at f;by_cases c2:d.length<=9
    ·have g:ltI 9 (d.length:Int)=false:=zf
     by_cases c3:cs.length<=4
     ·have k:ltI 4 (cs.length:Int)=false:=zf
      refine⟨true,?_,λ_=>⟨c1,c2,c3,λc p=>?_⟩⟩;simp only[dU,e,f,g,k,zz];obtain⟨i,hi,rfl⟩:=List.getElem_of_mem p;have:=h1 i hi;rw[b0B hi]at this;omega
     ·have k:ltI 4 (cs.length:Int)=true:=ze
      refine⟨false,?_,λh=>by cases h⟩;simp only[dU,e,f,g,k,zz]
    ·have g:ltI 9 (d.length:Int)=true:=ze
     refine⟨false,?_,λh=>by cases h⟩;simp only[dU,e,f,g,zz]
   rw[oF c1]at f;refine⟨false,?_,λh=>by cases h⟩;simp only[dU,e,f,zz]
 ·have o:aA .i64 ((t:Int)+1)=((t+1:Nat):Int):=bP t Z;by_cases c:4<(cs.getD t []).length
  ·have m:ltI 4 ((cs.getD t []).length:Int)=true:=ze
   rw[if_pos c];simp only[vO,lI ht,iO ht,tN,m,oC]
  ·have m:ltI 4 ((cs.getD t []).length:Int)=false:=zf
   rw[if_neg c];simp only[vO,lI ht,iO ht,tN,m,o,zz]
 simp only[vO,lN,oD]
structure XP (x:PT):Prop where
 p:(0<=x.1.1/\x.1.1<256)/\∀ t∈x.1.2.1,I8 t
 n:∀ t∈x.2.1,I8 t
 c:∀ c∈x.2.2.1,∀ t∈c,I8 t
 l:0<=x.2.2.2/\x.2.2.2<256
 k:x.2.2.1.length<=9223372036854775807
def aHL:aZ (())=some (true,()):=rfl
def a0C a:eqI a a=true:=by rw[bN]; simp
def wf_u8 {x} (h:(Lit.int .u8 x).wf=true):0<=x/\x<256:=by
 simp only[Lit.wf,oA,decide_eq_true_eq]at h;have b:IntKind.u8.min=0:=by rfl
 have a:IntKind.u8.max=255:=by rfl
 omega
def wf_i8 {x}(h:(Lit.int .i8 x).wf=true) : -128<=x/\x<128:=by
 simp only[Lit.wf,oA,decide_eq_true_eq]at h;have b:IntKind.i8.min = -128:=by rfl
 have a:IntKind.i8.max=127:=by rfl
 omega
def bYW {v:I4}(h:WF (.prod (.int .i8) (.prod (.int .i8) (.prod (.int .i8) (.int .i8)))) v):I8 v:=λi hi=>by
 have⟨a,a2,a3,a4⟩:=h;rcases(show i=0\/i=1\/i=2\/i=3 by omega)with rfl|rfl|rfl|rfl
 ·exact wf_i8 a
 ·exact wf_i8 a2
 ·exact wf_i8 a3
 ·exact wf_i8 a4
def b3J {x:PT}(h:WF (.prod (.prod (.int .u8) (.prod (.list (.prod (.int .i8) (.prod (.int .i8) (.prod (.int .i8) (.int .i8))))) .bool)) (.prod (.list (.prod (.int .i8) (.prod (.int .i8) (.prod (.int .i8) (.int .i8))))) (.prod (.list (.list (.prod (.int .i8) (.prod (.int .i8) (.prod (.int .i8) (.int .i8)))))) (.int .u8)))) x):XP x:=by
 have⟨⟨b,⟨_,d⟩,_⟩,⟨_,e⟩,⟨g,a⟩,f⟩:=h;exact⟨⟨wf_u8 b,λt ht=>bYW (d t ht)⟩,λt ht=>bYW (e t ht),λc i t ht=>bYW ((a c i).2 t ht),wf_u8 f,g⟩
def a04 {a}{N:Nat}(b:0<=a)(d:a<256)(c:0<N):(IntKind.wrap .i64 a).tmod (N:Int)=((a.toNat%N:Nat)):=by
 rw[aAM Z Z,Int.tmod_eq_emod_of_nonneg b];grind
end Go.PM
