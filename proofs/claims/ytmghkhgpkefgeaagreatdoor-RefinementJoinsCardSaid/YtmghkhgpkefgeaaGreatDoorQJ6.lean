/- Texts of one proof, joined (6). -/
import Derived.Test.YtmghkhgpkefgeaaGreatDoorQJ5
set_option linter.unusedSimpArgs false
set_option linter.unusedVariables false
set_option maxRecDepth 100000
noncomputable section
namespace Go.De
abbrev pw(i:Nat):Int:=(1000000000:Int)^i
theorem aH3:pw 0=1:=rfl
theorem FZ(i:Nat):pw (i+1)=1000000000*pw i:=by unfold pw; rw[Int.pow_succ,Int.mul_comm]
theorem JZ(i:Nat):0<pw i:=Int.pow_pos (by decide)
theorem aCB(i j:Nat):pw (i+j)=pw i*pw j:=by unfold pw; rw[Int.pow_add]
theorem aPF {i j:Nat}(h:i<=j):pw i<=pw j:=by
 obtain⟨k,rfl⟩:=Nat.exists_eq_add_of_le h;rw[aCB];have h1:=JZ i;have h2:=JZ k;have:pw i*1<=pw i*pw k:=Int.mul_le_mul_of_nonneg_left (by omega) (by omega);omega
def vl:List Int->Int
 | []=>0
 | x::l=>x+1000000000*vl l
def Pc(l:List Int):Prop:=∀ x∈l,0<=x/\x<1000000000
theorem Pc.nil:Pc []:=λ_ h=>by cases h
theorem Pc.cons {x:Int}{l:List Int}(h:0<=x/\x<1000000000)(hl:Pc l):Pc (x::l):=λy hy=>by
 rcases List.mem_cons.1 hy with rfl|hy
 ·exact h
 ·exact hl y hy
theorem Pc.head {x:Int}{l:List Int}(h:Pc (x::l)):0<=x/\x<1000000000:=h x (by simp)
theorem Pc.tail {x:Int}{l:List Int}(h:Pc (x::l)):Pc l:=λy hy=>h y (by simp[hy])
theorem Pc.append {a b:List Int}(ha:Pc a)(hb:Pc b):Pc (a++b):=λx hx=>(List.mem_append.1 hx).elim (ha x) (hb x)
theorem Pc.left {a b:List Int}(h:Pc (a++b)):Pc a:=λx hx=>h x (List.mem_append_left _ hx)
theorem Pc.set {l:List Int}(h:Pc l){x:Int}(hx:0<=x/\x<1000000000)(i:Nat):Pc (l.set i x):=λy hy=>by
 rcases List.mem_or_eq_of_mem_set hy with h1|rfl
 ·exact h y h1
 ·exact hx
theorem a0S {l:List Int}{i:Nat}(h:i<l.length):l.getD i 0∈l:=by rw[List.getD_eq_getElem?_getD,List.getElem?_eq_getElem h]; exact List.getElem_mem h
theorem Pc.get {l:List Int}(h:Pc l)(i:Nat):0<=l.getD i 0/\l.getD i 0<1000000000:=by
 rcases Nat.lt_or_ge i l.length with h1|h1
 ·exact h _ (a0S h1)
 ·rw[List.getD_eq_getElem?_getD,List.getElem?_eq_none h1]; decide
theorem Pc.rep (n:Nat):Pc (List.replicate n 0):=λx hx=>by rw[(List.mem_replicate.1 hx).2]; decide
theorem GX:∀ (a b:List Int),vl (a++b)=vl a+pw a.length*vl b
 | [],b=>by simp[vl,pw]
 | x::a,b=>by
  rw[List.cons_append,vl,vl,GX a b,List.length_cons,FZ];grind
theorem WI:∀ n,vl (List.replicate n 0)=0
 | 0=>rfl
 | n+1=>by rw[List.replicate_succ,vl,WI n]; rfl
theorem aCJ:∀ (l:List Int) (i:Nat) (x:Int),i<l.length->vl (l.set i x)=vl l+(x-l.getD i 0)*pw i
 | [],i,x,h=>absurd h (Nat.not_lt_zero _)
 | y::l,0,x,h=>by simp[vl,pw]; omega
 | y::l,i+1,x,h=>by
  rw[List.set_cons_succ,vl,vl,aCJ l i x (by simpa using h),FZ,List.getD_cons_succ];grind
theorem qX:∀ {l:List Int},Pc l->0<=vl l
 | [],_=>Int.le_refl _
 | x::l,h=>by
  have h1:=qX h.tail;have h2:=h.head;rw[vl]; omega
theorem LX:∀ {l:List Int},Pc l->vl l<pw l.length
 | [],_=>by decide
 | x::l,h=>by
  have h1:=LX h.tail;have h2:=h.head;rw[vl,List.length_cons,FZ];omega
theorem D9:∀ (l:List Int) (k:Nat),k<l.length->vl (l.take (k+1))=vl (l.take k)+l.getD k 0*pw k:=λl k h=>by
 rw[List.take_succ_eq_append_getElem h,GX,List.length_take,Nat.min_eq_left (by omega),List.getD_eq_getElem?_getD,List.getElem?_eq_getElem h];simp[vl,Int.mul_comm]
theorem K9(l:List Int)(k:Nat)(h:k<=l.length):vl l=vl (l.take k)+pw k*vl (l.drop k):=by
 have e:=GX (l.take k) (l.drop k);rw[List.take_append_drop,List.length_take,Nat.min_eq_left h]at e;exact e
theorem Pc.aAR {l:List Int}(h:Pc l)(k:Nat):Pc (l.take k):=λx hx=>h x (List.mem_of_mem_take hx)
theorem Pc.a7B {l:List Int}(h:Pc l)(k:Nat):Pc (l.drop k):=λx hx=>h x (List.mem_of_mem_drop hx)
theorem aV9 {l:List Int} (h:Pc l) {k:Nat} (hz:∀ j,k<=j->l.getD j 0=0):vl l<pw k:=by
 rcases Nat.lt_or_ge k l.length with h1|h1
 ·rw[K9 l k (by omega)];have:vl (l.drop k)=0:=by
   have:l.drop k=List.replicate (l.drop k).length 0:=by
    rw[List.eq_replicate_iff];refine⟨rfl,λx hx=>?_⟩;obtain⟨i,hi,rfl⟩:=List.getElem_of_mem hx;have:=hz (k+i) (by omega);rw[List.getElem_drop];rw[List.length_drop]at hi;rwa[List.getD_eq_getElem?_getD,List.getElem?_eq_getElem (by omega)]at this
   rw[this,WI]
  have h2:=LX (h.aAR k);rw[List.length_take,Nat.min_eq_left (by omega)]at h2;rw[this]; omega
 ·exact Int.lt_of_lt_of_le (LX h) (aPF h1)
theorem HE {l:List Int}(h:Pc l){k:Nat}(hv:vl l<pw k){j:Nat}(hj:k<=j):l.getD j 0=0:=by
 rcases Nat.lt_or_ge j l.length with h1|h1
 ·have e:=K9 l j (by omega);have e2:=D9 l j h1;have e3:=K9 l (j+1) (by omega);have n1:=qX (h.aAR j);have n2:=qX (h.a7B (j+1));have n3:0<=pw (j+1)*vl (l.drop (j+1)):=Int.mul_nonneg (Int.le_of_lt (JZ _)) n2;have g:=h.get j;have m:=aPF hj;have p:=JZ j;have:¬ 1<=l.getD j 0:=λh1=>by
   have:1*pw j<=l.getD j 0*pw j:=Int.mul_le_mul_of_nonneg_right h1 (by omega);omega
  omega
 ·rw[List.getD_eq_getElem?_getD,List.getElem?_eq_none h1]; rfl
def Tr(l:List Int):Prop:=∀ x,l.getLast?=some x->x≠0
theorem Tr.nil:Tr []:=λ_ h=>nomatch h
theorem Tr.tail {x:Int}{l:List Int}(h:Tr (x::l)):Tr l:=λy hy=>h y (by
 cases l with
 | nil=>cases hy
 | cons z l=>rw[List.getLast?_cons_cons]; exact hy)
theorem aUE:∀ {l:List Int},Pc l->Tr l->l≠[]->0<vl l
 | [],_,_,h=>absurd rfl h
 | [x],h,t,_=>by
  have:=h.head;have:=t x rfl;simp only[vl]; omega
 | x::y::l,h,t,_=>by
  have h1:=aUE h.tail t.tail (by simp);have:=h.head;rw[vl]; omega
theorem aVR:∀ {a b:List Int},Pc a->Pc b->Tr a->Tr b->vl a=vl b->a=b
 | [],[],_,_,_,_,_=>rfl
 | [],y::b,_,hb,_,tb,e=>by
  have h1:=aUE hb tb (by simp);have h2:vl ([]:List Int)=0:=rfl;omega
 | x::a,[],ha,_,ta,_,e=>by
  have h1:=aUE ha ta (by simp);have h2:vl ([]:List Int)=0:=rfl;omega
 | x::a,y::b,ha,hb,ta,tb,e=>by
  have h1:=ha.head;have h2:=hb.head;rw[vl,vl]at e;have e1:x=y:=by omega
  have e2:vl a=vl b:=by omega
  rw[e1,aVR ha.tail hb.tail ta.tail tb.tail e2]
def zZ(l:List Int):List Int:=(l.reverse.dropWhile (λx=>decide (x=0))).reverse
theorem WQ(l:List Int):zZ (l++[0])=zZ l:=by simp[zZ]
theorem aCD(l:List Int){x:Int}(h:x≠0):zZ (l++[x])=l++[x]:=by simp[zZ,h]
theorem aVI(l:List Int):Pc l->Pc (zZ l)/\Tr (zZ l)/\vl (zZ l)=vl l/\(zZ l).length<=l.length:=by
 suffices H:∀ n (l:List Int),l.length=n->Pc l->Pc (zZ l)/\Tr (zZ l)/\vl (zZ l)=vl l/\(zZ l).length<=l.length from H _ l rfl
 intro n
 induction n with
 | zero =>
  intro l hl h;have:l=[]:=List.eq_nil_of_length_eq_zero hl;subst this;exact⟨Pc.nil,Tr.nil,rfl,Nat.le_refl _⟩
 | succ n ih =>
  intro l hl h;rcases List.eq_nil_or_concat l with rfl|⟨a,x,rfl⟩
  ·exact⟨Pc.nil,Tr.nil,rfl,Nat.le_refl _⟩
  ·rw[List.concat_eq_append]at hl h ⊢;rw[List.length_append,List.length_singleton]at hl
   by_cases hx:x=0
   ·subst hx;rw[WQ];obtain⟨h1,h2,h3,h4⟩:=ih a (by omega) h.left;refine⟨h1,h2,?_,by rw[List.length_append]; omega⟩;rw[GX,h3]; simp[vl]
   ·rw[aCD a hx];refine⟨h,λy hy=>?_,rfl,Nat.le_refl _⟩;rw[List.getLast?_concat]at hy;cases hy; exact hx
def pcs(n:Nat):List Int:=if h:n=0 then [] else ((n%1000000000:Nat):Int)::pcs (n/1000000000)
termination_by n
decreasing_by omega
theorem YW:pcs 0=[]:=by rw[pcs]; rfl
theorem aD0 {n:Nat}(h:n≠0):pcs n=((n%1000000000:Nat):Int)::pcs (n/1000000000):=by rw[pcs,dif_neg h]
theorem gW(n:Nat):Pc (pcs n)/\Tr (pcs n)/\vl (pcs n)=n:=by
 induction n using Nat.strongRecOn with
 | _ n ih =>
  by_cases h:n=0
  ·subst h; rw[YW]; exact⟨Pc.nil,Tr.nil,rfl⟩
  ·obtain⟨h1,h2,h3⟩:=ih (n/1000000000) (by omega);rw[aD0 h];refine⟨Pc.cons (by omega) h1,λy hy=>?_,by rw[vl,h3]; omega⟩;cases hp:pcs (n/1000000000)with
   | nil =>
    rw[hp]at hy h3;have h3:(0:Int)=((n/1000000000:Nat):Int):=h3;have:[((n%1000000000:Nat):Int)].getLast?=some ((n%1000000000:Nat):Int):=rfl;rw[this]at hy;cases hy;omega
   | cons z l =>
    rw[hp]at hy h2;rw[List.getLast?_cons_cons]at hy;exact h2 y hy
theorem a5S {l:List Int}{n:Nat}(h1:Pc l)(h2:Tr l)(h3:vl l=n):l=pcs n :=
 aVR h1 (gW n).1 h2 (gW n).2.1 (h3.trans (gW n).2.2.symm)
theorem HA {l:List Int}{n:Nat}(h1:Pc l)(h3:vl l=n):zZ l=pcs n:=by
 obtain⟨a,b,c,d⟩:=aVI l h1;exact a5S a b (c.trans h3)
theorem VW {n k:Nat}(h:n<1000000000^k):(pcs n).length<=k:=by
 rcases Nat.lt_or_ge k (pcs n).length with h1|h1
 ·obtain⟨a,b,c⟩:=gW n;have hlt:vl (pcs n)<pw k:=by
   rw[c];have:((1000000000^k:Nat):Int)=pw k:=by unfold pw; rw[Int.natCast_pow]; rfl
   omega
  have hz:=HE a hlt (j:=(pcs n).length-1) (by omega);have hne:pcs n≠[]:=λh=>by rw[h]at h1; exact absurd h1 (Nat.not_lt_zero _)
  have:=b _ (List.getLast?_eq_some_getLast hne);rw[List.getLast_eq_getElem]at this;rw[List.getD_eq_getElem?_getD,List.getElem?_eq_getElem (by omega)]at hz;exact absurd hz this
 ·exact h1
theorem a45 {n k:Nat}(h:k<(pcs n).length):1000000000^k<=n:=by
 rcases Nat.lt_or_ge n (1000000000^k)with h1|h1
 ·have:=VW h1; omega
 ·exact h1
end Go.De
namespace Go.De
def tkS(q:List Int) (n:Int) (at':Nat) (p:List Int):Nat->List Int×Int×Int
 | 0=>(p,0,0)
 | k+1 =>
  let s:=tkS q n at' p k
  let c:=if k<q.length then s.2.2+n*q.getD k 0 else s.2.2
  let d:=s.1.getD (at'+k) 0-c%1000000000-s.2.1
  (s.1.set (at'+k) (if d<0 then d+1000000000 else d),if d<0 then 1 else 0,c/1000000000)
theorem getD_set_ne(l:List Int){i j:Nat}(x:Int)(h:i≠j):(l.set i x).getD j 0=l.getD j 0:=by simp[List.getD_eq_getElem?_getD,List.getElem?_set_ne h]
theorem aGJ(l:List Int){i:Nat}(x:Int)(h:i<l.length):(l.set i x).getD i 0=x:=by simp[List.getD_eq_getElem?_getD,h]
structure TkI (q:List Int) (n:Int) (at':Nat) (p:List Int) (k:Nat) (s:List Int×Int×Int):Prop where
 pc:Pc s.1
 len:s.1.length=p.length
 bo:s.2.1=0\/s.2.1=1
 ca:0<=s.2.2/\s.2.2<1000000000
 hi:∀ j,at'+k<=j->s.1.getD j 0=p.getD j 0
 val:vl s.1=vl p-n*pw at'*vl (q.take k)+(s.2.1+s.2.2)*pw (at'+k)
 fin:q.length<k->s.2.2=0
theorem KQ {n x:Int}(hn:0<=n/\n<1000000000)(hx:0<=x/\x<1000000000):0<=n*x/\n*x<=999999998000000001:=by
 have h1:0<=n*x:=Int.mul_nonneg hn.1 hx.1;have h2:n*x<=999999999*999999999:=Int.mul_le_mul (by omega) (by omega) hx.1 (by decide);omega
theorem tkI {q:List Int}{n:Int}{at':Nat}{p:List Int}(hp:Pc p)(hq:Pc q)(hn:0<=n/\n<1000000000)(hl:at'+q.length<p.length):∀ k,k<=q.length+1->TkI q n at' p k (tkS q n at' p k)
 | 0,_=>⟨hp,rfl,.inl rfl,⟨Int.le_refl _,by show (0:Int)<1000000000; decide⟩,λ_ _=>rfl,by simp[tkS,vl],λh=>absurd h (Nat.not_lt_zero _)⟩
 | k+1,hk=>by
  have ih:=tkI hp hq hn hl k (by omega);rw[tkS];generalize tkS q n at' p k=s at ih;obtain⟨l,bo,ca⟩:=s;obtain⟨h1,h2,h3,h4,h5,h6,h7⟩:=ih;dsimp only at h1 h2 h3 h4 h5 h6 h7 ⊢;have hlen:at'+k<l.length:=by omega
  have hx:=h1.get (at'+k);have hqk:=hq.get k;have hm:=KQ hn hqk
  -- the sum
  have hc:∃ c,(if k<q.length then ca+n*q.getD k 0 else ca)=c/\0<=c/\c<1000000000*1000000000/\n*pw at'*vl (q.take (k+1))=n*pw at'*vl (q.take k)+(c-ca)*pw (at'+k)/\(q.length<=k->c=ca):=by
   by_cases h:k<q.length
   ·refine⟨_,if_pos h,by omega,by omega,?_,λh'=>by omega⟩;rw[D9 q k h,aCB];grind
   ·refine⟨_,if_neg h,by omega,by omega,?_,λ_=>rfl⟩;rw[List.take_of_length_le (show q.length<=k+1 by omega),List.take_of_length_le (show q.length<=k by omega)];grind
  obtain⟨c,e,c0,c1,c2,c3⟩:=hc;rw[e];have hdm:=Int.emod_add_mul_ediv c 1000000000;have hd0:0<=c/1000000000:=by omega
  have hd1:c/1000000000<1000000000:=by omega
  have hpw:pw (at'+(k+1))=1000000000*pw (at'+k):=FZ (at'+k);generalize hq':c/1000000000=cq at *;generalize hr':c%1000000000=cr at *;have hr0:0<=cr/\cr<1000000000:=by omega
  have hd:∃ d b,(if l.getD (at'+k) 0-cr-bo<0 then l.getD (at'+k) 0-cr-bo+1000000000 else l.getD (at'+k) 0-cr-bo)=d/\(if l.getD (at'+k) 0-cr-bo<0 then (1:Int) else 0)=b/\(0<=d/\d<1000000000)/\(b=0\/b=1)/\d=l.getD (at'+k) 0-cr-bo+1000000000*b:=by
   by_cases h:l.getD (at'+k) 0-cr-bo<0
   ·exact⟨_,_,if_pos h,if_pos h,by omega,.inr rfl,by omega⟩
   ·exact⟨_,_,if_neg h,if_neg h,by omega,.inl rfl,by omega⟩
  obtain⟨d,b,e1,e2,d0,b0,e3⟩:=hd;rw[e1,e2];refine⟨h1.set d0 _,by rw[List.length_set]; exact h2,b0,⟨hd0,hd1⟩,λj hj=>?_,?_,λh=>?_⟩
  ·show (l.set (at'+k) d).getD j 0=_;rw[getD_set_ne _ _ (by omega)];exact h5 j (by omega)
  ·show vl (l.set (at'+k) d)=_+(b+cq)*_;rw[aCJ l _ _ hlen,h6,c2,hpw,e3];generalize l.getD (at'+k) 0=x;grind
  ·show cq=0;have:=c3 (by omega);have hk':k=q.length\/q.length<k:=by omega
   omega
def bkS(q:List Int) (at':Nat) (p:List Int):Nat->List Int×Int
 | 0=>(p,0)
 | k+1 =>
  let s:=bkS q at' p k
  let c:=if k<q.length then s.2+s.1.getD (at'+k) 0+q.getD k 0 else s.2+s.1.getD (at'+k) 0
  (s.1.set (at'+k) (c%1000000000),c/1000000000)
structure BkI (q:List Int) (at':Nat) (p:List Int) (k:Nat) (s:List Int×Int):Prop where
 pc:Pc s.1
 len:s.1.length=p.length
 ca:s.2=0\/s.2=1
 hi:∀ j,at'+k<=j->s.1.getD j 0=p.getD j 0
 val:vl s.1=vl p+pw at'*vl (q.take k)-s.2*pw (at'+k)
theorem bkI {q:List Int}{at':Nat}{p:List Int}(hp:Pc p)(hq:Pc q)(hl:at'+q.length<p.length):∀ k,k<=q.length+1->BkI q at' p k (bkS q at' p k)
 | 0,_=>⟨hp,rfl,.inl rfl,λ_ _=>rfl,by simp[bkS,vl]⟩
 | k+1,hk=>by
  have ih:=bkI hp hq hl k (by omega);rw[bkS];generalize bkS q at' p k=s at ih;obtain⟨l,ca⟩:=s;obtain⟨h1,h2,h3,h5,h6⟩:=ih;dsimp only at h1 h2 h3 h5 h6 ⊢;have hlen:at'+k<l.length:=by omega
  have hx:=h1.get (at'+k);have hqk:=hq.get k;have hc:∃ c,(if k<q.length then ca+l.getD (at'+k) 0+q.getD k 0 else ca+l.getD (at'+k) 0)=c/\0<=c/\c<2*1000000000/\pw at'*vl (q.take (k+1))=pw at'*vl (q.take k)+(c-ca-l.getD (at'+k) 0)*pw (at'+k):=by
   by_cases h:k<q.length
   ·refine⟨_,if_pos h,by omega,by omega,?_⟩;rw[D9 q k h,aCB];grind
   ·refine⟨_,if_neg h,by omega,by omega,?_⟩;rw[List.take_of_length_le (show q.length<=k+1 by omega),List.take_of_length_le (show q.length<=k by omega)];grind
  obtain⟨c,e,c0,c1,c2⟩:=hc;rw[e];have hdm:=Int.emod_add_mul_ediv c 1000000000;have hpw:pw (at'+(k+1))=1000000000*pw (at'+k):=FZ (at'+k);have hd0:c/1000000000=0\/c/1000000000=1:=by omega
  have hr0:0<=c%1000000000/\c%1000000000<1000000000:=by omega
  generalize c/1000000000=cq at *;generalize c%1000000000=cr at *;refine⟨h1.set hr0 _,by rw[List.length_set]; exact h2,hd0,λj hj=>?_,?_⟩
  ·show (l.set (at'+k) cr).getD j 0=_;rw[getD_set_ne _ _ (by omega)];exact h5 j (by omega)
  ·show vl (l.set (at'+k) cr)=_-cq*_;rw[aCJ l _ _ hlen,h6,c2,hpw];generalize l.getD (at'+k) 0=x at *;grind
def tmI(q:List Int) (a:Int) (i:Nat) (o:List Int):Nat->List Int×Int
 | 0=>(o,0)
 | k+1 =>
  let s:=tmI q a i o k
  let c:=s.2+(s.1.getD (i+k) 0+a*q.getD k 0)
  (s.1.set (i+k) (c%1000000000),c/1000000000)
structure TmI (q:List Int) (a:Int) (i:Nat) (o:List Int) (k:Nat) (s:List Int×Int):Prop where
 pc:Pc s.1
 len:s.1.length=o.length
 ca:0<=s.2/\s.2<1000000000
 hi:∀ j,i+k<=j->s.1.getD j 0=o.getD j 0
 val:vl s.1+s.2*pw (i+k)=vl o+a*pw i*vl (q.take k)
theorem aNO {q o:List Int}{a:Int}{i:Nat}(ho:Pc o)(hq:Pc q)(ha:0<=a/\a<1000000000)(hl:i+q.length<=o.length):∀ k,k<=q.length->TmI q a i o k (tmI q a i o k)
 | 0,_=>⟨ho,rfl,⟨Int.le_refl _,by show (0:Int)<1000000000; decide⟩,λ_ _=>rfl,by simp[tmI,vl]⟩
 | k+1,hk=>by
  have ih:=aNO ho hq ha hl k (by omega);rw[tmI];generalize tmI q a i o k=s at ih;obtain⟨l,ca⟩:=s;obtain⟨h1,h2,h3,h5,h6⟩:=ih;dsimp only at h1 h2 h3 h5 h6 ⊢;have hlen:i+k<l.length:=by omega
  have hx:=h1.get (i+k);have hm:=KQ ha (hq.get k);have e2:a*pw i*vl (q.take (k+1))=a*pw i*vl (q.take k)+(a*q.getD k 0)*pw (i+k):=by
   rw[D9 q k (by omega),aCB];grind
  have hpw:pw (i+(k+1))=1000000000*pw (i+k):=FZ (i+k);generalize a*q.getD k 0=m at *;have hdm:=Int.emod_add_mul_ediv (ca+(l.getD (i+k) 0+m)) 1000000000;have hq0:0<=(ca+(l.getD (i+k) 0+m))/1000000000/\(ca+(l.getD (i+k) 0+m))/1000000000<1000000000:=by omega
  have hr0:0<=(ca+(l.getD (i+k) 0+m))%1000000000/\(ca+(l.getD (i+k) 0+m))%1000000000<1000000000:=by omega
  generalize (ca+(l.getD (i+k) 0+m))/1000000000=cq at *;generalize (ca+(l.getD (i+k) 0+m))%1000000000=cr at *;refine⟨h1.set hr0 _,by rw[List.length_set]; exact h2,hq0,λj hj=>?_,?_⟩
  ·show (l.set (i+k) cr).getD j 0=_;rw[getD_set_ne _ _ (by omega)];exact h5 j (by omega)
  ·show vl (l.set (i+k) cr)+cq*_=_;rw[aCJ l _ _ hlen,e2,hpw];generalize l.getD (i+k) 0=x at *;grind
def tmO(p q o:List Int):Nat->List Int
 | 0=>o
 | i+1 =>
  let s:=tmI q (p.getD i 0) i (tmO p q o i) q.length
  s.1.set (i+q.length) s.2
theorem aOT {p q:List Int}(hp:Pc p)(hq:Pc q):∀ i,i<=p.length->Pc (tmO p q (List.replicate (p.length+q.length) 0) i)/\(tmO p q (List.replicate (p.length+q.length) 0) i).length=p.length+q.length/\vl (tmO p q (List.replicate (p.length+q.length) 0) i)=vl (p.take i)*vl q/\∀ j,i+q.length<=j->(tmO p q (List.replicate (p.length+q.length) 0) i).getD j 0=0
 | 0,_=>⟨Pc.rep _,by simp[tmO],by simp[tmO,WI,vl],λj _=>by simp[tmO,List.getD_eq_getElem?_getD,List.getElem?_replicate]; split <;> rfl⟩
 | i+1,hi=>by
  obtain⟨h1,h2,h3,h4⟩:=aOT hp hq i (by omega);rw[tmO];generalize tmO p q (List.replicate (p.length+q.length) 0) i=o at h1 h2 h3 h4;have k:=aNO h1 hq (hp.get i) (i:=i) (by omega) q.length (Nat.le_refl _);generalize tmI q (p.getD i 0) i o q.length=s at k;obtain⟨g1,g2,g3,g4,g5⟩:=k;refine⟨g1.set g3 _,by rw[List.length_set,g2,h2],?_,λj hj=>?_⟩
  ·rw[aCJ _ _ _ (by omega),g4 _ (Nat.le_refl _),h4 _ (Nat.le_refl _),D9 p i (by omega)];rw[List.take_length]at g5;grind
  ·rw[getD_set_ne _ _ (by omega),g4 j (by omega)];exact h4 j (by omega)
theorem aXT(a b:Nat):zZ (tmO (pcs a) (pcs b) (List.replicate ((pcs a).length+(pcs b).length) 0) (pcs a).length)=pcs (a*b):=by
 obtain⟨a1,a2,a3⟩:=gW a;obtain⟨b1,b2,b3⟩:=gW b;obtain⟨h1,h2,h3,h4⟩:=aOT a1 b1 _ (Nat.le_refl _);refine HA h1 ?_;rw[h3,List.take_length,a3,b3,Int.natCast_mul]
def smS(p:List Int) (n:Int):Nat->List Int×Int
 | 0=>(List.replicate p.length 0,0)
 | t+1 =>
  let s:=smS p n t
  let r:=s.2*1000000000+p.getD (p.length-1-t) 0
  (s.1.set (p.length-1-t) (r/n),r%n)
structure SmI (p:List Int) (n:Int) (t:Nat) (s:List Int×Int):Prop where
 pc:Pc s.1
 len:s.1.length=p.length
 re:0<=s.2/\s.2<n
 lo:∀ j,j<p.length-t->s.1.getD j 0=0
 val:vl (p.drop (p.length-t))*pw (p.length-t)=n*vl s.1+s.2*pw (p.length-t)
theorem smI {p:List Int}{n:Int}(hp:Pc p)(hn:0<n/\n<1000000000):∀ t,t<=p.length->SmI p n t (smS p n t)
 | 0,_=>⟨Pc.rep _,by simp[smS],⟨Int.le_refl _,hn.1⟩,λj _=>by simp[smS,List.getD_eq_getElem?_getD,List.getElem?_replicate]; split <;> rfl,by simp[smS,vl,WI]⟩
 | t+1,ht=>by
  have ih:=smI hp hn t (by omega);rw[smS];generalize smS p n t=s at ih;obtain⟨l,r⟩:=s;obtain⟨h1,h2,h3,h4,h5⟩:=ih;dsimp only at h1 h2 h3 h4 h5 ⊢;obtain⟨i,hi⟩:∃ i,p.length-1-t=i:=⟨_,rfl⟩;have ei:p.length-t=i+1:=by omega
  have ei':p.length-(t+1)=i:=by omega
  rw[hi];rw[ei]at h4 h5;have hx:=hp.get i;have hz:l.getD i 0=0:=h4 i (by omega);have hdr:p.drop i=p.getD i 0::p.drop (i+1):=by rw[List.drop_eq_getElem_cons (by omega),List.getD_eq_getElem?_getD,List.getElem?_eq_getElem (by omega)]; rfl
  generalize p.getD i 0=x at *;have hdm:=Int.emod_add_mul_ediv (r*1000000000+x) n;have hr0:0<=(r*1000000000+x)%n/\(r*1000000000+x)%n<n:=⟨Int.emod_nonneg _ (by omega),Int.emod_lt_of_pos _ hn.1⟩;have hq0:0<=(r*1000000000+x)/n:=Int.ediv_nonneg (by omega) (by omega);have hq1:(r*1000000000+x)/n<1000000000:=by
   refine Int.ediv_lt_of_lt_mul hn.1 ?_;omega
  generalize (r*1000000000+x)/n=cq at *;generalize (r*1000000000+x)%n=cr at *;refine⟨h1.set ⟨hq0,hq1⟩ _,by rw[List.length_set]; exact h2,hr0,λj hj=>?_,?_⟩
  ·show (l.set i cq).getD j 0=0;rw[getD_set_ne _ _ (by omega)];exact h4 j (by omega)
  ·show _=n*vl (l.set i cq)+cr*_;rw[ei',aCJ l _ _ (by omega),hdr,vl,hz];rw[FZ]at h5;grind
theorem aXY(a:Nat){n:Nat}(hn:0<n/\n<1000000000):zZ (smS (pcs a) n (pcs a).length).1=pcs (a/n)/\(smS (pcs a) n (pcs a).length).2=((a%n:Nat):Int):=by
 obtain⟨a1,a2,a3⟩:=gW a;have k:=smI a1 (n:=(n:Int)) (by omega) _ (Nat.le_refl _);generalize smS (pcs a) n (pcs a).length=s at k;obtain⟨h1,h2,h3,h4,h5⟩:=k;rw[Nat.sub_self,List.drop_zero,a3,aH3,Int.mul_one,Int.mul_one]at h5;have hv0:=qX h1;obtain⟨v,hv⟩:∃ v:Nat,vl s.1=v:=⟨(vl s.1).toNat,by omega⟩;obtain⟨r,hr⟩:∃ r:Nat,s.2=r:=⟨s.2.toNat,by omega⟩;rw[hv,hr]at h5;rw[hr]at h3;have e:a=n*v+r:=by
  have:((a:Nat):Int)=((n*v+r:Nat):Int):=by rw[Int.natCast_add,Int.natCast_mul]; exact h5
  exact Int.ofNat_inj.1 this
 have e1:a/n=v:=by rw[e,Nat.mul_add_div hn.1,Nat.div_eq_of_lt (by omega),Nat.add_zero]
 have e2:a%n=r:=by rw[e,Nat.mul_add_mod,Nat.mod_eq_of_lt (by omega)]
 rw[e1,e2];exact⟨HA h1 hv,hr⟩
end Go.De
namespace Go.De
theorem a0L {a:List Int} (h:Pc a) {k:Nat} (hz:∀ j,k<j->a.getD j 0=0) (hk:k<a.length):a.getD k 0*pw k<=vl a/\vl a<(a.getD k 0+1)*pw k:=by
 have e:=K9 a (k+1) (by omega);have e2:=D9 a k hk;have n1:=qX (h.aAR k);have n2:=LX (h.aAR k);rw[List.length_take,Nat.min_eq_left (by omega)]at n2;have:vl (a.drop (k+1))=0:=by
  have:a.drop (k+1)=List.replicate (a.drop (k+1)).length 0:=by
   rw[List.eq_replicate_iff];refine⟨rfl,λx hx=>?_⟩;obtain⟨i,hi,rfl⟩:=List.getElem_of_mem hx;have:=hz (k+1+i) (by omega);rw[List.getElem_drop];rw[List.length_drop]at hi;rwa[List.getD_eq_getElem?_getD,List.getElem?_eq_getElem (by omega)]at this
  rw[this,WI]
 rw[this,Int.mul_zero,Int.add_zero,e2]at e;rw[e,Int.add_mul,Int.one_mul];omega
theorem aVV {a:List Int}(h:Pc a){k:Nat}(hz:∀ j,k+1<j->a.getD j 0=0)(hk:k+1<a.length):(a.getD (k+1) 0*1000000000+a.getD k 0)*pw k<=vl a/\vl a<(a.getD (k+1) 0*1000000000+a.getD k 0+1)*pw k:=by
 have e:=K9 a (k+2) (by omega);have e2:=D9 a (k+1) hk;have e3:=D9 a k (by omega);have n1:=qX (h.aAR k);have n2:=LX (h.aAR k);rw[List.length_take,Nat.min_eq_left (by omega)]at n2;have:vl (a.drop (k+2))=0:=by
  have:a.drop (k+2)=List.replicate (a.drop (k+2)).length 0:=by
   rw[List.eq_replicate_iff];refine⟨rfl,λx hx=>?_⟩;obtain⟨i,hi,rfl⟩:=List.getElem_of_mem hx;have:=hz (k+2+i) (by omega);rw[List.getElem_drop];rw[List.length_drop]at hi;rwa[List.getD_eq_getElem?_getD,List.getElem?_eq_getElem (by omega)]at this
  rw[this,WI]
 rw[this,Int.mul_zero,Int.add_zero,e2,e3,FZ]at e;have q:(a.getD (k+1) 0*1000000000+a.getD k 0)*pw k=a.getD k 0*pw k+a.getD (k+1) 0*(1000000000*pw k):=by grind
 have q2:(a.getD (k+1) 0*1000000000+a.getD k 0+1)*pw k=(a.getD (k+1) 0*1000000000+a.getD k 0)*pw k+pw k:=by grind
 omega
theorem a2F {a:List Int}(h:Pc a){k:Nat}(hz:∀ j,k+2<j->a.getD j 0=0)(hk:k+2<a.length):((a.getD (k+2) 0*1000000000+a.getD (k+1) 0)*1000000000+a.getD k 0)*pw k<=vl a/\vl a<((a.getD (k+2) 0*1000000000+a.getD (k+1) 0)*1000000000+a.getD k 0+1)*pw k:=by
 have e:=K9 a (k+3) (by omega);have e1:=D9 a (k+2) hk;have e2:=D9 a (k+1) (by omega);have e3:=D9 a k (by omega);have n1:=qX (h.aAR k);have n2:=LX (h.aAR k);rw[List.length_take,Nat.min_eq_left (by omega)]at n2;have:vl (a.drop (k+3))=0:=by
  have:a.drop (k+3)=List.replicate (a.drop (k+3)).length 0:=by
   rw[List.eq_replicate_iff];refine⟨rfl,λx hx=>?_⟩;obtain⟨i,hi,rfl⟩:=List.getElem_of_mem hx;have:=hz (k+3+i) (by omega);rw[List.getElem_drop];rw[List.length_drop]at hi;rwa[List.getD_eq_getElem?_getD,List.getElem?_eq_getElem (by omega)]at this
  rw[this,WI]
 have p1:pw (k+1)=1000000000*pw k:=FZ k;have p2:pw (k+2)=1000000000*(1000000000*pw k):=by rw[FZ (k+1),p1]
 rw[this,Int.mul_zero,Int.add_zero,e1,e2,e3,p1,p2]at e;have q:((a.getD (k+2) 0*1000000000+a.getD (k+1) 0)*1000000000+a.getD k 0)*pw k=a.getD k 0*pw k+a.getD (k+1) 0*(1000000000*pw k)+a.getD (k+2) 0*(1000000000*(1000000000*pw k)):=by grind
 have q2:((a.getD (k+2) 0*1000000000+a.getD (k+1) 0)*1000000000+a.getD k 0+1)*pw k=((a.getD (k+2) 0*1000000000+a.getD (k+1) 0)*1000000000+a.getD k 0)*pw k+pw k:=by grind
 omega
def NK(bt b2 a2 g r:Int):Prop:=1000000000<=g\/(r<1000000000/\r*1000000000+a2<g*b2)
instance (bt b2 a2 g r:Int):Decidable (NK bt b2 a2 g r):=by unfold NK; infer_instance
structure Gs (A V P K a2 high bt b2:Int):Prop where
 P0:0<P
 K0:0<K
 A2:(high*1000000000+a2)*(K*P)<=A
 A3:A<(high*1000000000+a2+1)*(K*P)
 a20:0<=a2/\a2<1000000000
 V2:(bt*1000000000+b2)*K<=V
 V3:V<(bt*1000000000+b2+1)*K
 b20:0<=b2/\b2<1000000000
 bt0:0<bt
 h0:0<=high
theorem aJQ {a b:Int}(ha:0<a)(hb:0<b):0<a*b:=Int.mul_pos ha hb
theorem X7 {a b c:Int}(h:a<=b)(hc:0<=c):a*c<=b*c:=Int.mul_le_mul_of_nonneg_right h hc
theorem Gs.start {A V P K a2 high bt b2 qh:Int} (h:Gs A V P K a2 high bt b2) (hq0:0<=qh) (hq:qh*(V*P)<=A):qh<=high/bt:=by
 rw[Int.le_ediv_iff_mul_le h.bt0];have hKP:=aJQ h.K0 h.P0
 -- qh*bt*10^9*K*P <= qh*V*P <= A<(high+1)*10^9*K*P
 have h1:qh*((bt*1000000000)*K*P)<=qh*(V*P):=by
  refine Int.mul_le_mul_of_nonneg_left ?_ hq0;refine X7 ?_ (Int.le_of_lt h.P0);refine Int.le_trans ?_ h.V2;exact X7 (by have:=h.b20; omega) (Int.le_of_lt h.K0)
 have h2:A<((high+1)*1000000000)*(K*P):=by
  refine Int.lt_of_lt_of_le h.A3 (X7 ?_ (Int.le_of_lt hKP));have:=h.a20; omega
 have h3:(qh*bt*1000000000)*(K*P)<((high+1)*1000000000)*(K*P):=by
  have:(qh*bt*1000000000)*(K*P)=qh*((bt*1000000000)*K*P):=by grind
  omega
 have h4:=Int.lt_of_mul_lt_mul_right h3 (Int.le_of_lt hKP);omega
theorem Gs.down {A V P K a2 high bt b2 qh g r:Int}(h:Gs A V P K a2 high bt b2)(hq0:0<=qh)(hq:qh*(V*P)<=A)(hqB:qh<1000000000)(hg:qh<=g)(hr:r=high-g*bt)(hc:NK bt b2 a2 g r):qh<=g-1:=by
 rcases hc with hc|⟨_,hc⟩
 ·omega
 ·have:¬ g=qh:=λe=>by
   subst e;have hKP:=aJQ h.K0 h.P0;have h1:g*((bt*1000000000+b2)*K*P)<=g*(V*P):=Int.mul_le_mul_of_nonneg_left (X7 h.V2 (Int.le_of_lt h.P0)) hq0;have h2:high*1000000000+a2+1<=g*(bt*1000000000+b2):=by
    have:g*(bt*1000000000+b2)=g*bt*1000000000+g*b2:=by grind
    subst hr;omega
   have h3:=X7 h2 (Int.le_of_lt hKP);have h4:g*(bt*1000000000+b2)*(K*P)=g*((bt*1000000000+b2)*K*P):=by grind
   have:=h.A3;omega
  omega
theorem Gs.stop {A V P K a2 high bt b2 g r:Int}(h:Gs A V P K a2 high bt b2)(hg:0<=g)(hr:r=high-g*bt)(hc:¬ NK bt b2 a2 g r):(g-1)*(V*P)<=A:=by
 unfold NK at hc;have hKP:=aJQ h.K0 h.P0;have hVP:1000000000*(K*P)<=V*P:=by
  have h1:1000000000*K<=V:=Int.le_trans (X7 (by have:=h.b20; have:=h.bt0; omega) (Int.le_of_lt h.K0)) h.V2;have:=X7 h1 (Int.le_of_lt h.P0);have e:1000000000*K*P=1000000000*(K*P):=by grind
  omega
 have hV3:g*(V*P)<=g*((bt*1000000000+b2+1)*K*P):=Int.mul_le_mul_of_nonneg_left (X7 (Int.le_of_lt h.V3) (Int.le_of_lt h.P0)) hg;have e0:g*((bt*1000000000+b2+1)*K*P)=(g*bt*1000000000+g*b2+g)*(K*P):=by grind
 have e1:(g-1)*(V*P)=g*(V*P)-V*P:=by grind
 by_cases hrr:1000000000<=r
 ·-- g*(bt+1) <= high
  have h2:g*bt*1000000000+g*b2+g<=high*1000000000+a2+1000000000:=by
   have:=h.a20;have:=h.b20;have:g*b2<=g*999999999:=Int.mul_le_mul_of_nonneg_left (by omega) hg;omega
  have h3:=X7 h2 (Int.le_of_lt hKP);have e3:(high*1000000000+a2+1000000000)*(K*P)=(high*1000000000+a2)*(K*P)+1000000000*(K*P):=by grind
  have:=h.A2;omega
 ·have h2:g*bt*1000000000+g*b2+g<=high*1000000000+a2+1000000000:=by
   have:g*b2<=r*1000000000+a2:=by omega
   subst hr;omega
  have h3:=X7 h2 (Int.le_of_lt hKP);have e3:(high*1000000000+a2+1000000000)*(K*P)=(high*1000000000+a2)*(K*P)+1000000000*(K*P):=by grind
  have:=h.A2;omega
theorem aL6 {C:Nat->Prop} [DecidablePred C]:∀ n,¬ C n->∃ m,m<=n/\¬ C m/\∀ t,t<m->C t
 | 0,h=>⟨0,Nat.le_refl _,h,λt ht=>absurd ht (Nat.not_lt_zero _)⟩
 | n+1,h=>by
  by_cases hall:∃ t,t<=n/\¬ C t
  ·obtain⟨t,ht,hc⟩:=hall;obtain⟨m,h1,h2,h3⟩:=aL6 t hc;exact⟨m,by omega,h2,h3⟩
  ·exact⟨n+1,Nat.le_refl _,h,λt ht=>Classical.byContradiction λhc=>hall ⟨t,by omega,hc⟩⟩
theorem Gs.a5N {A V P K a2 high bt b2 qh:Int}(h:Gs A V P K a2 high bt b2)(hq0:0<=qh)(hq:qh*(V*P)<=A)(hq1:A<(qh+1)*(V*P))(hqB:qh<1000000000) :
  ∃ m:Nat,(m:Int)<=high/bt/\(∀ t:Nat,t<m->NK bt b2 a2 (high/bt-t) (high%bt+t*bt))/\¬ NK bt b2 a2 (high/bt-m) (high%bt+m*bt)/\qh<=high/bt-m/\high/bt-m<=qh+1:=by
 have h0:=h.start hq0 hq;have hr:∀ t:Nat,high%bt+t*bt=high-(high/bt-t)*bt:=λt=>by
  have:=Int.emod_add_mul_ediv high bt;grind
 have hge:∀ m:Nat,(∀ t:Nat,t<m->NK bt b2 a2 (high/bt-t) (high%bt+t*bt))->qh<=high/bt-m:=by
  intro m
  induction m with
  | zero=>intro _; simpa using h0
  | succ m ih =>
   intro hc;have h1:=ih λt ht=>hc t (by omega)
   have h2:=h.down hq0 hq hqB h1 (hr m) (hc m (by omega));omega
 obtain⟨n,hn⟩:∃ n:Nat,high/bt=n:=⟨(high/bt).toNat,by omega⟩;have hlast:¬ NK bt b2 a2 (high/bt-((n:Nat):Int)) (high%bt+(n:Nat)*bt):=λhc=>by
  by_cases hall:∀ t:Nat,t<n->NK bt b2 a2 (high/bt-t) (high%bt+t*bt)
  ·have h1:=hge n hall;have h2:=h.down hq0 hq hqB h1 (hr n) hc;omega
  ·-- a false test below would have stopped: monotone in t
   have:∃ t:Nat,t<n/\¬ NK bt b2 a2 (high/bt-t) (high%bt+t*bt):=by exact Classical.byContradiction λhx=>hall λt ht=>Classical.byContradiction λhc'=>hx ⟨t,ht,hc'⟩
   -- at n the guess is 0
   unfold NK at hc;rw[hn,Int.sub_self,Int.zero_mul]at hc;have hre:=Int.emod_nonneg high (show bt≠0 by have:=h.bt0; omega);have hnb:0<=(n:Int)*bt:=Int.mul_nonneg (by omega) (Int.le_of_lt h.bt0);have:=h.a20;omega
 obtain⟨m,h1,h2,h3⟩:=aL6 (C:=λt:Nat=>NK bt b2 a2 (high/bt-t) (high%bt+t*bt)) n hlast;have h4:=hge m h3;refine⟨m,by omega,h3,h2,h4,?_⟩;have h5:=h.stop (g:=high/bt-m) (by omega) (hr m) h2;have:¬ qh+1<high/bt-m:=λhlt=>by
  have hVP:0<V*P:=aJQ (by
   have:=h.V2;have:0<(bt*1000000000+b2)*K:=aJQ (by have:=h.b20; have:=h.bt0; omega) h.K0;omega) h.P0
  have:=X7 (show qh+1<=high/bt-m-1 by omega) (Int.le_of_lt hVP);omega
 omega
theorem aUN {a b:List Int} {i n:Nat} {g qh:Int} (ha:Pc a) (hb:Pc b) (hbl:b.length=n) (hl:i+n<a.length) (hz:vl a<pw (i+n+1)) (hg:0<=g/\g<1000000000) (hq0:qh*(vl b*pw i)<=vl a) (hq1:vl a<(qh+1)*(vl b*pw i)) (g0:qh<=g) (g1:g<=qh+1) :
  ((tkS b g i a (n+1)).2.1=0/\g=qh/\Pc (tkS b g i a (n+1)).1/\(tkS b g i a (n+1)).1.length=a.length/\vl (tkS b g i a (n+1)).1=vl a-qh*(vl b*pw i)) \/
  ((tkS b g i a (n+1)).2.1=1/\g=qh+1/\Pc (tkS b g i a (n+1)).1/\(tkS b g i a (n+1)).1.length=a.length/\Pc (bkS b i (tkS b g i a (n+1)).1 (n+1)).1/\(bkS b i (tkS b g i a (n+1)).1 (n+1)).1.length=a.length/\vl (bkS b i (tkS b g i a (n+1)).1 (n+1)).1=vl a-qh*(vl b*pw i)):=by
 subst hbl;have k:=tkI ha hb hg hl (b.length+1) (Nat.le_refl _);generalize tkS b g i a (b.length+1)=s at k;obtain⟨h1,h2,h3,h4,h5,h6,h7⟩:=k;have hca:=h7 (by omega);have hz1:=aV9 h1 (k:=i+b.length+1) λj hj=>by
  rw[h5 j (by omega)];exact HE ha hz hj
 rw[List.take_of_length_le (show b.length<=b.length+1 by omega),hca,Int.add_zero]at h6;have hn:=qX h1;have e1:g*pw i*vl b=g*(vl b*pw i):=by grind
 rw[e1]at h6;have hVP:0<vl b*pw i:=by
  have:(qh+1)*(vl b*pw i)=qh*(vl b*pw i)+vl b*pw i:=by grind
  omega
 have p1:pw (i+(b.length+1))=pw (i+b.length+1):=rfl;rw[p1]at h6;have pp:=JZ (i+b.length+1);rcases h3 with hb0|hb1
 ·refine .inl ⟨hb0,?_,h1,h2,?_⟩
  ·have:¬ g=qh+1:=λe=>by
    subst e;rw[hb0,Int.zero_mul]at h6;omega
   omega
  ·have:g=qh:=by
    have:¬ g=qh+1:=λe=>by
     subst e;rw[hb0,Int.zero_mul]at h6;omega
    omega
   subst this;rw[hb0,Int.zero_mul]at h6;omega
 ·have eg:g=qh+1:=by
   have:¬ g=qh:=λe=>by
    subst e;rw[hb1,Int.one_mul]at h6;omega
   omega
  refine .inr ⟨hb1,eg,h1,h2,?_⟩;have kb:=bkI h1 hb (at':=i) (by omega) (b.length+1) (Nat.le_refl _);have hz2:∀ j,i+b.length+1<=j->(bkS b i s.1 (b.length+1)).1.getD j 0=0:=λj hj=>by
   rw[kb.hi j (by omega),h5 j (by omega)];exact HE ha hz hj
  generalize bkS b i s.1 (b.length+1)=u at kb hz2;obtain⟨u1,u2,u3,u5,u6⟩:=kb;have hz3:=aV9 u1 hz2;have hn2:=qX u1;rw[List.take_of_length_le (show b.length<=b.length+1 by omega),p1]at u6;rw[hb1,Int.one_mul]at h6;have e2:(qh+1)*(vl b*pw i)=qh*(vl b*pw i)+vl b*pw i:=by grind
  have e3:pw i*vl b=vl b*pw i:=Int.mul_comm _ _;subst eg;refine⟨u1,u2.trans h2,?_⟩;rcases u3 with hc|hc
  ·rw[hc,Int.zero_mul]at u6;omega
  ·rw[hc,Int.one_mul]at u6;omega
theorem a64 {a b:List Int} {i n:Nat} (ha:Pc a) (hb:Pc b) (hbl:b.length=n+2) (htop:0<b.getD (n+1) 0) (hl:i+n+2<a.length) (hz:vl a<pw (i+n+3)) :
  Gs (vl a) (vl b) (pw i) (pw n) (a.getD (i+n) 0) (a.getD (i+n+2) 0*1000000000+a.getD (i+n+1) 0) (b.getD (n+1) 0) (b.getD n 0):=by
 have h1:=a2F ha (k:=i+n) (λj hj=>HE ha hz (by omega)) (by omega);have h2:=aVV hb (k:=n) (λj hj=>HE hb (k:=n+2) (by have:=LX hb; rw[hbl]at this; exact this) (by omega)) (by omega);have e:pw n*pw i=pw (i+n):=by rw[aCB,Int.mul_comm]
 exact⟨JZ i,JZ n,by rw[e]; exact h1.1,by rw[e]; exact h1.2,ha.get _,h2.1,h2.2,hb.get _,htop,by have:=ha.get (i+n+2); have:=ha.get (i+n+1); omega⟩
end Go.De
namespace Go.PM
open Go Go.RowKit Go.Proofs Go.De
theorem aZ0 {x:Int}(h1:0<=x)(h2:x<256):aB .u8 x=x:=by
 rw[TF];show x%256=x;exact Int.emod_eq_of_lt h1 h2
theorem aUV {x:Int}(h1:0<=x)(h2:x<18446744073709551616):IntKind.wrap .u64 x=x:=by rw[<- TF]; exact q9 h1 h2
theorem aV7 {x:Int}(h1:0<=x)(h2:x<256):IntKind.wrap .u8 x=x:=by rw[<- TF]; exact aZ0 h1 h2
theorem aJT(a:Nat):Nat.beq a a=true:=by
 induction a with
 | zero=>rfl
 | succ a ih=>exact ih
theorem O4(l:List Int)(i:Nat):dK [l] 0 i 0=l.getD i 0:=rfl
theorem QC(l:List Int)(i:Nat)(x:Int):vJ [l] 0 i x=[l.set i x]:=rfl
theorem P7(l:List Int):cS [l] 0=l.length:=rfl
theorem a7L {σ τ:Type} {step:σ->Option (σ⊕τ)} {N:Nat} {Z:τ->Prop} (I:Nat->σ->Prop) (m:Nat) (x:σ) (hN:m<N) (h0:I 0 x)
  (h:∀ i y,i<m->I i y->∃ y',step y=some (.inl y')/\I (i+1) y') (he:∀ y,I m y->∃ z,step y=some (.inr z)/\Z z):∃ z,bF step N x=some z/\Z z:=by
 suffices H:∀ k i y,i+k=m->I i y->∃ z,bF step (k+1+(N-m-1)) y=some z/\Z z by
  have:=H m 0 x (Nat.zero_add m) h0;rwa[show m+1+(N-m-1)=N by omega]at this
 intro k
 induction k with
 | zero =>
  intro i y hi hy;have hi:i=m:=by omega
  subst hi;obtain⟨z,e1,e2⟩:=he y hy;rw[show 0+1+(N-i-1)=(N-i-1)+1 by omega,fS,e1];exact⟨z,rfl,e2⟩
 | succ k ih =>
  intro i y hi hy;obtain⟨y',e1,e2⟩:=h i y (by omega) hy;rw[show k+1+1+(N-m-1)=(k+1+(N-m-1))+1 by omega,fS,e1];exact ih (i+1) y' (by omega) e2
theorem aX3 {l:List Int} (hl:l.length<9223372036854775807) (A:List (List Int)):∀ (n:Nat),l.length<=n->∀ k,bF iE (n+1+k) (l,A,())=some (zZ l,A,()):=by
 intro n
 induction n generalizing l with
 | zero =>
  intro h k;have:l=[]:=List.eq_nil_of_length_eq_zero (by omega);subst this;rw[show 0+1+k=k+1 by omega,fS];rfl
 | succ n ih =>
  intro h k;rw[show n+1+1+k=(n+1+k)+1 by omega,fS];rcases List.eq_nil_or_concat l with rfl|⟨a,x,rfl⟩
  ·rfl
  ·rw[List.concat_eq_append]at hl h ⊢;have hlen:(a++[x]).length=a.length+1:=by simp
   rw[hlen]at hl h;have e1:ltI 0 ((a.length+1:Nat):Int)=true:=by rw[aE]; exact oT (by omega)
   have e2:aB .i64 (((a.length+1:Nat):Int)-1)=(a.length:Int):=by rw[wrap64 (by omega) (by omega)]; omega
   have e3:aF (a.length:Int) (a.length+1)=true:=by rw[aM]; exact oT (by omega)
   have e4:Nat.blt a.length (a.length+1)=true:=by rw[cD]; exact oT (by omega)
   have e5:(a++[x]).getD a.length 0=x:=by simp[oQ]
   have e6:ltI (a.length:Int) 0=false:=by rw[aE]; exact oF (by omega)
   have e7:Nat.ble 0 a.length=true:=rfl;have e8:Nat.ble a.length (a.length+1)=true:=by rw[dN]; exact oT (by omega)
   have e9:Nat.blt 0 (a.length+1)=true:=by rw[cD]; exact oT (by omega)
   have e10:(a++[x]).take a.length=a:=by simp
   simp only[iE,hlen,e1,e2,oN,e3,e4,e5,e6,e7,e8,e9,oC,Nat.sub_zero,e10,fP,Bool.not_false]
   by_cases hx:x=0
   ·subst hx;simp only[decide_true,oC];rw[WQ];exact ih (by omega) (by omega) k
   ·simp only[hx,decide_false,oD];rw[aCD a hx]
theorem VP {l:List Int}(hl:l.length<=4000000)(A:List (List Int)):aX l () A=some (zZ l,A):=by
 have h:=aX3 (l:=l) (by omega) A l.length (oM _) (2^64-l.length-1);rw[show l.length+1+(2^64-l.length-1)=2^64 by omega]at h;unfold aX;show (aC (bF iE (2^64) (l,A,())) _)=_;rw[h,aD]
theorem aYO {n:Int}:qP ([n],())=some (zZ [n],()):=by
 have h0:∀ k,bF kV (k+1) (([]:List Int),())=some ([],()):=λk=>rfl
 have h1:kV ([n],())=if n=0 then some (.inl ([],())) else some (.inr ([n],())):=by
  show (bif eqI n 0 then _ else _)=_;rw[fP,aEK];rfl
 unfold qP;show (aC (bF kV (2^64) ([n],())) _)=_;rw[show (2:Nat)^64=18446744073709551614+1+1 by rfl,fS,h1]
 by_cases h:n=0
 ·subst h;rw[if_pos rfl];show (aC (bF kV (18446744073709551614+1) ([],())) _)=_;rw[h0];rfl
 ·rw[if_neg h];have:=aCD [] h;show some ([n],())=some (zZ [n],());rw[show [n]=[]++[n] from rfl,this]
theorem aVQ {x:Int} (h:0<=x):x.tmod 1000000000=x%1000000000:=Int.tmod_eq_emod_of_nonneg h
theorem aWQ {x:Int}(h:0<=x):x.tdiv 1000000000=x/1000000000:=Int.tdiv_eq_ediv_of_nonneg h
theorem aVT {p q:List Int}{n:Int}{at':Nat}(hp:Pc p)(hq:Pc q)(hn:0<=n/\n<1000000000)(hl:at'+q.length<p.length)(hpl:p.length<=4000000) :
  YS (t:=.int .u64) (rets:=[.bool]) dL p (q,n,(at':Int),())=some ((decide (0<(tkS q n at' p (q.length+1)).2.1),()),(tkS q n at' p (q.length+1)).1):=by
 have key:=aU (step:=eI) (N:=2^64) (λt=>((0,0,p.length),q,n,(at':Int),(tkS q n at' p t).2.1,(tkS q n at' p t).2.2,(t:Int),[(tkS q n at' p t).1],())) (q.length+1)
  ((tkS q n at' p (q.length+1)).2.1,[(tkS q n at' p (q.length+1)).1],()) (by omega) (λt ht=>?_) ?_
 ·have key:bF eI (2^64) ((0,0,p.length),q,n,(at':Int),0,0,0,[p],())=_:=key;have hlen:=(tkI hp hq hn hl (q.length+1) (oM _)).len;unfold YS dL;simp only[n9,key,aD,hlen,aJT,oC,aE]
 ·have hI:=tkI hp hq hn hl t (by omega);rw[tkS];generalize tkS q n at' p t=s at hI;obtain⟨l,bo,ca⟩:=s;obtain⟨h1,h2,h3,h4,h5,h6,h7⟩:=hI;dsimp only at h1 h2 h3 h4 h5 h6 h7 ⊢;have hx:=h1.get (at'+t);have hqt:=hq.get t;have hm:=KQ hn hqt;have e1:ltI (q.length:Int) (t:Int)=false:=by rw[aE]; exact oF (by omega)
  have e2:aB .i64 ((at':Int)+(t:Int))=((at'+t:Nat):Int):=by rw[wrap64 (by omega) (by omega)]; omega
  have e3:aF ((at'+t:Nat):Int) p.length=true:=by rw[aM]; exact oT (by omega)
  have e4:Nat.blt (at'+t) l.length=true:=by rw[cD]; exact oT (by omega)
  have e5:(0+(at'+t))*1=at'+t:=by omega
  have e6:=bX t (by omega);have main:∀ c:Int,0<=c->c<1000000000000000000 ->
    (bif ltI (aB .i64 (aB .i64 (IntKind.wrap .i64 (l.getD (at'+t) 0)-IntKind.wrap .i64 (c.tmod 1000000000))-bo)) 0 then
     (some (Sum.inl ((0,0,p.length),q,n,(at':Int),1,aB .u64 (c.tdiv 1000000000),((t+1:Nat):Int),[l.set (at'+t) (IntKind.wrap .u64 (aB .i64 (aB .i64 (aB .i64 (IntKind.wrap .i64 (l.getD (at'+t) 0)-IntKind.wrap .i64 (c.tmod 1000000000))-bo)+1000000000)))],())):Option (Shape.den fH⊕qI iR))
    else some (Sum.inl ((0,0,p.length),q,n,(at':Int),0,aB .u64 (c.tdiv 1000000000),((t+1:Nat):Int),[l.set (at'+t) (IntKind.wrap .u64 (aB .i64 (aB .i64 (IntKind.wrap .i64 (l.getD (at'+t) 0)-IntKind.wrap .i64 (c.tmod 1000000000))-bo)))],()))) =
    some (Sum.inl ((0,0,p.length),q,n,(at':Int),(if l.getD (at'+t) 0-c%1000000000-bo<0 then 1 else 0),c/1000000000,((t+1:Nat):Int),[l.set (at'+t) (if l.getD (at'+t) 0-c%1000000000-bo<0 then l.getD (at'+t) 0-c%1000000000-bo+1000000000 else l.getD (at'+t) 0-c%1000000000-bo)],())):=by
   intro c c0 c1;have hd1:0<=c%1000000000/\c%1000000000<1000000000:=by omega
   have hd2:0<=c/1000000000/\c/1000000000<1000000000:=by omega
   rw[aVQ c0,aWQ c0];generalize c%1000000000=cr at *;generalize c/1000000000=cq at *;rw[UU (x:=l.getD (at'+t) 0) (by omega) (by omega),UU (x:=cr) (by omega) (by omega),wrap64 (x:=l.getD (at'+t) 0-cr) (by omega) (by omega),wrap64 (x:=l.getD (at'+t) 0-cr-bo) (by omega) (by omega),q9 (x:=cq) (by omega) (by omega),aE,aEK]
   by_cases h:l.getD (at'+t) 0-cr-bo<0
   ·rw[if_pos h,if_pos h,if_pos h,wrap64 (by omega) (by omega),aUV (by omega) (by omega)]
   ·rw[if_neg h,if_neg h,if_neg h,aUV (by omega) (by omega)]
  by_cases hqt':t<q.length
  ·have e7:ltI (t:Int) (q.length:Int)=true:=by rw[aE]; exact oT (by omega)
   have e8:aF (t:Int) q.length=true:=by rw[aM]; exact oT (by omega)
   have e9:aB .u64 (ca+aB .u64 (n*q.getD t 0))=ca+n*q.getD t 0:=by rw[q9 (x:=n*q.getD t 0) (by omega) (by omega),q9 (by omega) (by omega)]
   rw[if_pos hqt',<- main (ca+n*q.getD t 0) (by omega) (by omega)];simp only[eI,e1,e2,e3,e4,e5,e6,e7,e8,e9,oC,Bool.not_false,oN,O4,QC,P7]
  ·have e7:ltI (t:Int) (q.length:Int)=false:=by rw[aE]; exact oF (by omega)
   rw[if_neg hqt',<- main ca (by omega) (by omega)];simp only[eI,e1,e2,e3,e4,e5,e6,e7,oC,oD,Bool.not_false,oN,O4,QC,P7]
 ·have e1:ltI (q.length:Int) ((q.length+1:Nat):Int)=true:=by rw[aE]; exact oT (by omega)
  simp only[eI,e1,Bool.not_true,oD]
theorem back_eq {p q:List Int} {at':Nat} (hp:Pc p) (hq:Pc q) (hl:at'+q.length<p.length) (hpl:p.length<=4000000) :
  SY (t:=.int .u64) cH p (q,(at':Int),())=some (bkS q at' p (q.length+1)).1:=by
 have key:=aU (step:=eK) (N:=2^64) (λt=>((0,0,p.length),q,(at':Int),(bkS q at' p t).2,(t:Int),[(bkS q at' p t).1],())) (q.length+1)
  ([(bkS q at' p (q.length+1)).1],()) (by omega) (λt ht=>?_) ?_
 ·have key:bF eK (2^64) ((0,0,p.length),q,(at':Int),0,0,[p],())=_:=key;have hlen:=(bkI hp hq hl (q.length+1) (oM _)).len;unfold SY cH;simp only[o3,key,aD,hlen,aJT,oC]
 ·have hI:=bkI hp hq hl t (by omega);rw[bkS];generalize bkS q at' p t=s at hI;obtain⟨l,ca⟩:=s;obtain⟨h1,h2,h3,h5,h6⟩:=hI;dsimp only at h1 h2 h3 h5 h6 ⊢;have hx:=h1.get (at'+t);have hqt:=hq.get t;have e1:ltI (q.length:Int) (t:Int)=false:=by rw[aE]; exact oF (by omega)
  have e2:aB .i64 ((at':Int)+(t:Int))=((at'+t:Nat):Int):=by rw[wrap64 (by omega) (by omega)]; omega
  have e3:aF ((at'+t:Nat):Int) p.length=true:=by rw[aM]; exact oT (by omega)
  have e4:Nat.blt (at'+t) l.length=true:=by rw[cD]; exact oT (by omega)
  have e5:(0+(at'+t))*1=at'+t:=by omega
  have e6:=bX t (by omega);have e10:aB .u64 (ca+l.getD (at'+t) 0)=ca+l.getD (at'+t) 0:=q9 (by omega) (by omega)
  by_cases hqt':t<q.length
  ·have e7:ltI (t:Int) (q.length:Int)=true:=by rw[aE]; exact oT (by omega)
   have e8:aF (t:Int) q.length=true:=by rw[aM]; exact oT (by omega)
   have e9:aB .u64 (ca+l.getD (at'+t) 0+q.getD t 0)=ca+l.getD (at'+t) 0+q.getD t 0:=q9 (by omega) (by omega);have e11:aB .u64 ((ca+l.getD (at'+t) 0+q.getD t 0)/1000000000)=(ca+l.getD (at'+t) 0+q.getD t 0)/1000000000:=q9 (by omega) (by omega);rw[if_pos hqt'];simp only[eK,e1,e2,e3,e4,e5,e6,e7,e8,e9,e10,oC,Bool.not_false,oN,O4,QC,P7,aWQ (show 0<=ca+l.getD (at'+t) 0+q.getD t 0 by omega),aVQ (show 0<=ca+l.getD (at'+t) 0+q.getD t 0 by omega),e11]
  ·have e7:ltI (t:Int) (q.length:Int)=false:=by rw[aE]; exact oF (by omega)
   have e11:aB .u64 ((ca+l.getD (at'+t) 0)/1000000000)=(ca+l.getD (at'+t) 0)/1000000000:=q9 (by omega) (by omega);rw[if_neg hqt'];simp only[eK,e1,e2,e3,e4,e5,e6,e7,e10,oC,oD,Bool.not_false,oN,O4,QC,P7,aWQ (show 0<=ca+l.getD (at'+t) 0 by omega),aVQ (show 0<=ca+l.getD (at'+t) 0 by omega),e11]
 ·have e1:ltI (q.length:Int) ((q.length+1:Nat):Int)=true:=by rw[aE]; exact oT (by omega)
  simp only[eK,e1,Bool.not_true,oD]
theorem a01 {q o:List Int}{a:Int}{i:Nat}(ho:Pc o)(hq:Pc q)(ha:0<=a/\a<1000000000)(hl:i+q.length<=o.length)(hol:o.length<=4000000)(v17:List Int)(v18 v19:Int)(A:List (List Int)) :
  l4 (q,o,(i:Int),a,0,v17,v18,v19,q,(q.length:Int),0,A,())=some (q,(tmI q a i o q.length).1,(i:Int),(tmI q a i o q.length).2,v17,v18,v19,A,()):=by
 refine aU (step:=iK) (N:=2^64) (λt=>(q,(tmI q a i o t).1,(i:Int),a,(tmI q a i o t).2,v17,v18,v19,q,(q.length:Int),(t:Int),A,())) q.length _ (by omega) (λt ht=>?_) ?_
 ·have hI:=aNO ho hq ha hl t (by omega);rw[tmI];generalize tmI q a i o t=s at hI;obtain⟨l,ca⟩:=s;obtain⟨h1,h2,h3,h5,h6⟩:=hI;dsimp only at h1 h2 h3 h5 h6 ⊢;have hx:=h1.get (i+t);have hm:=KQ ha (hq.get t);have e1:ltI (t:Int) (q.length:Int)=true:=by rw[aE]; exact oT (by omega)
  have e2:aB .i64 ((i:Int)+(t:Int))=((i+t:Nat):Int):=by rw[wrap64 (by omega) (by omega)]; omega
  have e3:aF ((i+t:Nat):Int) l.length=true:=by rw[aM]; exact oT (by omega)
  have e4:Nat.blt (i+t) l.length=true:=by rw[cD]; exact oT (by omega)
  have e5:aF (t:Int) q.length=true:=by rw[aM]; exact oT (by omega)
  have e6:=bX t (by omega);have e7:aB .u64 (a*q.getD t 0)=a*q.getD t 0:=q9 (by omega) (by omega);have e8:aB .u64 (l.getD (i+t) 0+a*q.getD t 0)=l.getD (i+t) 0+a*q.getD t 0:=q9 (by omega) (by omega);have e9:aB .u64 (ca+(l.getD (i+t) 0+a*q.getD t 0))=ca+(l.getD (i+t) 0+a*q.getD t 0):=q9 (by omega) (by omega);have e10:aB .u64 ((ca+(l.getD (i+t) 0+a*q.getD t 0))/1000000000)=(ca+(l.getD (i+t) 0+a*q.getD t 0))/1000000000:=q9 (by omega) (by omega)
  simp only[iK,e1,e2,e3,e4,e5,e6,e7,e8,e9,oC,oN,aWQ (show 0<=ca+(l.getD (i+t) 0+a*q.getD t 0)by omega),aVQ (show 0<=ca+(l.getD (i+t) 0+a*q.getD t 0)by omega),e10]
 ·have e1:ltI (q.length:Int) (q.length:Int)=false:=by rw[aE]; exact oF (by omega)
  simp only[iK,e1,oD]
theorem aR2(a b:Nat)(hl:(pcs a).length+(pcs b).length<=1048576)(A:List (List Int)):dO () (pcs a,pcs b,()) A=some (pcs (a*b),A):=by
 obtain⟨a1,a2,a3⟩:=gW a;obtain⟨b1,b2,b3⟩:=gW b;have htm:=aXT a b;generalize pcs a=p at *;generalize pcs b=q at *;have key:=aU (step:=iG) (N:=2^64) (λt=>(q,tmO p q (List.replicate (p.length+q.length) 0) t,p,(p.length:Int),(t:Int),A,())) p.length
  (tmO p q (List.replicate (p.length+q.length) 0) p.length,A,()) (by omega) (λt ht=>?_) ?_
 ·have key:l7 (q,List.replicate (p.length+q.length) 0,p,(p.length:Int),0,A,())=_:=key;have e2:aB .i64 ((p.length:Int)+(q.length:Int))=((p.length+q.length:Nat):Int):=by rw[wrap64 (by omega) (by omega)]; omega
  have e3:ltI ((p.length+q.length:Nat):Int) 0=false:=by rw[aE]; exact oF (by omega)
  have e4:ltI ((p.length+q.length:Nat):Int) ((p.length+q.length:Nat):Int)=false:=by rw[aE]; exact oF (by omega)
  have e5:ltI 1048576 ((p.length+q.length:Nat):Int)=false:=by rw[aE]; exact oF (by omega)
  have hlen:=(aOT a1 b1 p.length (oM _)).2.1;unfold dO;simp only[e2,e3,e4,e5,Bool.not_false,oC,oN,key,aD,VP (show (tmO p q (List.replicate (p.length+q.length) 0) p.length).length<=4000000 by omega),htm]
 ·obtain⟨h1,h2,h3,h4⟩:=aOT a1 b1 t (by omega);have hi:=a01 (q:=q) (o:=tmO p q (List.replicate (p.length+q.length) 0) t) (a:=p.getD t 0) (i:=t) h1 b1 (a1.get t) (by omega) (by omega) p (p.length:Int) (t:Int) A;have hI:=(aNO h1 b1 (a1.get t) (i:=t) (by omega) q.length (oM _)).len;rw[tmO];generalize tmO p q (List.replicate (p.length+q.length) 0) t=o at *;have e1:ltI (t:Int) (p.length:Int)=true:=by rw[aE]; exact oT (by omega)
  have e2:aF (t:Int) p.length=true:=by rw[aM]; exact oT (by omega)
  have e3:aB .i64 ((t:Int)+(q.length:Int))=((t+q.length:Nat):Int):=by rw[wrap64 (by omega) (by omega)]; omega
  have e4:aF ((t+q.length:Nat):Int) (tmI q (p.getD t 0) t o q.length).1.length=true:=by rw[aM]; exact oT (by omega)
  have e5:Nat.blt (t+q.length) (tmI q (p.getD t 0) t o q.length).1.length=true:=by rw[cD]; exact oT (by omega)
  have e6:=bX t (by omega);simp only[iG,e1,e2,oC,oN,hi,aD,e3,e4,e5,e6]
 ·have e1:ltI (p.length:Int) (p.length:Int)=false:=by rw[aE]; exact oF (by omega)
  simp only[iG,e1,oD]
theorem aRY {n:Nat}(h:n<1000000000):zZ [(n:Int)]=pcs n:=HA (λx hx=>by rw[List.mem_singleton.1 hx]; omega) (by simp[vl])
theorem aXP {n:Nat}(h:n<1000000000):(pcs n).length<=1:=VW (by simpa using h)
theorem aMP(a:Nat){n:Nat}(hn:n<1000000000)(hl:(pcs a).length+1<=1048576)(A:List (List Int)):eC () (pcs a,(n:Int),()) A=some (pcs (a*n),A):=by
 have:=aXP hn;unfold eC;show (aC (qP ([(n:Int)],())) _)=_;rw[aYO,aD,aRY hn];show (aC (dO () (pcs a,pcs n,()) A) _)=_;rw[aR2 a n (by omega),aD]
theorem aSR(a:Nat){n:Nat}(hn:0<n/\n<1000000000)(hl:(pcs a).length<=1048576)(A:List (List Int)):dV () (pcs a,(n:Int),()) A=some ((pcs (a/n),((a%n:Nat):Int),()),A):=by
 obtain⟨a1,a2,a3⟩:=gW a;obtain⟨s1,s2⟩:=aXY a hn;generalize pcs a=p at *;have hn':0<(n:Int)/\(n:Int)<1000000000:=by omega
 have key:=aU (step:=jD) (N:=2^64) (λt=>(p,(n:Int),(smS p n t).1,(smS p n t).2,(p.length:Int)-1-(t:Int),A,())) p.length
  ((smS p n p.length).1,(smS p n p.length).2,A,()) (by omega) (λt ht=>?_) ?_
 ·rw[show (p.length:Int)-1-((0:Nat):Int)=(p.length:Int)-1 by omega]at key;have key:mW (p,(n:Int),List.replicate p.length 0,0,(p.length:Int)-1,A,())=_:=key;have e2:aB .i64 ((p.length:Int)-1)=(p.length:Int)-1:=wrap64 (by omega) (by omega);have e3:ltI (p.length:Int) 0=false:=by rw[aE]; exact oF (by omega)
  have e4:ltI (p.length:Int) (p.length:Int)=false:=by rw[aE]; exact oF (by omega)
  have e5:ltI 1048576 (p.length:Int)=false:=by rw[aE]; exact oF (by omega)
  have hlen:=(smI a1 hn' p.length (oM _)).len;unfold dV;simp only[e2,e3,e4,e5,Bool.not_false,oC,oN,key,aD,VP (show (smS p n p.length).1.length<=4000000 by omega),s1,s2]
 ·have hI:=smI a1 hn' t (by omega);rw[smS];generalize smS p n t=s at hI;obtain⟨l,r⟩:=s;obtain⟨h1,h2,h3,h4,h5⟩:=hI;dsimp only at h1 h2 h3 h4 h5 ⊢;obtain⟨i,hi⟩:∃ i,p.length-1-t=i:=⟨_,rfl⟩;have ei:(p.length:Int)-1-(t:Int)=(i:Int):=by omega
  have ei':(p.length:Int)-1-((t+1:Nat):Int)=(i:Int)-1:=by omega
  rw[hi,ei,ei'];have hx:=a1.get i;have e1:ltI (i:Int) 0=false:=by rw[aE]; exact oF (by omega)
  have e2:aF (i:Int) p.length=true:=by rw[aM]; exact oT (by omega)
  have e3:eqI (n:Int) 0=false:=by rw[fP]; exact oF (by omega)
  have e4:aF (i:Int) l.length=true:=by rw[aM]; exact oT (by omega)
  have e5:Nat.blt i l.length=true:=by rw[cD]; exact oT (by omega)
  have e6:aB .i64 ((i:Int)-1)=(i:Int)-1:=wrap64 (by omega) (by omega);have e7:aB .u64 (r*1000000000)=r*1000000000:=q9 (by omega) (by omega);have e8:aB .u64 (r*1000000000+p.getD i 0)=r*1000000000+p.getD i 0:=q9 (by omega) (by omega);have e9:(r*1000000000+p.getD i 0).tdiv n=(r*1000000000+p.getD i 0)/n:=Int.tdiv_eq_ediv_of_nonneg (by omega);have e10:(r*1000000000+p.getD i 0).tmod n=(r*1000000000+p.getD i 0)%n:=Int.tmod_eq_emod_of_nonneg (by omega)
  have q0:0<=(r*1000000000+p.getD i 0)/n:=Int.ediv_nonneg (by omega) (by omega);have q1:(r*1000000000+p.getD i 0)/n<=r*1000000000+p.getD i 0:=Int.ediv_le_self _ (by omega);have e11:aB .u64 ((r*1000000000+p.getD i 0)/n)=(r*1000000000+p.getD i 0)/n:=q9 q0 (by omega);simp only[jD,e1,e2,e3,e4,e5,e6,e7,e8,e9,e10,e11,oC,oD,Bool.not_false,oN]
 ·have e1:ltI ((p.length:Int)-1-(p.length:Int)) 0=true:=by rw[aE]; exact oT (by omega)
  simp only[jD,e1,Bool.not_true,oD]
theorem aRO {p q:List Int} (hp:Pc p) (hq:Pc q) {i:Nat} (hl:p.length=q.length) (hi:i<p.length) (he:p.drop (i+1)=q.drop (i+1)) (hlt:p.getD i 0<q.getD i 0):vl p<vl q:=by
 have e1:=K9 p (i+1) (by omega);have e2:=K9 q (i+1) (by omega);have e3:=D9 p i hi;have e4:=D9 q i (by omega);have n1:=LX (hp.aAR i);have n2:=qX (hq.aAR i);rw[List.length_take,Nat.min_eq_left (by omega)]at n1;have hm:(p.getD i 0+1)*pw i<=q.getD i 0*pw i:=Int.mul_le_mul_of_nonneg_right (by omega) (Int.le_of_lt (JZ i));rw[Int.add_mul,Int.one_mul]at hm;rw[he]at e1;omega
theorem aZ6 {p q:List Int}(hp:Pc p)(hq:Pc q)(hl:p.length=q.length)(hpl:p.length<=4000000):∀ (n:Nat),n<=p.length->p.drop n=q.drop n->∀ k,
  bF mY (n+1+k) (p,q,(n:Int)-1,())=some (if vl p<vl q then .inl (-1,()) else if vl q<vl p then .inl (1,()) else .inr ()):=by
 intro n
 induction n with
 | zero =>
  intro _ he k;have hpq:p=q:=he;subst hpq;rw[show 0+1+k=k+1 by omega,fS,if_neg (Int.lt_irrefl _),if_neg (Int.lt_irrefl _)];rfl
 | succ n ih =>
  intro h he k;rw[show n+1+1+k=(n+1+k)+1 by omega,fS];have e0:((n+1:Nat):Int)-1=(n:Int):=by omega
  rw[e0];have e1:ltI (n:Int) 0=false:=by rw[aE]; exact oF (by omega)
  have e2:aF (n:Int) p.length=true:=by rw[aM]; exact oT (by omega)
  have e3:aF (n:Int) q.length=true:=by rw[aM]; exact oT (by omega)
  have e4:aB .i64 ((n:Int)-1)=(n:Int)-1:=wrap64 (by omega) (by omega);simp only[mY,e1,e2,e3,e4,oC,Bool.not_false,oN,aE,aEK]
  by_cases h1:p.getD n 0<q.getD n 0
  ·have:=aRO hp hq hl (by omega) he h1;rw[if_pos h1,if_pos this]
  ·rw[if_neg h1]
   by_cases h2:q.getD n 0<p.getD n 0
   ·have:=aRO hq hp hl.symm (by omega) he.symm h2;rw[if_pos h2,if_neg (by omega),if_pos this]
   ·rw[if_neg h2];refine ih (by omega) ?_ k;have hg:p.getD n 0=q.getD n 0:=by omega
    rw[oQ,List.getElem?_eq_getElem (show n<p.length by omega),oQ,List.getElem?_eq_getElem (show n<q.length by omega)]at hg;rw[List.drop_eq_getElem_cons (show n<p.length by omega),List.drop_eq_getElem_cons (show n<q.length by omega),he];have hg:p[n]=q[n]:=hg;rw[hg]
theorem aTD(a b:Nat)(ha:(pcs a).length<=1048576)(hb:(pcs b).length<=1048576):r9 (pcs a,pcs b,())=some (if a<b then -1 else if b<a then 1 else 0,()):=by
 obtain⟨a1,a2,a3⟩:=gW a;obtain⟨b1,b2,b3⟩:=gW b;have len:∀ {x y:Nat},(pcs x).length<(pcs y).length->x<y:=λ{x y} h=>by
  rcases oG x y with h1|h1
  ·exact h1
  ·have h2:(pcs y).length<=(pcs x).length:=by
    obtain⟨x1,x2,x3⟩:=gW x;have:=LX x1;rw[x3]at this;refine VW (k:=(pcs x).length) ?_;have e:((1000000000^(pcs x).length:Nat):Int)=pw (pcs x).length:=by unfold pw; rw[Int.natCast_pow]; rfl
    omega
   omega
 unfold r9;dsimp only;rw[fP]
 by_cases hl:((pcs a).length:Int)=(pcs b).length
 ·have hl':(pcs a).length=(pcs b).length:=by omega
  have h:=aZ6 a1 b1 hl' (by omega) (pcs a).length (oM _) (by rw[List.drop_of_length_le (oM _),List.drop_of_length_le (by omega)]) (2^64-(pcs a).length-1);rw[show (pcs a).length+1+(2^64-(pcs a).length-1)=2^64 by omega,a3,b3]at h;have e2:aB .i64 (((pcs a).length:Int)-1)=((pcs a).length:Int)-1:=wrap64 (by omega) (by omega);rw[oT hl,e2];show (aC (bF mY (2^64) (pcs a,pcs b,((pcs a).length:Int)-1,())) _)=_
  rw[h,aD]
  by_cases h1:a<b
  ·rw[if_pos (show ((a:Nat):Int)<b by omega),if_pos h1]; rfl
  ·rw[if_neg (show ¬ ((a:Nat):Int)<b by omega),if_neg h1]
   by_cases h2:b<a
   ·rw[if_pos (show ((b:Nat):Int)<a by omega),if_pos h2]; rfl
   ·rw[if_neg (show ¬ ((b:Nat):Int)<a by omega),if_neg h2]; rfl
 ·have e2:aB .i64 (((pcs a).length:Int)-((pcs b).length:Int))=((pcs a).length:Int)-((pcs b).length:Int):=wrap64 (by omega) (by omega);rw[oF hl,e2];rcases Nat.lt_or_gt_of_ne (show (pcs a).length≠(pcs b).length by omega)with h|h
  ·have:=len h;rw[if_pos this];show some ((if (if (-1:Int)<((pcs a).length:Int)-((pcs b).length:Int) then ((pcs a).length:Int)-((pcs b).length:Int) else -1)<1 then (if (-1:Int)<((pcs a).length:Int)-((pcs b).length:Int) then ((pcs a).length:Int)-((pcs b).length:Int) else -1) else 1),())=_;rw[if_neg (show ¬ (-1:Int)<((pcs a).length:Int)-((pcs b).length:Int)by omega),if_pos (by decide)]
  ·have:=len h;have e3:(if a<b then (-1:Int) else if b<a then 1 else 0)=1:=by rw[if_neg (by omega),if_pos this]
   rw[e3];show some ((if (if (-1:Int)<((pcs a).length:Int)-((pcs b).length:Int) then ((pcs a).length:Int)-((pcs b).length:Int) else -1)<1 then (if (-1:Int)<((pcs a).length:Int)-((pcs b).length:Int) then ((pcs a).length:Int)-((pcs b).length:Int) else -1) else 1),())=_;rw[if_pos (show (-1:Int)<((pcs a).length:Int)-((pcs b).length:Int)by omega),if_neg (by omega)]
theorem aZN(u m j:Nat):10*(u/10^(m+1)%10^j)+u/10^m%10=u/10^m%10^(j+1):=by
 have e:u/10^(m+1)=u/10^m/10:=by rw[Nat.pow_succ,Nat.div_div_eq_div_mul]
 rw[e,Nat.pow_succ,Nat.mul_comm (10^j) 10,Nat.mod_mul];omega
theorem a5H(u t:Nat):((Lib.dg u t).toNat:Int)=48+((u/10^t%10:Nat):Int):=by
 have h:u/10^t%10<10:=Nat.mod_lt _ (by decide);unfold Lib.dg;rw[UInt8.toNat_ofNat'];omega
theorem aXX(u lo hi:Nat)(h1:lo<=hi)(h2:hi<=Lib.nDigits u):R1 ((Dn u).extract lo hi)=(List.range (hi-lo)).map λj=>48+((u/10^(Lib.nDigits u-1-(lo+j))%10:Nat):Int):=by
 have e:((Dn u).extract lo hi).data.toList=((Lib.decDigits u).drop lo).take (hi-lo):=by rw[ByteArray.data_extract,Array.toList_extract,List.extract_eq_take_drop,AU]
 unfold R1;rw[e,Lib.decDigits_eq];refine List.ext_getElem (by simp; omega) λi h3 h4=>?_
 simp only[List.length_map,List.length_range]at h4;simp only[List.getElem_map,List.getElem_take,List.getElem_drop,List.getElem_range];exact a5H u _
theorem aYX(u:Nat){lo hi:Nat}(h1:lo<=hi)(h2:hi<=Lib.nDigits u)(h9:hi-lo<=9)(v0:ByteArray)(v3:List Int)(v4:Int)(A:List (List Int)) :
  wG (v0,v3,v4,0,R1 ((Dn u).extract lo hi),((R1 ((Dn u).extract lo hi)).length:Int),0,A,())=some (v0,v3,v4,((u/10^(Lib.nDigits u-hi)%10^(hi-lo):Nat):Int),A,()):=by
 rw[aXX u lo hi h1 h2];have hlen:((List.range (hi-lo)).map λj=>48+((u/10^(Lib.nDigits u-1-(lo+j))%10:Nat):Int)).length=hi-lo:=by simp
 rw[hlen];have key:=aU (step:=rY) (N:=2^64) (λt=>(v0,v3,v4,((u/10^(Lib.nDigits u-lo-t)%10^t:Nat):Int),((List.range (hi-lo)).map λj=>48+((u/10^(Lib.nDigits u-1-(lo+j))%10:Nat):Int)),((hi-lo:Nat):Int),(t:Int),A,())) (hi-lo)
  (v0,v3,v4,((u/10^(Lib.nDigits u-hi)%10^(hi-lo):Nat):Int),A,()) (by omega) (λt ht=>?_) ?_
 ·have e0:((u/10^(Lib.nDigits u-lo-0)%10^0:Nat):Int)=0:=by simp[Nat.mod_one]
  rw[e0]at key;exact key
 ·have e1:ltI (t:Int) ((hi-lo:Nat):Int)=true:=by rw[aE]; exact oT (by omega)
  have e2:aF (t:Int) (hi-lo)=true:=by rw[aM]; exact oT (by omega)
  have e3:((List.range (hi-lo)).map λj=>48+((u/10^(Lib.nDigits u-1-(lo+j))%10:Nat):Int)).getD t 0=48+((u/10^(Lib.nDigits u-1-(lo+t))%10:Nat):Int):=by simp[oQ,List.getElem?_map,List.getElem?_range ht]
  obtain⟨m,hm⟩:∃ m,Lib.nDigits u-1-(lo+t)=m:=⟨_,rfl⟩;have hm1:Lib.nDigits u-lo-t=m+1:=by omega
  have hm2:Lib.nDigits u-lo-(t+1)=m:=by omega
  rw[hm]at e3;rw[hm1,hm2,<- aZN u m t];have hd:u/10^m%10<10:=Nat.mod_lt _ (by decide);have ha:u/10^(m+1)%10^t<10^9:=by
   have h3:u/10^(m+1)%10^t<10^t:=Nat.mod_lt _ (Nat.pow_pos (by decide));have h4:10^t<=10^9:=Nat.pow_le_pow_right (by decide) (by omega);omega
  have h109:(10:Nat)^9=1000000000:=by decide
  rw[h109]at ha;generalize u/10^m%10=d at *;generalize u/10^(m+1)%10^t=a at *;have e4:aB .u8 (48+(d:Int)-48)=(d:Int):=by rw[aZ0 (by omega) (by omega)]; omega
  have e5:IntKind.wrap .u64 (d:Int)=(d:Int):=aUV (by omega) (by omega);have e6:aB .u64 (10*(a:Int))=10*(a:Int):=q9 (by omega) (by omega);have e7:aB .u64 (10*(a:Int)+(d:Int))=((10*a+d:Nat):Int):=by rw[q9 (by omega) (by omega)]; omega
  have e8:=bX t (by omega);simp only[rY,e1,e2,e3,e4,e5,e6,e7,e8,hlen,oC,oN]
 ·have e1:ltI ((hi-lo:Nat):Int) ((hi-lo:Nat):Int)=false:=by rw[aE]; exact oF (by omega)
  have e2:Lib.nDigits u-lo-(hi-lo)=Lib.nDigits u-hi:=by omega
  simp only[rY,e1,e2,oD]
theorem a4F(t:Nat):(10:Nat)^(9*t)=1000000000^t:=by rw[Nat.pow_mul]
theorem aL1(u:Nat):∀ t,vl ((List.range t).map λj=>((u/1000000000^j%1000000000:Nat):Int))=((u%1000000000^t:Nat):Int)
 | 0=>by simp[vl,Nat.mod_one]
 | t+1=>by
  rw[List.range_succ,List.map_append,GX,aL1 u t,List.length_map,List.length_range,Nat.pow_succ,Nat.mod_mul];have e:pw t=((1000000000^t:Nat):Int):=by unfold pw; rw[Int.natCast_pow]; rfl
  rw[e];simp only[List.map_cons,List.map_nil,vl,Int.mul_zero,Int.add_zero];rw[Int.natCast_add,Int.natCast_mul]
theorem YT(u:Nat)(hu:Lib.nDigits u<=1000000)(A:List (List Int)):eA () (Dn u,()) A=some (pcs u,A):=by
 have hsz:=EK u;have hpos:=Lib.nDigits_pos u;generalize hnd:Lib.nDigits u=nd at *;obtain⟨T,hT⟩:∃ T,T=(nd+8)/9:=⟨_,rfl⟩;have key:=aU (step:=rX) (N:=2^64) (λt=>(Dn u,((List.range t).map λj=>((u/1000000000^j%1000000000:Nat):Int)),(nd:Int)-9*(t:Int),A,())) T
  ((List.range T).map λj=>((u/1000000000^j%1000000000:Nat):Int),A,()) (by omega) (λt ht=>?_) ?_
 ·have key:wT (Dn u,List.replicate 0 0,(nd:Int),A,())=some ((List.range T).map (λj=>((u/1000000000^j%1000000000:Nat):Int)),A,()):=by
   rw[show (nd:Int)-9*((0:Nat):Int)=(nd:Int)by omega]at key;exact key
  have e1:((nd:Nat):Int).tdiv 9=((nd/9:Nat):Int):=rfl;have e2:aB .i64 ((nd/9:Nat):Int)=((nd/9:Nat):Int):=wrap64 (by omega) (by omega);have e3:=bX (nd/9) (by omega);have e4:ltI ((nd/9+1:Nat):Int) 0=false:=by rw[aE]; exact oF (by omega)
  have e5:ltI 1048576 ((nd/9+1:Nat):Int)=false:=by rw[aE]; exact oF (by omega)
  have ht:zZ ((List.range T).map λj=>((u/1000000000^j%1000000000:Nat):Int))=pcs u:=by
   refine HA (λx hx=>?_) ?_
   ·obtain⟨j,-,rfl⟩:=List.mem_map.1 hx;have:u/1000000000^j%1000000000<1000000000:=Nat.mod_lt _ (by decide);omega
   ·rw[aL1,Nat.mod_eq_of_lt];have h1:=Lib.lt_pow_nDigits u;have h2:(10:Nat)^nd<=10^(9*T):=Nat.pow_le_pow_right (by decide) (by omega);rw[a4F]at h2;rw[hnd]at h1;omega
  unfold eA;simp only[hsz,e1,e2,e3,e4,e5,Bool.not_false,oC,key,aD,VP (show ((List.range T).map λj=>((u/1000000000^j%1000000000:Nat):Int)).length<=4000000 by simp; omega),ht]
 ·obtain⟨hi,hhi⟩:∃ hi:Nat,hi=nd-9*t:=⟨_,rfl⟩;obtain⟨lo,hlo⟩:∃ lo:Nat,lo=hi-9:=⟨_,rfl⟩;have ehi:(nd:Int)-9*(t:Int)=(hi:Int):=by omega
  have ehi':(nd:Int)-9*((t+1:Nat):Int)=(hi:Int)-9:=by omega
  rw[ehi,ehi'];have e1:ltI 0 (hi:Int)=true:=by rw[aE]; exact oT (by omega)
  have e2:aB .i64 ((hi:Int)-9)=(hi:Int)-9:=wrap64 (by omega) (by omega);have e3:(if 0<(hi:Int)-9 then (hi:Int)-9 else 0)=(lo:Int):=by
   by_cases h:0<(hi:Int)-9
   ·rw[if_pos h]; omega
   ·rw[if_neg h]; omega
  have e4:ltI (lo:Int) 0=false:=by rw[aE]; exact oF (by omega)
  have e5:ltI (hi:Int) 0=false:=by rw[aE]; exact oF (by omega)
  have e6:Nat.ble lo hi=true:=by rw[dN]; exact oT (by omega)
  have e7:Nat.ble hi nd=true:=by rw[dN]; exact oT (by omega)
  have hin:=aYX u (lo:=lo) (hi:=hi) (by omega) (by omega) (by omega) (Dn u) ((List.range t).map λj=>((u/1000000000^j%1000000000:Nat):Int)) (hi:Int) A;have hval:u/10^(Lib.nDigits u-hi)%10^(hi-lo)=u/1000000000^t%1000000000:=by
   rw[hnd,show nd-hi=9*t by omega,a4F]
   by_cases h:9<=hi
   ·rw[show hi-lo=9 by omega]
   ·have h1:=Lib.lt_pow_nDigits u;rw[hnd]at h1;have h2:u/1000000000^t<10^hi:=by
     rw[Nat.div_lt_iff_lt_mul (Nat.pow_pos (by decide)),<- a4F,<- Nat.pow_add,show hi+9*t=nd by omega];exact h1
    have h3:(10:Nat)^hi<=10^9:=Nat.pow_le_pow_right (by decide) (by omega);have h4:(10:Nat)^9=1000000000:=by decide
    rw[show hi-lo=hi by omega,Nat.mod_eq_of_lt h2,Nat.mod_eq_of_lt (by omega)]
  rw[hval]at hin;have e8:Nat.ble [((u/1000000000^t%1000000000:Nat):Int)].length 1048576=true:=rfl;have e9:Nat.ble ((List.range t).map λj=>((u/1000000000^j%1000000000:Nat):Int)).length 1048576=true:=by rw[dN]; simp; omega
  simp only[rX,hsz,e1,e2,e3,e4,e5,e6,e7,e8,e9,oC,Bool.not_false,oN,hin,aD];rw[List.range_succ,List.map_append];rfl
 ·have e1:ltI 0 ((nd:Int)-9*(T:Int))=false:=by rw[aE]; exact oF (by omega)
  simp only[rX,e1,oD]
def XV(u:Nat):List Int:=(Lib.decDigits u).reverse.map λb=>(b.toNat:Int)
theorem aTF {u:Nat}(h:u<10):XV u=[48+(u:Int)]:=by
 unfold XV;rw[Lib.decDigits,dif_pos h];simp;omega
theorem aR8 {u:Nat}(h:¬ u<10):XV u=(48+((u%10:Nat):Int))::XV (u/10):=by
 have h1:u%10<10:=Nat.mod_lt _ (by decide);unfold XV;rw[Lib.decDigits,dif_neg h];simp only[List.reverse_append,List.reverse_cons,List.reverse_nil,List.nil_append,List.cons_append,List.map_cons,List.cons.injEq,and_true];rw[UInt8.toNat_ofNat'];omega
theorem ZG(u:Nat):(XV u).length=Lib.nDigits u:=by simp[XV,Lib.decDigits_length]
def SI(x:Nat):Nat->List Int
 | 0=>[]
 | k+1=>SI x k++[48+((x/10^k%10:Nat):Int)]
theorem aF1(x:Nat):∀ k,(SI x k).length=k
 | 0=>rfl
 | k+1=>by rw[SI,oH,aF1 x k]; rfl
theorem aMK(x:Nat):∀ k,SI x (k+1)=(48+((x%10:Nat):Int))::SI (x/10) k
 | 0=>by simp[SI]
 | k+1=>by rw[SI,aMK x k,SI,List.cons_append,Nat.pow_succ,Nat.mul_comm,<- Nat.div_div_eq_div_mul]
theorem aQ7:∀ (k u:Nat),10^k<=u->XV u=SI u k++XV (u/10^k)
 | 0,u,_=>by simp[SI]
 | k+1,u,h=>by
  have h1:10^k<=u/10:=by rw[Nat.le_div_iff_mul_le (by decide),<- Nat.pow_succ]; exact h
  have hp:1<=10^k:=Nat.one_le_pow _ _ (by decide);rw[aR8 (by omega),aMK,aQ7 k (u/10) h1,List.cons_append,Nat.pow_succ,Nat.mul_comm,<- Nat.div_div_eq_div_mul]
theorem aS3(x y:Nat):∀ k,k<=9->x%1000000000=y%1000000000->SI x k=SI y k
 | 0,_,_=>rfl
 | k+1,hk,h=>by
  rw[SI,SI,aS3 x y k (by omega) h];have key:∀ z:Nat,z/10^k%10=z%1000000000/10^k%10:=λz=>by
   have e:(1000000000:Nat)=10^k*(10*10^(8-k)):=by rw[<- Nat.mul_assoc,<- Nat.pow_succ,<- Nat.pow_add,show k.succ+(8-k)=9 by omega]
   rw[e,Nat.mod_mul_right_div_self,Nat.mod_mul_right_mod]
  rw[key x,key y,h]
theorem aW9(p:List Int) (v3:List Int) {i x:Nat} (hi:i+1<p.length) (hp:p.length<=4000000) (hx:x<1000000000) (hv:v3.length<=1000100) (v14:List Int) (v15 v16:Int) :
  lQ (p,v3,(i:Int),(x:Int),0,v14,v15,v16,())=some (p,v3++SI x 9,v14,v15,v16,()):=by
 have key:=aU (step:=eD) (N:=2^64) (λt=>(p,v3++SI x t,(i:Int),((x/10^t:Nat):Int),(t:Int),v14,v15,v16,())) 9
  (p,v3++SI x 9,v14,v15,v16,()) (by omega) (λt ht=>?_) ?_
 ·have hp0:SI x 0=[]:=rfl;rw[hp0,List.append_nil,Nat.pow_zero,Nat.div_one]at key;exact key
 ·have e1:ltI (t:Int) 9=true:=by rw[aE]; exact oT (by omega)
  have e2:=bX i (by omega);have e3:ltI ((i+1:Nat):Int) (p.length:Int)=true:=by rw[aE]; exact oT (by omega)
  have hy:x/10^t<=x:=Nat.div_le_self _ _;have e9:x/10^(t+1)=x/10^t/10:=by rw[Nat.pow_succ,Nat.div_div_eq_div_mul]
  rw[e9,SI,<- List.append_assoc];generalize x/10^t=y at *;have e4:((y:Nat):Int).tmod 10=((y%10:Nat):Int):=rfl;have e5:((y:Nat):Int).tdiv 10=((y/10:Nat):Int):=rfl;have e6:IntKind.wrap .u8 (aB .u64 (48+((y%10:Nat):Int)))=48+((y%10:Nat):Int):=by rw[q9 (by omega) (by omega),aV7 (by omega) (by omega)]
  have e7:aB .u64 ((y/10:Nat):Int)=((y/10:Nat):Int):=q9 (by omega) (by omega);have e8:=bX t (by omega);have e10:Nat.ble [48+((y%10:Nat):Int)].length 1048576=true:=rfl;have e11:Nat.ble (v3++SI x t).length 1048576=true:=by rw[dN,oH,aF1]; exact oT (by omega)
  simp only[eD,e1,e2,e3,e4,e5,e6,e7,e8,e10,e11,oC]
 ·rfl
theorem aMA(p:List Int){i:Nat}(hi:p.length=i+1)(hp:p.length<=4000000)(v14:List Int)(v15 v16:Int):∀ (k x:Nat) (v3:List Int),0<x->x<10^k->k<=9->v3.length+k<=1000100->∀ N,
  bF eD (k+1+N) (p,v3,(i:Int),(x:Int),((9-k:Nat):Int),v14,v15,v16,())=some (p,v3++XV x,v14,v15,v16,())
 | 0,x,v3,h0,h1,_,_,N=>by rw[Nat.pow_zero]at h1; omega
 | k+1,x,v3,h0,h1,h9,hv,N=>by
  rw[show k+1+1+N=(k+1+N)+1 by omega,fS];have e1:ltI ((9-(k+1):Nat):Int) 9=true:=by rw[aE]; exact oT (by omega)
  have e2:=bX i (by omega);have e3:ltI ((i+1:Nat):Int) (p.length:Int)=false:=by rw[aE]; exact oF (by omega)
  have e0:ltI 0 (x:Int)=true:=by rw[aE]; exact oT (by omega)
  have hxB:x<10^9:=Nat.lt_of_lt_of_le h1 (Nat.pow_le_pow_right (by decide) h9);have h109:(10:Nat)^9=1000000000:=by decide
  have e4:((x:Nat):Int).tmod 10=((x%10:Nat):Int):=rfl;have e5:((x:Nat):Int).tdiv 10=((x/10:Nat):Int):=rfl;have e6:IntKind.wrap .u8 (aB .u64 (48+((x%10:Nat):Int)))=48+((x%10:Nat):Int):=by rw[q9 (by omega) (by omega),aV7 (by omega) (by omega)]
  have e7:aB .u64 ((x/10:Nat):Int)=((x/10:Nat):Int):=q9 (by omega) (by omega);have e8:aB .i64 (((9-(k+1):Nat):Int)+1)=((9-k:Nat):Int):=by rw[wrap64 (by omega) (by omega)]; omega
  have e10:Nat.ble [48+((x%10:Nat):Int)].length 1048576=true:=rfl;have e11:Nat.ble v3.length 1048576=true:=by rw[dN]; exact oT (by omega)
  simp only[eD,e1,e2,e3,e0,e4,e5,e6,e7,e8,e10,e11,oC,oD]
  by_cases hx:x<10
  ·have hz:x/10=0:=by omega
   have hm:x%10=x:=Nat.mod_eq_of_lt hx;rw[hz,hm,aTF hx,show k+1+N=(k+N)+1 by omega,fS];have e12:ltI 0 ((0:Nat):Int)=false:=rfl;cases hk:ltI ((9-k:Nat):Int) 9 with
   | true=>simp only[eD,hk,e2,e3,e12,oC,oD]
   | false=>simp only[eD,hk,oD]
  ·rw[aR8 hx,aMA p hi hp v14 v15 v16 k (x/10) (v3++[48+((x%10:Nat):Int)]) (by omega) (by rw[Nat.pow_succ]at h1; omega) (by omega) (by rw[oH,List.length_singleton]; omega) N,List.append_assoc];rfl
theorem aJ6(u i:Nat):(pcs u).getD i 0=((u/1000000000^i%1000000000:Nat):Int):=by
 induction i generalizing u with
 | zero =>
  by_cases h:u=0
  ·subst h; rw[YW]; rfl
  ·rw[aD0 h]; simp
 | succ i ih =>
  by_cases h:u=0
  ·subst h; rw[YW]; simp
  ·rw[aD0 h,List.getD_cons_succ,ih,Nat.pow_succ,Nat.mul_comm,<- Nat.div_div_eq_div_mul]
theorem aGW {u i:Nat}(h:i<(pcs u).length):0<u/1000000000^i:=by
 have:=a45 h;exact Nat.div_pos this (Nat.pow_pos (by decide))
theorem aPY {u i:Nat}(h:(pcs u).length<=i):u/1000000000^i=0:=by
 refine Nat.div_eq_of_lt ?_;obtain⟨a,b,c⟩:=gW u;have h1:=LX a;rw[c]at h1;have h2:=aPF h;have e:((1000000000^i:Nat):Int)=pw i:=by unfold pw; rw[Int.natCast_pow]; rfl
 omega
def aDZ(u:Nat):Nat->List Int
 | 0=>[]
 | i+1=>if i+1<(pcs u).length then aDZ u i++SI (u/1000000000^i%1000000000) 9 else aDZ u i++XV (u/1000000000^i)
theorem aJW(u:Nat):∀ i,i<(pcs u).length->aDZ u i++XV (u/1000000000^i)=XV u
 | 0,_=>by simp[aDZ]
 | i+1,h=>by
  have ih:=aJW u i (by omega);have hp:=aGW h;have e:u/1000000000^(i+1)=u/1000000000^i/1000000000:=by rw[Nat.pow_succ,Nat.div_div_eq_div_mul]
  have h109:(10:Nat)^9=1000000000:=by decide
  have hr:=aQ7 9 (u/1000000000^i) (by rw[h109]; rw[e]at hp; omega);rw[h109,<- e,<- aS3 (u/1000000000^i%1000000000) (u/1000000000^i) 9 (by decide) (by rw[Nat.mod_mod])]at hr;rw[aDZ,if_pos h,List.append_assoc,<- hr];exact ih
theorem aZL {u:Nat}(h:0<(pcs u).length):aDZ u (pcs u).length=XV u:=by
 obtain⟨k,hk⟩:∃ k,(pcs u).length=k+1:=⟨(pcs u).length-1,by omega⟩;rw[hk,aDZ,if_neg (by omega)];exact aJW u k (by omega)
theorem a1Y(u:Nat){i:Nat}(h:i<(pcs u).length):(aDZ u i).length<=Lib.nDigits u:=by
 have:=oZ List.length (aJW u i h);rw[oH,ZG,ZG]at this;omega
theorem aBM {u:Nat}(hu:Lib.nDigits u<=1000000):(pcs u).length*9<=1000008:=by
 have h1:=Lib.lt_pow_nDigits u;have h2:(10:Nat)^Lib.nDigits u<=10^(9*((Lib.nDigits u+8)/9)):=Nat.pow_le_pow_right (by decide) (by omega);rw[a4F]at h2;have:=VW (n:=u) (k:=(Lib.nDigits u+8)/9) (by omega);omega
theorem aYS(u:Nat)(hu:Lib.nDigits u<=1000000)(h0:0<(pcs u).length):lR (pcs u,List.replicate 0 0,pcs u,((pcs u).length:Int),0,())=some (XV u,()):=by
 have hlen:=aBM hu;have key:=aU (step:=iQ) (N:=2^64) (λt=>(pcs u,aDZ u t,pcs u,((pcs u).length:Int),(t:Int),())) (pcs u).length (aDZ u (pcs u).length,()) (by omega) (λt ht=>?_) ?_
 ·rw[aZL h0]at key;exact key
 ·have e1:ltI (t:Int) ((pcs u).length:Int)=true:=by rw[aE]; exact oT (by omega)
  have e2:aF (t:Int) (pcs u).length=true:=by rw[aM]; exact oT (by omega)
  have e3:=bX t (by omega);have hol:=a1Y u ht;have hx:u/1000000000^t%1000000000<1000000000:=Nat.mod_lt _ (by decide);rw[aDZ]
  by_cases h:t+1<(pcs u).length
  ·have hi:=aW9 (pcs u) (aDZ u t) (i:=t) (x:=u/1000000000^t%1000000000) h (by omega) hx (by omega) (pcs u) ((pcs u).length:Int) (t:Int);rw[if_pos h];simp only[iQ,e1,e2,e3,oC,oN,aJ6,hi,aD]
  ·have hz:u/1000000000^(t+1)=0:=aPY (by omega);have hp:=aGW ht;have hm:u/1000000000^t%1000000000=u/1000000000^t:=by
    rw[Nat.pow_succ,<- Nat.div_div_eq_div_mul]at hz;exact Nat.mod_eq_of_lt (by omega)
   rw[hm]at hx;have h109:(10:Nat)^9=1000000000:=by decide
   have hi:=aMA (pcs u) (i:=t) (by omega) (by omega) (pcs u) ((pcs u).length:Int) (t:Int) 9 (u/1000000000^t) (aDZ u t) hp (by rw[h109]; exact hx) (oM _) (by omega) (2^64-10);rw[show 9+1+(2^64-10)=2^64 by decide]at hi;have hi:lQ (pcs u,aDZ u t,(t:Int),((u/1000000000^t:Nat):Int),0,pcs u,((pcs u).length:Int),(t:Int),())=_:=hi;rw[if_neg h];simp only[iQ,e1,e2,e3,oC,oN,aJ6,hm,hi,aD]
 ·have e1:ltI ((pcs u).length:Int) ((pcs u).length:Int)=false:=by rw[aE]; exact oF (by omega)
  simp only[iQ,e1,oD]
def aLC(l:List Int):Nat->List Int
 | 0=>l
 | t+1=>((aLC l t).set t (l.getD (l.length-1-t) 0)).set (l.length-1-t) (l.getD t 0)
theorem aEQ(l:List Int):∀ t,2*t<=l.length->(aLC l t).length=l.length/\∀ x,x<l.length->(aLC l t).getD x 0=if x<t\/l.length-1-t<x then l.getD (l.length-1-x) 0 else l.getD x 0
 | 0,_=>⟨rfl,λx hx=>by rw[if_neg (by omega)]; rfl⟩
 | t+1,h=>by
  obtain⟨h1,h2⟩:=aEQ l t (by omega);refine⟨by rw[aLC,List.length_set,List.length_set,h1],λx hx=>?_⟩;rw[aLC]
  by_cases c1:x=l.length-1-t
  ·subst c1;rw[Go.De.aGJ _ _ (by rw[List.length_set]; omega),if_pos (by omega)]
   congr 1; omega
  ·rw[Go.De.getD_set_ne _ _ (by omega)]
   by_cases c2:x=t
   ·subst c2;rw[Go.De.aGJ _ _ (by omega),if_pos (by omega)]
   ·rw[Go.De.getD_set_ne _ _ (by omega),h2 x hx]
    by_cases c3:x<t\/l.length-1-t<x
    ·rw[if_pos c3,if_pos (by omega)]
    ·rw[if_neg c3,if_neg (by omega)]
theorem a0F(l:List Int):aLC l (l.length/2)=l.reverse:=by
 obtain⟨h1,h2⟩:=aEQ l (l.length/2) (by omega);refine List.ext_getElem (by rw[h1,List.length_reverse]) λx hx hy=>?_
 have:=h2 x (by omega);rw[oQ,List.getElem?_eq_getElem hx]at this;have this:(aLC l (l.length/2))[x]=_:=this;rw[this,List.getElem_reverse];have hg:∀ y (hy:y<l.length),l.getD y 0=l[y]:=λy hy=>by rw[oQ,List.getElem?_eq_getElem hy]; rfl
 by_cases c:x<l.length/2\/l.length-1-l.length/2<x
 ·rw[if_pos c,hg _ (by omega)]
 ·rw[if_neg c,hg _ (by omega)]
  congr 1; omega
theorem aT5 {l:List Int}(hl:l.length<=4000000):SY (t:=.int .u8) dI l ()=some l.reverse:=by
 have key:=aU (step:=fM) (N:=2^64) (λt=>((0,0,l.length),(t:Int),(l.length:Int)-1-(t:Int),[aLC l t],())) (l.length/2) ([l.reverse],()) (by omega) (λt ht=>?_) ?_
 ·have key:j8 ((0,0,l.length),0,(l.length:Int)-1,[l],())=some ([l.reverse],()):=by
   rw[show (l.length:Int)-1-((0:Nat):Int)=(l.length:Int)-1 by omega]at key;exact key
  have e2:aB .i64 (((l.length:Nat):Int)-1)=(l.length:Int)-1:=wrap64 (by omega) (by omega);unfold SY dI;simp only[e2,key,aD,List.length_reverse,aJT,oC]
 ·obtain⟨h1,h2⟩:=aEQ l t (by omega);obtain⟨j,hj⟩:∃ j:Nat,l.length-1-t=j:=⟨_,rfl⟩;have ej:(l.length:Int)-1-(t:Int)=(j:Int):=by omega
  have ej':(l.length:Int)-1-((t+1:Nat):Int)=(j:Int)-1:=by omega
  have g1:=h2 t (by omega);have g2:=h2 j (by omega);rw[if_neg (by omega)]at g1 g2;rw[aLC,ej,ej',hj];generalize aLC l t=r at *;have e1:ltI (t:Int) (j:Int)=true:=by rw[aE]; exact oT (by omega)
  have e2:aF (t:Int) l.length=true:=by rw[aM]; exact oT (by omega)
  have e3:aF (j:Int) l.length=true:=by rw[aM]; exact oT (by omega)
  have e4:Nat.blt t r.length=true:=by rw[cD]; exact oT (by omega)
  have e5:Nat.blt j r.length=true:=by rw[cD]; exact oT (by omega)
  have e6:(0+t)*1=t:=by omega
  have e7:(0+j)*1=j:=by omega
  have e8:=bX t (by omega);have e9:aB .i64 ((j:Int)-1)=(j:Int)-1:=wrap64 (by omega) (by omega);simp only[fM,e1,e2,e3,e4,e5,e6,e7,e8,e9,oC,oN,O4,QC,P7,List.length_set,g1,g2]
 ·have e1:ltI ((l.length/2:Nat):Int) ((l.length:Int)-1-((l.length/2:Nat):Int))=false:=by rw[aE]; exact oF (by omega)
  simp only[fM,e1,oD,a0F]
theorem aUU(L:List UInt8):aJC (L.map λb=>(b.toNat:Int))=⟨L.toArray⟩:=by
 have key:∀ (L:List UInt8) (r:ByteArray),(L.map λb=>(b.toNat:Int)).foldl (λr n=>r.push (UInt8.ofNat n.toNat)) r=⟨r.data++L.toArray⟩:=by
  intro L
  induction L with
  | nil=>intro r; simp
  | cons b L ih =>
   intro r;rw[List.map_cons,List.foldl_cons,ih];have:UInt8.ofNat ((b.toNat:Int)).toNat=b:=by simp
   rw[this];simp[ByteArray.push]
 unfold aJC;rw[key];show ByteArray.mk (#[]++L.toArray)=_;rw[Array.empty_append]
theorem aDI(u:Nat)(hu:Lib.nDigits u<=1000000):bL (pcs u,())=some (Dn u,()):=by
 have hlen:=aBM hu;unfold bL;dsimp only;rw[fP]
 by_cases h0:u=0
 ·subst h0;rw[YW,oT (by rfl),oC,a5V]
 ·have hp:0<(pcs u).length:=by rw[aD0 h0]; simp
  have e1:aB .i64 (9*((pcs u).length:Int))=((9*(pcs u).length:Nat):Int):=by rw[wrap64 (by omega) (by omega)]; omega
  have e2:ltI ((9*(pcs u).length:Nat):Int) 0=false:=by rw[aE]; exact oF (by omega)
  have e3:ltI 1048576 ((9*(pcs u).length:Nat):Int)=false:=by rw[aE]; exact oF (by omega)
  rw[oF (by omega),oD,e1,e2,e3];show (aC (lR (pcs u,List.replicate 0 0,pcs u,((pcs u).length:Int),0,())) _)=_;rw[aYS u hu hp,aD];show (aC (SY (t:=.int .u8) dI (XV u) ()) _)=_;rw[aT5 (by rw[ZG]; omega),aD];unfold XV;rw[<- List.map_reverse,List.reverse_reverse,aUU];rfl
theorem aU1(k:Nat):pw k=((1000000000^k:Nat):Int):=by unfold pw; rw[Int.natCast_pow]; rfl
theorem aIG(u:Nat):u<1000000000^(pcs u).length:=by
 obtain⟨a,b,c⟩:=gW u;have:=LX a;rw[c,aU1]at this;omega
theorem TE {x y:Nat}(h:x<=y):(pcs x).length<=(pcs y).length:=VW (Nat.lt_of_le_of_lt h (aIG y))
theorem aV1 {u k:Nat}(h:(pcs u).length=k+1):0<(pcs u).getD k 0:=by
 obtain⟨a,b,c⟩:=gW u;have hne:pcs u≠[]:=λh0=>by rw[h0]at h; cases h
 have h1:=b _ (List.getLast?_eq_some_getLast hne);rw[List.getLast_eq_getElem]at h1;have h2:=a.get k;have h3:(pcs u).getD k 0=(pcs u)[(pcs u).length-1]'(by omega):=by
  rw[oQ,List.getElem?_eq_getElem (by omega)];have:(pcs u).length-1=k:=by omega
  simp[this]
 omega
theorem aTT {acur b1 out:List Int} {f n i2:Int} {i m:Nat} (A:List (List Int)) (ha:Pc acur) (hb:Pc b1) (hbl:b1.length=m+2) (hn:n=((m+2:Nat):Int)) (hi2:i2=(i:Int)) (hl:i+m+2<acur.length) (hal:acur.length<=4000000)
  {g0 r0 bt:Int} (hbt:bt=b1.getD (m+1) 0) (hbt0:0<bt) {high:Int} (h0:0<=high/\high<1000000000000000000) (hg0:g0=high/bt) (hr0:r0=high%bt) {mm:Nat} (hmm:(mm:Int)<=g0)
  (hc:∀ t:Nat,t<mm->NK bt (b1.getD m 0) (acur.getD (i+m) 0) (g0-t) (r0+t*bt)) (hs:¬ NK bt (b1.getD m 0) (acur.getD (i+m) 0) (g0-mm) (r0+mm*bt)) :
  lX (f,acur,b1,n,out,i2,g0,r0,A,())=some (f,acur,b1,n,out,i2,g0-mm,A,()):=by
 subst hn; subst hi2;have hbtB:bt<1000000000:=by rw[hbt]; exact(hb.get _).2
 have hg1:0<=g0:=by rw[hg0]; exact Int.ediv_nonneg h0.1 (by omega)
 have hg2:g0<1000000000000000000:=by rw[hg0]; exact Int.lt_of_le_of_lt (Int.ediv_le_self _ h0.1) h0.2
 have hr1:0<=r0:=by rw[hr0]; exact Int.emod_nonneg _ (by omega)
 have hdm:r0+bt*g0=high:=by rw[hg0,hr0]; exact Int.emod_add_mul_ediv high bt
 have hrt:∀ t:Nat,(t:Int)<=g0->0<=r0+t*bt/\r0+t*bt<=high:=λt ht=>by
  have h1:0<=(t:Int)*bt:=Int.mul_nonneg (by omega) (by omega);have h2:(t:Int)*bt<=g0*bt:=Int.mul_le_mul_of_nonneg_right ht (by omega);have h3:g0*bt=bt*g0:=Int.mul_comm _ _;omega
 have e1:aB .i64 (((m+2:Nat):Int)-1)=((m+1:Nat):Int):=by rw[wrap64 (by omega) (by omega)]; omega
 have e2:aB .i64 (((m+2:Nat):Int)-2)=((m:Nat):Int):=by rw[wrap64 (by omega) (by omega)]; omega
 have e3:aF ((m+1:Nat):Int) b1.length=true:=by rw[aM]; exact oT (by omega)
 have e4:aF ((m:Nat):Int) b1.length=true:=by rw[aM]; exact oT (by omega)
 have e5:aB .i64 (aB .i64 ((i:Int)+((m+2:Nat):Int))-2)=((i+m:Nat):Int):=by rw[wrap64 (x:=(i:Int)+((m+2:Nat):Int)) (by omega) (by omega),wrap64 (by omega) (by omega)]; omega
 have e6:aF ((i+m:Nat):Int) acur.length=true:=by rw[aM]; exact oT (by omega)
 have e7:Nat.blt (i+m) acur.length=true:=by rw[cD]; exact oT (by omega)
 have ha2:=ha.get (i+m);have hb2:=hb.get m;have stepE:∀ g r:Int,0<=g->g<=g0->0<=r->r<=high->iI (f,acur,b1,((m+2:Nat):Int),out,(i:Int),g,r,A,()) =
   if NK bt (b1.getD m 0) (acur.getD (i+m) 0) g r then some (.inl (f,acur,b1,((m+2:Nat):Int),out,(i:Int),aB .u64 (g-1),aB .u64 (r+bt),A,())) else some (.inr (f,acur,b1,((m+2:Nat):Int),out,(i:Int),g,A,())):=by
  intro g r g1 g2 r1 r2;simp only[iI,e1,e2,e3,e4,e5,e6,e7,oC,oN,aE,<- hbt,a2R,aEK]
  by_cases c1:1000000000<=g
  ·rw[if_pos (show ¬ g<1000000000 by omega),if_pos (.inl c1)]
  ·rw[if_neg (show ¬ ¬ g<1000000000 by omega)]
   by_cases c2:r<1000000000
   ·have hm:=KQ (n:=g) (x:=b1.getD m 0) (by omega) hb2;have w1:aB .u64 (r*1000000000)=r*1000000000:=q9 (by omega) (by omega);have w2:aB .u64 (r*1000000000+acur.getD (i+m) 0)=r*1000000000+acur.getD (i+m) 0:=q9 (by omega) (by omega);have w3:aB .u64 (g*b1.getD m 0)=g*b1.getD m 0:=q9 (by omega) (by omega);rw[if_pos c2,w1,w2,w3]
    by_cases c3:r*1000000000+acur.getD (i+m) 0<g*b1.getD m 0
    ·rw[if_pos c3,if_pos (.inr ⟨c2,c3⟩)]
    ·rw[if_neg c3,if_neg (λh=>by rcases h with h|h; exact c1 h; exact c3 h.2)]
   ·rw[if_neg c2,if_neg (λh=>by rcases h with h|h; exact c1 h; exact c2 h.1)]
 have key:=aU (step:=iI) (N:=2^64) (λt=>(f,acur,b1,((m+2:Nat):Int),out,(i:Int),g0-(t:Int),r0+(t:Int)*bt,A,())) mm (f,acur,b1,((m+2:Nat):Int),out,(i:Int),g0-mm,A,()) (by omega) (λt ht=>?_) ?_
 ·rw[show g0-((0:Nat):Int)=g0 by omega,show r0+((0:Nat):Int)*bt=r0 by simp]at key;exact key
 ·obtain⟨q1,q2⟩:=hrt t (by omega);obtain⟨q3,q4⟩:=hrt (t+1) (by omega);have e9:r0+((t+1:Nat):Int)*bt=r0+(t:Int)*bt+bt:=by rw[Int.natCast_add,Int.add_mul]; simp[Int.add_assoc]
  rw[stepE _ _ (by omega) (by omega) q1 q2,if_pos (hc t ht),e9];rw[e9]at q3 q4;rw[q9 (x:=g0-(t:Int)-1) (by omega) (by omega),q9 (x:=r0+(t:Int)*bt+bt) q3 (by omega),show g0-(t:Int)-1=g0-((t+1:Nat):Int)by omega]
 ·obtain⟨q1,q2⟩:=hrt mm (by omega);rw[stepE _ _ (by omega) (by omega) q1 q2,if_neg hs]
theorem aON {acur b1 out:List Int} {f:Int} {i m L:Nat} (A:List (List Int)) (ha:Pc acur) (hb:Pc b1) (hbl:b1.length=m+2) (htop:0<b1.getD (m+1) 0) (hal:acur.length=L) (hl:i+m+2<L) (hL:L<=4000000)
  (hol:out.length=L-(m+2)) (hoi:out.getD i 0=0) (ho:Pc out) (hz:vl acur<pw (i+1)*vl b1) :
  ∃ acur' out',dT (f,acur,b1,((m+2:Nat):Int),out,(i:Int),A,())=some (.inl (f,acur',b1,((m+2:Nat):Int),out',(i:Int)-1,A,())) /\
   Pc acur'/\acur'.length=L/\Pc out'/\out'.length=out.length/\vl acur'<pw i*vl b1/\vl out'*vl b1+vl acur'=vl out*vl b1+vl acur/\∀ j,j<i->out'.getD j 0=out.getD j 0:=by
 have hV0:=LX hb;rw[hbl]at hV0;have pP:=JZ i;have hV1:0<vl b1:=by
  have:=(aVV hb (k:=m) (λj hj=>HE hb hV0 (by omega)) (by omega)).1;have h1:0<(b1.getD (m+1) 0*1000000000+b1.getD m 0)*pw m:=Int.mul_pos (by have:=hb.get m; omega) (JZ m);omega
 have hzz:vl acur<pw (i+m+3):=by
  have h1:pw (i+1)*vl b1<=pw (i+1)*pw (m+2):=Int.mul_le_mul_of_nonneg_left (Int.le_of_lt hV0) (Int.le_of_lt (JZ _));rw[<- aCB,show i+1+(m+2)=i+m+3 by omega]at h1;omega
 have gs:=a64 ha hb hbl htop (i:=i) (by omega) hzz;have hn:=qX ha;have hVP:0<vl b1*pw i:=Int.mul_pos hV1 pP;obtain⟨qh,hqh⟩:∃ qh,qh=vl acur/(vl b1*pw i):=⟨_,rfl⟩;have q0:0<=qh:=by rw[hqh]; exact Int.ediv_nonneg hn (Int.le_of_lt hVP)
 have q1:qh*(vl b1*pw i)<=vl acur:=by rw[hqh]; exact Int.ediv_mul_le _ (by omega)
 have q2:vl acur<(qh+1)*(vl b1*pw i):=by rw[hqh]; exact Int.lt_ediv_add_one_mul_self _ hVP
 have qB:qh<1000000000:=by
  rw[hqh];refine Int.ediv_lt_of_lt_mul hVP ?_;rw[FZ]at hz;have:1000000000*pw i*vl b1=1000000000*(vl b1*pw i):=by grind
  omega
 have hx1:=ha.get (i+m+2);have hx2:=ha.get (i+m+1);obtain⟨high,hhigh⟩:∃ high,high=acur.getD (i+m+2) 0*1000000000+acur.getD (i+m+1) 0:=⟨_,rfl⟩;rw[<- hhigh]at gs;have hb0:0<=high/\high<1000000000000000000:=by omega
 obtain⟨mm,m1,m2,m3,m4,m5⟩:=gs.a5N q0 q1 q2 qB;have gl:=aTT (f:=f) (n:=((m+2:Nat):Int)) (i2:=(i:Int)) (out:=out) A ha hb hbl rfl rfl (by omega) (by omega) rfl htop hb0 rfl rfl m1 m2 m3;have hg:0<=high/b1.getD (m+1) 0-(mm:Int)/\high/b1.getD (m+1) 0-(mm:Int)<1000000000:=⟨by omega,by
  rcases Int.lt_or_le (high/b1.getD (m+1) 0-(mm:Int)) 1000000000 with h|h
  ·exact h
  ·exact absurd (.inl h) m3⟩
 obtain⟨g,hgd⟩:∃ g,g=high/b1.getD (m+1) 0-(mm:Int):=⟨_,rfl⟩;rw[<- hgd]at gl m4 m5 hg;have tr:=aUN (i:=i) (n:=m+2) ha hb hbl (by omega) (by rw[show i+(m+2)+1=i+m+3 by omega]; exact hzz) hg q1 q2 m4 m5;have te:=aVT (n:=g) (at':=i) ha hb hg (by omega) (by omega);rw[hbl]at te
 -- the operations
 have e1:ltI (i:Int) 0=false:=by rw[aE]; exact oF (by omega)
 have e2:aB .i64 ((i:Int)+((m+2:Nat):Int))=((i+m+2:Nat):Int):=by rw[wrap64 (by omega) (by omega)]; omega
 have e3:aF ((i+m+2:Nat):Int) acur.length=true:=by rw[aM]; exact oT (by omega)
 have e4:Nat.blt (i+m+2) acur.length=true:=by rw[cD]; exact oT (by omega)
 have e5:aB .i64 (((i+m+2:Nat):Int)-1)=((i+m+1:Nat):Int):=by rw[wrap64 (by omega) (by omega)]; omega
 have e6:aF ((i+m+1:Nat):Int) acur.length=true:=by rw[aM]; exact oT (by omega)
 have e7:Nat.blt (i+m+1) acur.length=true:=by rw[cD]; exact oT (by omega)
 have e8:aB .i64 (((m+2:Nat):Int)-1)=((m+1:Nat):Int):=by rw[wrap64 (by omega) (by omega)]; omega
 have e9:aF ((m+1:Nat):Int) b1.length=true:=by rw[aM]; exact oT (by omega)
 have e10:eqI (b1.getD (m+1) 0) 0=false:=by rw[fP]; exact oF (by omega)
 have e11:aB .u64 (acur.getD (i+m+2) 0*1000000000)=acur.getD (i+m+2) 0*1000000000:=q9 (by omega) (by omega);have e12:aB .u64 (acur.getD (i+m+2) 0*1000000000+acur.getD (i+m+1) 0)=high:=by rw[q9 (by omega) (by omega),hhigh]
 have e13:high.tdiv (b1.getD (m+1) 0)=high/b1.getD (m+1) 0:=Int.tdiv_eq_ediv_of_nonneg hb0.1;have e14:high.tmod (b1.getD (m+1) 0)=high%b1.getD (m+1) 0:=Int.tmod_eq_emod_of_nonneg hb0.1;have hq0:0<=high/b1.getD (m+1) 0:=Int.ediv_nonneg hb0.1 (by omega);have hq1:high/b1.getD (m+1) 0<=high:=Int.ediv_le_self _ hb0.1;have e15:aB .u64 (high/b1.getD (m+1) 0)=high/b1.getD (m+1) 0:=q9 hq0 (by omega);have e16:aF (i:Int) out.length=true:=by rw[aM]; exact oT (by omega)
 have e17:Nat.blt i out.length=true:=by rw[cD]; exact oT (by omega)
 have e18:aB .i64 ((i:Int)-1)=(i:Int)-1:=wrap64 (by omega) (by omega);have hpwi:pw i*vl b1=vl b1*pw i:=Int.mul_comm _ _;have fin:∀ a':List Int,Pc a'->a'.length=acur.length->vl a'=vl acur-qh*(vl b1*pw i) ->
   Pc a'/\a'.length=L/\Pc (out.set i qh)/\(out.set i qh).length=out.length/\vl a'<pw i*vl b1/\vl (out.set i qh)*vl b1+vl a'=vl out*vl b1+vl acur/\∀ j,j<i->(out.set i qh).getD j 0=out.getD j 0:=by
  intro a' p1 p2 p3;refine⟨p1,p2.trans hal,ho.set ⟨q0,qB⟩ _,List.length_set,?_,?_,λj hj=>Go.De.getD_set_ne _ _ (by omega)⟩
  ·rw[p3,hpwi];have:(qh+1)*(vl b1*pw i)=qh*(vl b1*pw i)+vl b1*pw i:=by grind
   omega
  ·rw[aCJ out i qh (by omega),hoi,p3];grind
 rcases tr with ⟨t1,t2,t3,t4,t5⟩|⟨t1,t2,t3,t4,t5,t6,t7⟩
 ·refine⟨(tkS b1 g i acur (m+2+1)).1,out.set i qh,?_,fin _ t3 t4 t5⟩;rw[t1]at te;have d0:decide ((0:Int)<0)=false:=rfl;rw[d0,t2]at te;rw[t2]at gl ⊢;simp only[dT,e1,e2,e3,e4,e5,e6,e7,e8,e9,e10,e11,e12,e13,e14,e15,oC,oD,Bool.not_false,oN,gl,aD,te,e16,e17,e18]
 ·refine⟨(bkS b1 i (tkS b1 g i acur (m+2+1)).1 (m+2+1)).1,out.set i qh,?_,fin _ t5 t6 t7⟩;have be:=back_eq (at':=i) t3 hb (by omega) (by omega);rw[hbl]at be;rw[t1]at te;have d0:decide ((0:Int)<1)=true:=rfl;rw[d0]at te;have e19:aB .u64 (g-1)=qh:=by rw[q9 (by omega) (by omega)]; omega
  simp only[dT,e1,e2,e3,e4,e5,e6,e7,e8,e9,e10,e11,e12,e13,e14,e15,oC,oD,Bool.not_false,oN,gl,aD,te,be,e16,e17,e18,e19]
theorem aYH(a b:Nat)(hb2:2<=(pcs b).length)(hab:b<=a)(hl:(pcs a).length<=500000)(A:List (List Int)):eP () (pcs a,pcs b,()) A=some ((pcs (a/b),pcs (a%b),()),A):=by
 obtain⟨m,hm⟩:∃ m,(pcs b).length=m+2:=⟨(pcs b).length-2,by omega⟩;have hba:=TE hab;have htop:=aV1 (u:=b) (k:=m+1) hm;have hb0:0<b:=by
  rcases Nat.eq_zero_or_pos b with h|h
  ·subst h; rw[YW]at hm; cases hm
  ·exact h
 have htB:=((gW b).1.get (m+1)).2;obtain⟨top,htop'⟩:∃ top:Nat,(pcs b).getD (m+1) 0=top:=⟨((pcs b).getD (m+1) 0).toNat,by omega⟩;rw[htop']at htop htB;obtain⟨f,hf⟩:∃ f:Nat,f=1000000000/(top+1):=⟨_,rfl⟩;have hf1:1<=f:=by rw[hf]; exact Nat.div_pos (by omega) (by omega)
 have hf2:(top+1)*f<=1000000000:=by rw[hf]; exact Nat.mul_div_le _ _
 have hfB:f<1000000000:=by
  have:2*f<=(top+1)*f:=Nat.mul_le_mul_right _ (by omega);omega
 -- the divisor keeps its length
 have hbf:(pcs (b*f)).length=m+2:=by
  have h1:b<(top+1)*1000000000^(m+1):=by
   have:=(a0L (gW b).1 (k:=m+1) (λj hj=>HE (gW b).1 (k:=m+2) (by have:=LX (gW b).1; rw[hm]at this; exact this) (by omega)) (by omega)).2;rw[(gW b).2.2,htop',aU1]at this;have e:((top:Int)+1)*((1000000000^(m+1):Nat):Int)=(((top+1)*1000000000^(m+1):Nat):Int):=by rw[Int.natCast_mul]; rfl
   omega
  have h2:b*f<1000000000^(m+2):=by
   have h3:b*f<(top+1)*1000000000^(m+1)*f:=Nat.mul_lt_mul_of_pos_right h1 hf1;have h4:(top+1)*1000000000^(m+1)*f=(top+1)*f*1000000000^(m+1):=by rw[Nat.mul_right_comm]
   have h5:(top+1)*f*1000000000^(m+1)<=1000000000*1000000000^(m+1):=Nat.mul_le_mul_right _ hf2;have h6:1000000000^(m+2)=1000000000*1000000000^(m+1):=by rw[Nat.pow_succ,Nat.mul_comm]
   omega
  have h3:=VW h2;have h4:=TE (show b<=b*f from Nat.le_mul_of_pos_right b hf1);omega
 have haf:=TE (show a<=a*f from Nat.le_mul_of_pos_right a hf1);have habf:=TE (show b*f<=a*f from Nat.mul_le_mul_right f hab);have hafl:(pcs (a*f)).length<=(pcs a).length+1:=by
  refine VW ?_;rw[Nat.pow_succ];exact Nat.mul_lt_mul'' (aIG a) hfB
 obtain⟨x1,x2,x3⟩:=gW (a*f);obtain⟨y1,y2,y3⟩:=gW (b*f);obtain⟨L,hL⟩:∃ L,L=(pcs (a*f)).length+1:=⟨_,rfl⟩;have ha1:Pc (pcs (a*f)++[0]):=x1.append (λx hx=>by rw[List.mem_singleton.1 hx]; decide);have ha2:(pcs (a*f)++[0]).length=L:=by simp[hL]
 have ha3:vl (pcs (a*f)++[0])=((a*f:Nat):Int):=by rw[GX,x3]; simp[vl]
 have hbtop:=aV1 (u:=b*f) (k:=m+1) hbf;have hbfpos:0<vl (pcs (b*f)):=by rw[y3]; have:=Nat.mul_pos hb0 hf1; omega
 -- the rounds
 have rounds:=a7L (step:=dT) (N:=2^64)
  (Z:=λz=>∃ acur out,z=((f:Int),acur,out,A,())/\Pc acur/\acur.length=L/\Pc out/\out.length=L-(m+2)/\vl acur<vl (pcs (b*f))/\vl out*vl (pcs (b*f))+vl acur=((a*f:Nat):Int))
  (λt y=>∃ acur out,y=((f:Int),acur,pcs (b*f),((m+2:Nat):Int),out,((L-(m+2):Nat):Int)-1-(t:Int),A,())/\Pc acur/\acur.length=L/\Pc out/\out.length=L-(m+2)/\vl acur<pw (L-(m+2)-t)*vl (pcs (b*f))/\vl out*vl (pcs (b*f))+vl acur=((a*f:Nat):Int)/\∀ j,j<L-(m+2)-t->out.getD j 0=0)
  (L-(m+2)) ((f:Int),pcs (a*f)++[0],pcs (b*f),((m+2:Nat):Int),List.replicate (L-(m+2)) 0,((L-(m+2):Nat):Int)-1,A,()) (by omega) ?_ ?_ ?_
 ·obtain⟨z,z1,acur,out,rfl,c1,c2,c3,c4,c5,c6⟩:=rounds;have z1:l9 ((f:Int),pcs (a*f)++[0],pcs (b*f),((m+2:Nat):Int),List.replicate (L-(m+2)) 0,((L-(m+2):Nat):Int)-1,A,())=_:=z1;obtain⟨r,hr⟩:∃ r:Nat,vl acur=r:=⟨(vl acur).toNat,by have:=qX c1; omega⟩;obtain⟨q,hq⟩:∃ q:Nat,vl out=q:=⟨(vl out).toNat,by have:=qX c3; omega⟩;rw[hr,hq,y3]at c6;rw[hr,y3]at c5;have e:q*(b*f)+r=a*f:=by
   have:((q*(b*f)+r:Nat):Int)=((a*f:Nat):Int):=by rw[Int.natCast_add,Int.natCast_mul]; exact c6
   exact Int.ofNat_inj.1 this
  have hrlt:r<b*f:=by omega
  have hbf0:0<b*f:=Nat.mul_pos hb0 hf1;have hq':q=a/b:=by
   have:a*f/(b*f)=q:=by rw[<- e,Nat.mul_comm q,Nat.mul_add_div hbf0,Nat.div_eq_of_lt hrlt,Nat.add_zero]
   rw[<- this,Nat.mul_div_mul_right _ _ hf1]
  have hr':r=a%b*f:=by
   have:a*f%(b*f)=r:=by rw[<- e,Nat.mul_comm q,Nat.mul_add_mod,Nat.mod_eq_of_lt hrlt]
   rw[<- this,Nat.mul_mod_mul_right]
  have t1:zZ acur=pcs r:=HA c1 hr;have t2:zZ out=pcs q:=HA c3 hq;have hrl:(pcs r).length<=1048576:=by
   have:=TE (show r<=a*f by omega);omega
  have sm:=aSR r (n:=f) ⟨hf1,hfB⟩ hrl A;have hrf:r/f=a%b:=by rw[hr',Nat.mul_div_cancel _ hf1]
  rw[hrf]at sm
  -- the first operations
  have w1:aB .i64 (((m+2:Nat):Int)-1)=((m+1:Nat):Int):=by rw[wrap64 (by omega) (by omega)]; omega
  have w2:aF ((m+1:Nat):Int) (m+2)=true:=by rw[aM]; exact oT (by omega)
  have w3:aB .u64 ((top:Int)+1)=((top+1:Nat):Int):=by rw[q9 (by omega) (by omega)]; omega
  have w4:eqI ((top+1:Nat):Int) 0=false:=by rw[fP]; exact oF (by omega)
  have w5:(1000000000:Int).tdiv ((top+1:Nat):Int)=(f:Int):=by rw[hf]; rfl
  have w6:aB .u64 (f:Int)=(f:Int):=q9 (by omega) (by omega);have s1:=aMP a (n:=f) hfB (by omega) A;have s2:=aMP b (n:=f) hfB (by omega) A;have w7:Nat.ble [(0:Int)].length 1048576=true:=rfl;have w8:Nat.ble (pcs (a*f)).length 1048576=true:=by rw[dN]; exact oT (by omega)
  have w9:lY (pcs a,(f:Int),pcs (a*f)++[0],pcs (b*f),((m+2:Nat):Int),A,())=some ((f:Int),pcs (a*f)++[0],pcs (b*f),((m+2:Nat):Int),A,()):=by
   show bF mA (2^64) _=_;rw[show (2:Nat)^64=18446744073709551615+1 by rfl,fS];have:ltI ((pcs a).length:Int) (L:Int)=true:=by rw[aE]; exact oT (by omega)
   simp only[mA,ha2,this,Bool.not_true,oD]
  have w10:aB .i64 ((L:Int)-((m+2:Nat):Int))=((L-(m+2):Nat):Int):=by rw[wrap64 (by omega) (by omega)]; omega
  have w11:ltI ((L-(m+2):Nat):Int) 0=false:=by rw[aE]; exact oF (by omega)
  have w12:ltI ((L-(m+2):Nat):Int) ((L-(m+2):Nat):Int)=false:=by rw[aE]; exact oF (by omega)
  have w13:ltI 1048576 ((L-(m+2):Nat):Int)=false:=by rw[aE]; exact oF (by omega)
  have w14:aB .i64 (((L-(m+2):Nat):Int)-1)=((L-(m+2):Nat):Int)-1:=wrap64 (by omega) (by omega);unfold eP;simp only[hm,w1,w2,oN,htop',w3,w4,w5,w6,oC,oD,s1,aD,w7,w8,s2,hbf,w9,ha2,w10,w11,w12,w13,w14,Bool.not_false,z1,VP (show acur.length<=4000000 by omega),t1,sm,VP (show out.length<=4000000 by omega),t2,hq'];rfl
 ·refine⟨_,_,by rw[show ((L-(m+2):Nat):Int)-1-((0:Nat):Int)=((L-(m+2):Nat):Int)-1 by omega],ha1,ha2,Pc.rep _,by simp,?_,by rw[WI,ha3]; simp,λj hj=>by simp[oQ,List.getElem?_replicate]; split <;> rfl⟩;rw[ha3,<- x3,Nat.sub_zero];have h1:=LX x1;have h2:=(a0L y1 (k:=m+1) (λj hj=>HE y1 (k:=m+2) (by have:=LX y1; rw[hbf]at this; exact this) (by omega)) (by omega)).1;have h3:pw (m+1)<=vl (pcs (b*f)):=by
   have:1*pw (m+1)<=(pcs (b*f)).getD (m+1) 0*pw (m+1):=Int.mul_le_mul_of_nonneg_right (by omega) (Int.le_of_lt (JZ _));omega
  have h4:pw (L-(m+2))*pw (m+1)<=pw (L-(m+2))*vl (pcs (b*f)):=Int.mul_le_mul_of_nonneg_left h3 (Int.le_of_lt (JZ _));rw[<- aCB,show L-(m+2)+(m+1)=(pcs (a*f)).length by omega]at h4;omega
 ·rintro t y ht ⟨acur,out,rfl,c1,c2,c3,c4,c5,c6,c7⟩;obtain⟨i,hi⟩:∃ i,i=L-(m+2)-t-1:=⟨_,rfl⟩;have ei:((L-(m+2):Nat):Int)-1-(t:Int)=(i:Int):=by omega
  have ei':((L-(m+2):Nat):Int)-1-((t+1:Nat):Int)=(i:Int)-1:=by omega
  rw[show L-(m+2)-t=i+1 by omega]at c5 c7;obtain⟨acur',out',s,d1,d2,d3,d4,d5,d6,d7⟩:=aON (f:=(f:Int)) A c1 y1 hbf hbtop c2 (i:=i) (by omega) (by omega) c4 (c7 i (by omega)) c3 c5;rw[ei];refine⟨_,s,acur',out',by rw[ei'],d1,d2,d3,d4.trans c4,?_,d6.trans c6,λj hj=>?_⟩
  ·rw[show L-(m+2)-(t+1)=i by omega]; exact d5
  ·rw[d7 j (by omega)]; exact c7 j (by omega)
 ·rintro y ⟨acur,out,rfl,c1,c2,c3,c4,c5,c6,c7⟩;rw[Nat.sub_self,aH3,Int.one_mul]at c5;have e1:ltI (((L-(m+2):Nat):Int)-1-((L-(m+2):Nat):Int)) 0=true:=by rw[aE]; exact oT (by omega)
  exact⟨_,by simp only[dT,e1,Bool.not_true,oD],acur,out,rfl,c1,c2,c3,c4,c5,c6⟩
theorem RJ(a b:Nat):Lib.nDigits (a+b)<=max (Lib.nDigits a) (Lib.nDigits b)+1:=by
 have h1:=jJ a;have h2:=jJ b;have h3:10^Lib.nDigits a<=10^max (Lib.nDigits a) (Lib.nDigits b):=Nat.pow_le_pow_right (by decide) (by omega);have h4:10^Lib.nDigits b<=10^max (Lib.nDigits a) (Lib.nDigits b):=Nat.pow_le_pow_right (by decide) (by omega);refine uD ?_;rw[Nat.pow_succ];omega
theorem aD1(a b:Nat):Lib.nDigits (a*b)<=Lib.nDigits a+Lib.nDigits b:=by
 have p1:=nDigits_pos a;obtain⟨k,hk⟩:∃ k,Lib.nDigits a+Lib.nDigits b=k+1:=⟨Lib.nDigits a+Lib.nDigits b-1,by omega⟩;rw[hk];refine uD ?_;rw[<- hk,Nat.pow_add];exact Nat.mul_lt_mul'' (jJ a) (jJ b)
theorem aE3 {a b:Nat}(h:18<Lib.nDigits a\/18<Lib.nDigits b):rI (Dn a,Dn b,())=some (0,0,false,()):=by
 unfold rI;simp only[EK,aE]
 by_cases h1:18<Lib.nDigits a
 ·rw[oT (show (18:Int)<(Lib.nDigits a:Int)by omega)]; rfl
 ·rw[oF (show ¬ (18:Int)<(Lib.nDigits a:Int)by omega),oT (show (18:Int)<(Lib.nDigits b:Int)by omega)]; rfl
theorem YQ {u:Nat}(hu:Lib.nDigits u<=1000000):(pcs u).length<=111112:=by
 have:=aBM hu;omega
theorem aQ2(u:Nat):vl (pcs u++[0])=u:=by rw[GX,(gW u).2.2]; simp[vl]
theorem aSU(u:Nat):Pc (pcs u++[0]):=(gW u).1.append (λx hx=>by rw[List.mem_singleton.1 hx]; decide)
theorem aY6(u k:Nat):vl (pcs u++List.replicate k 0)=u:=by rw[GX,(gW u).2.2,WI]; simp
theorem a2B(u k:Nat):Pc (pcs u++List.replicate k 0):=(gW u).1.append (Pc.rep k)
theorem a0U {a b k:Nat} (h:(pcs b).length+k=(pcs a).length) (hl:(pcs a).length<=1048576) :
  ∃ l,SY (t:=.int .u64) cH (pcs a++[0]) (pcs b++List.replicate k 0,0,())=some l/\l.length<=1048577/\zZ l=pcs (a+b):=by
 have hq:=a2B b k;have hp:=aSU a;have hql:(pcs b++List.replicate k (0:Int)).length=(pcs a).length:=by simp; omega
 have hpl:(pcs a++[(0:Int)]).length=(pcs a).length+1:=by simp
 have be:=back_eq (at':=0) hp hq (by omega) (by omega);have bi:=bkI hp hq (at':=0) (by omega) ((pcs b++List.replicate k 0).length+1) (oM _);refine⟨_,be,by rw[bi.len]; omega,HA bi.pc ?_⟩;have hv:=bi.val;rw[List.take_of_length_le (by omega),aQ2,aY6,hql,aH3,Int.one_mul]at hv;have hn:=LX bi.pc;rw[bi.len,hpl]at hn;have n0:=qX bi.pc;have ha:=aIG a;have hb:=aIG b;have hb2:1000000000^(pcs b).length<=1000000000^(pcs a).length:=Nat.pow_le_pow_right (by decide) (by omega)
 have e2:pw (0+((pcs a).length+1))=1000000000*((1000000000^(pcs a).length:Nat):Int):=by rw[Nat.zero_add,FZ,aU1]
 rw[e2]at hv;rw[hql]at n0 hn ⊢;rcases bi.ca with hc|hc
 ·rw[hql]at hc;rw[hc,Int.zero_mul]at hv;rw[hv]; omega
 ·rw[hql]at hc;rw[hc,Int.one_mul]at hv;omega
theorem N0(a b:Nat)(ha:Lib.nDigits a<=900000)(hb:Lib.nDigits b<=900000):eW (Dn a,Dn b,())=some (Dn (a+b),()):=by
 by_cases hs:Lib.nDigits a<=18/\Lib.nDigits b<=18
 ·exact aSI a b hs.1 hs.2
 ·have hba:=aE3 (a:=a) (b:=b) (by omega);have ca:=YT a (by omega) [];have cb:=YT b (by omega) [];have la:=YQ (u:=a) (by omega);have lb:=YQ (u:=b) (by omega);have hsum:=RJ a b;have tx:=aDI (a+b) (by omega);have w7:Nat.ble [(0:Int)].length 1048576=true:=rfl;have long:∀ x y:Nat,(pcs y).length<=(pcs x).length->(pcs x).length<=111112->x+y=a+b->(bif Nat.ble [0].length 1048576 then bif Nat.ble (pcs x).length 1048576 then bif !(ltI (aB .i64 ((aB .i64 (((pcs x++[0]).length:Int)-1))-((pcs y).length:Int))) 0) then bif !(ltI 1048576 (aB .i64 ((aB .i64 (((pcs x++[0]).length:Int)-1))-((pcs y).length:Int)))) then bif Nat.ble (pcs y).length 1048576 then aC (SY (t:=(.int .u64)) cH (pcs x++[0]) ((pcs y++List.replicate (aB .i64 ((aB .i64 (((pcs x++[0]).length:Int)-1))-((pcs y).length:Int))).toNat (0:Ty.den (.int .u64))),0,())) λy8 =>
    aC (aX y8 (()) []) λy9 =>
    aC (bL (y9.1,())) λy10 =>
    some (y10.1,()) else none else none else none else none else none)=some (Dn (a+b),()):=by
   intro x y h1 h2 h3;obtain⟨k,hk⟩:∃ k,(pcs y).length+k=(pcs x).length:=⟨(pcs x).length-(pcs y).length,by omega⟩;obtain⟨l,l1,l2,l3⟩:=a0U hk (by omega);have e0:((pcs x++[0]).length:Int)=((pcs x).length:Int)+1:=by simp
   have e1:aB .i64 (aB .i64 (((pcs x).length:Int)+1-1)-((pcs y).length:Int))=(k:Int):=by rw[wrap64 (x:=((pcs x).length:Int)+1-1) (by omega) (by omega),wrap64 (by omega) (by omega)]; omega
   have e2:ltI (k:Int) 0=false:=by rw[aE]; exact oF (by omega)
   have e3:ltI 1048576 (k:Int)=false:=by rw[aE]; exact oF (by omega)
   have e4:Nat.ble (pcs x).length 1048576=true:=by rw[dN]; exact oT (by omega)
   have e5:Nat.ble (pcs y).length 1048576=true:=by rw[dN]; exact oT (by omega)
   have e6:Nat.ble [(0:Nat)].length 1048576=true:=rfl;rw[h3]at l3;rw[e0,e1,e2,e3,e4,e5,oN];show (aC (SY (t:=(.int .u64)) cH (pcs x++[0]) (pcs y++List.replicate k 0,0,())) _)=_;rw[l1,aD,VP (by omega),l3,aD];show (aC (bL (pcs (a+b),())) _)=_;rw[tx,aD]
  unfold eW;simp only[hba,aD,oD,ca,cb,aE (((pcs a).length:Nat):Int) ((pcs b).length:Int)]
  by_cases h:((pcs a).length:Int)<(pcs b).length
  ·rw[oT h];exact long b a (by omega) lb (Nat.add_comm b a)
  ·rw[oF h];exact long a b (by omega) la rfl
theorem a00 {a b k:Nat}(hab:b<=a)(h:(pcs b).length+k=(pcs a).length)(hl:(pcs a).length<=1048576) :
  ∃ c l,YS (t:=.int .u64) (rets:=[.bool]) dL (pcs a++[0]) (pcs b++List.replicate k 0,1,0,())=some (c,l)/\l.length<=1048577/\zZ l=pcs (a-b):=by
 have hq:=a2B b k;have hp:=aSU a;have hql:(pcs b++List.replicate k (0:Int)).length=(pcs a).length:=by simp; omega
 have hpl:(pcs a++[(0:Int)]).length=(pcs a).length+1:=by simp
 have te:=aVT (n:=1) (at':=0) hp hq (by omega) (by omega) (by omega);have ti:=tkI hp hq (n:=1) (at':=0) (by omega) (by omega) ((pcs b++List.replicate k 0).length+1) (oM _);refine⟨_,_,te,by rw[ti.len]; omega,HA ti.pc ?_⟩;have hv:=ti.val;have hfin:=ti.fin (by omega);rw[List.take_of_length_le (by omega),aQ2,aY6,hfin,Int.add_zero,hql,aH3]at hv;have hn:=LX ti.pc;rw[ti.len,hpl]at hn;have n0:=qX ti.pc;have e2:pw (0+((pcs a).length+1))=pw ((pcs a).length+1):=by rw[Nat.zero_add]
 rw[e2]at hv;rw[hql]at n0 hn ⊢;rcases ti.bo with hc|hc
 ·rw[hql]at hc;rw[hc]at hv;rw[hv]; omega
 ·rw[hql]at hc;rw[hc]at hv;omega
theorem EN(a b:Nat)(ha:Lib.nDigits a<=900000)(hb:Lib.nDigits b<=900000)(h:b<=a):cP (Dn a,Dn b,())=some (Dn (a-b),0,()):=by
 by_cases hs:Lib.nDigits a<=18/\Lib.nDigits b<=18
 ·exact aSL a b hs.1 hs.2 h
 ·have hba:=aE3 (a:=a) (b:=b) (by omega);have ca:=YT a (by omega) [];have cb:=YT b (by omega) [];have la:=YQ (u:=a) (by omega);have lb:=YQ (u:=b) (by omega);have hd:=xI (show a-b<=a by omega);have tx:=aDI (a-b) (by omega);have hmono:=TE h;have e:ltI (aAC a b) 0=false:=by
   rw[aE]; unfold aAC;rw[if_neg (by omega)];split <;> rfl
  obtain⟨k,hk⟩:∃ k,(pcs b).length+k=(pcs a).length:=⟨(pcs a).length-(pcs b).length,by omega⟩;obtain⟨c,l,l1,l2,l3⟩:=a00 h hk (by omega);have e0:((pcs a++[0]).length:Int)=((pcs a).length:Int)+1:=by simp
  have e1:aB .i64 (aB .i64 (((pcs a).length:Int)+1-1)-((pcs b).length:Int))=(k:Int):=by rw[wrap64 (x:=((pcs a).length:Int)+1-1) (by omega) (by omega),wrap64 (by omega) (by omega)]; omega
  have e2:ltI (k:Int) 0=false:=by rw[aE]; exact oF (by omega)
  have e3:ltI 1048576 (k:Int)=false:=by rw[aE]; exact oF (by omega)
  have e4:Nat.ble (pcs a).length 1048576=true:=by rw[dN]; exact oT (by omega)
  have e5:Nat.ble (pcs b).length 1048576=true:=by rw[dN]; exact oT (by omega)
  unfold cP;simp only[vU a b (by omega) (by omega),e,hba,aD,oD,ca,cb];rw[e0,e1,e2,e3,e4,e5,oN];show (aC (YS (t:=(.int .u64)) (rets:=[.bool]) dL (pcs a++[0]) (pcs b++List.replicate k 0,1,0,())) _)=_;rw[l1,aD];show (aC (aX l () []) _)=_;rw[VP (by omega),l3,aD];show (aC (bL (pcs (a-b),())) _)=_;rw[tx,aD]
theorem aOO(a b:Nat)(h:Lib.nDigits a+Lib.nDigits b<=900000):eX (Dn a,Dn b,())=some (Dn (a*b),()):=by
 by_cases hs:Lib.nDigits a+Lib.nDigits b<=18
 ·exact aSX a b hs
 ·have ca:=YT a (by omega) [];have cb:=YT b (by omega) [];have la:=YQ (u:=a) (by omega);have lb:=YQ (u:=b) (by omega);have hm:=aD1 a b;have tx:=aDI (a*b) (by omega);have tm:=aR2 a b (by omega) [];have e1:aB .i64 ((Lib.nDigits a:Int)+(Lib.nDigits b:Int))=(Lib.nDigits a:Int)+(Lib.nDigits b:Int):=wrap64 (by omega) (by omega);have e2:ltI 18 ((Lib.nDigits a:Int)+(Lib.nDigits b:Int))=true:=by rw[aE]; exact oT (by omega)
  unfold eX;simp only[EK,e1,e2,Bool.not_true,oD,ca,cb,aD,tm,tx]
theorem aG2(a b:Nat)(ha:Lib.nDigits a<=900000)(hb:Lib.nDigits b<=900000)(h:b≠0):mV (Dn a,Dn b,())=some (Dn (a/b),Dn (a%b),0,()):=by
 by_cases hs:Lib.nDigits a<=18/\Lib.nDigits b<=18
 ·exact aIP a b hs.1 hs.2 h
 ·have hba:=aE3 (a:=a) (b:=b) (by omega);have ca:=YT a (by omega) [];have cb:=YT b (by omega) [];have la:=YQ (u:=a) (by omega);have lb:=YQ (u:=b) (by omega);have cp:=aTD a b (by omega) (by omega);have nq:=xI (Nat.div_le_self a b);have nr:=xI (Nat.mod_le a b);have tq:=aDI (a/b) (by omega);have tr:=aDI (a%b) (by omega);have hd0:eqS (Dn b) (ByteArray.mk #[48])=false:=by rw[aHV]; exact oF h
  unfold mV;simp only[hd0,oD,hba,aD,ca,cb,cp]
  by_cases hlt:a<b
  ·rw[if_pos hlt];have:ltI (-1) 0=true:=rfl;rw[this,Nat.div_eq_of_lt hlt,Nat.mod_eq_of_lt hlt,<- a5V];rfl
  ·rw[if_neg hlt];have e1:ltI (if b<a then (1:Int) else 0) 0=false:=by
    rw[aE]; refine oF ?_;split <;> omega
   rw[e1,oD]
   by_cases h1:(pcs b).length=1
   ·have hbB:b<1000000000:=by have:=aIG b; rw[h1]at this; simpa using this
    have e2:eqI ((pcs b).length:Int) 1=true:=by rw[fP]; exact oT (by omega)
    have e3:aF 0 (pcs b).length=true:=by rw[aM]; exact oT (by omega)
    have e4:Nat.blt 0 (pcs b).length=true:=by rw[cD]; exact oT (by omega)
    have e5:(pcs b).getD 0 0=(b:Int):=by rw[aJ6]; simp; omega
    have sm:=aSR a (n:=b) ⟨by omega,hbB⟩ (by omega) [];have hr:a%b<b:=Nat.mod_lt _ (by omega);rw[e2,e3,e4,e5];show (aC (dV () (pcs a,(b:Int),()) []) _)=_;rw[sm,aD];show (aC (bL (pcs (a/b),())) _)=_;rw[tq,aD];show (aC (tO (((a%b:Nat):Int),())) _)=_;rw[J4 _ (by omega),aD]
   ·have h0:0<(pcs b).length:=by rw[aD0 h]; simp
    have e2:eqI ((pcs b).length:Int) 1=false:=by rw[fP]; exact oF (by omega)
    have dv:=aYH a b (by omega) (by omega) (by omega) [];rw[e2];show (aC (eP () (pcs a,pcs b,()) []) _)=_;rw[dv,aD];show (aC (bL (pcs (a/b),())) _)=_;rw[tq,aD];show (aC (bL (pcs (a%b),())) _)=_;rw[tr,aD]
theorem aID(x y:Int) (hx:Lib.nDigits x.natAbs<=400000) (hy:Lib.nDigits y.natAbs<=400000):P8 (Zn x,Zn y,())=some (Zn (x+y),()):=by
 have slow:(aC (cG (Zn x,())) λy4=>aC (cG (Zn y,())) λy5 =>
   bif y4.1 then
    bif y5.1 then
     aC (eW (y4.2.1,y5.2.1,())) λy6 =>
     aC (aA (y4.1,y6.1,())) λy7 =>
     some (y7.1,())
    else aC (fJ (y4.2.1,y5.2.1,())) λy8 =>
    bif ltI y8.1 0 then
     aC (cP (y5.2.1,y4.2.1,())) λy9 =>
     aC (aA (y5.1,y9.1,())) λy10 =>
     some (y10.1,())
    else aC (cP (y4.2.1,y5.2.1,())) λy11 =>
    aC (aA (y4.1,y11.1,())) λy12 =>
    some (y12.1,())
   else bif y5.1 then
    aC (fJ (y4.2.1,y5.2.1,())) λy13 =>
    bif ltI y13.1 0 then
     aC (cP (y5.2.1,y4.2.1,())) λy14 =>
     aC (aA (y5.1,y14.1,())) λy15 =>
     some (y15.1,())
    else aC (cP (y4.2.1,y5.2.1,())) λy16 =>
    aC (aA (y4.1,y16.1,())) λy17 =>
    some (y17.1,())
   else aC (eW (y4.2.1,y5.2.1,())) λy18 =>
   aC (aA (y4.1,y18.1,())) λy19 =>
   some (y19.1,()))=some (Zn (x+y),()):=by
  simp only[tT x,tT y,aD];have dg:∀ u:Nat,u<=x.natAbs+y.natAbs->Lib.nDigits u<2^32:=λu hu=>by
   have h1:=xI hu;have h2:=RJ x.natAbs y.natAbs;omega
  have cm:∀ a b:Nat,ltI (aAC a b) 0=decide (a<b):=λa b=>by
   rw[aE]; unfold aAC
   by_cases g:a<b
   ·simp[g]
   ·simp only[g,if_false]; split <;> simp
  rcases(by omega:x<0\/0<=x)with gx|gx
  ·rcases(by omega:y<0\/0<=y)with gy|gy
   ·simp only[gx,gy,decide_true,oC,N0 _ _ (oR hx (by decide)) (oR hy (by decide)),aD,nY (x.natAbs+y.natAbs) (dg _ (by omega))];have : -((x.natAbs+y.natAbs:Nat):Int)=x+y:=by omega
    rw[this]
   ·have gy':¬ y<0:=by omega
    simp only[gx,gy',decide_true,decide_false,oC,oD,vU x.natAbs y.natAbs (by omega) (by omega),aD,cm]
    by_cases g:x.natAbs<y.natAbs
    ·simp only[g,decide_true,oC,EN _ _ (oR hy (by decide)) (oR hx (by decide)) (Nat.le_of_lt g),aD,rO (y.natAbs-x.natAbs) (dg _ (by omega))];have:((y.natAbs-x.natAbs:Nat):Int)=x+y:=by omega
     rw[this]
    ·simp only[g,decide_false,oD,EN _ _ (oR hx (by decide)) (oR hy (by decide)) (Nat.not_lt.1 g),aD,nY (x.natAbs-y.natAbs) (dg _ (by omega))];have : -((x.natAbs-y.natAbs:Nat):Int)=x+y:=by omega
     rw[this]
  ·have gx':¬ x<0:=by omega
   rcases(by omega:y<0\/0<=y)with gy|gy
   ·simp only[gx',gy,decide_true,decide_false,oC,oD,vU x.natAbs y.natAbs (by omega) (by omega),aD,cm]
    by_cases g:x.natAbs<y.natAbs
    ·simp only[g,decide_true,oC,EN _ _ (oR hy (by decide)) (oR hx (by decide)) (Nat.le_of_lt g),aD,nY (y.natAbs-x.natAbs) (dg _ (by omega))];have : -((y.natAbs-x.natAbs:Nat):Int)=x+y:=by omega
     rw[this]
    ·simp only[g,decide_false,oD,EN _ _ (oR hx (by decide)) (oR hy (by decide)) (Nat.not_lt.1 g),aD,rO (x.natAbs-y.natAbs) (dg _ (by omega))];have:((x.natAbs-y.natAbs:Nat):Int)=x+y:=by omega
     rw[this]
   ·have gy':¬ y<0:=by omega
    simp only[gx',gy',decide_false,oD,N0 _ _ (oR hx (by decide)) (oR hy (by decide)),aD,rO (x.natAbs+y.natAbs) (dg _ (by omega))];have:((x.natAbs+y.natAbs:Nat):Int)=x+y:=by omega
    rw[this]
 unfold P8;simp only[EP x 18 (by decide),EP y 18 (by decide),aD]
 by_cases g1:((Zn x).size:Int)<=18
 ·simp only[g1,if_true,aD,oC]
  by_cases g2:((Zn y).size:Int)<=18
  ·have h1:=XZ (JJ (k:=18) g1);have h2:=XZ (JJ (k:=18) g2);simp only[g2,if_true,aD,oC];rw[wrap64 (by omega) (by omega),uM _ (by omega) (by omega)];rfl
  ·simp only[g2,if_false,aD,oD];exact slow
 ·simp only[g1,if_false,aD,oD];exact slow
theorem aTV(x y:Int)(hx:Lib.nDigits x.natAbs<=400000)(hy:Lib.nDigits y.natAbs<=400000):P3 (Zn x,Zn y,())=some (Zn (x-y),()):=by
 unfold P3;simp only[aL8 y (by omega),aD];rw[aID x (-y) hx (by rw[Int.natAbs_neg]; exact hy)];rfl
theorem aKV(x y:Int) (h:Lib.nDigits x.natAbs+Lib.nDigits y.natAbs<=400000):JK (Zn x,Zn y,())=some (Zn (x*y),()):=by
 have p1:=nDigits_pos x.natAbs;have p2:=nDigits_pos y.natAbs;have hab:(x*y).natAbs=x.natAbs*y.natAbs:=Int.natAbs_mul _ _;have slow:(aC (cG ((Zn x),())) λy14 =>
  aC (cG ((Zn y),())) λy15 =>
  bif y14.1 then
   bif y15.1 then
    aC (eX (y14.2.1,y15.2.1,())) λy16 =>
    aC (aA (false,y16.1,())) λy17 =>
    some (y17.1,())
   else aC (eX (y14.2.1,y15.2.1,())) λy18 =>
   aC (aA (true,y18.1,())) λy19 =>
   some (y19.1,())
  else bif y15.1 then
   aC (eX (y14.2.1,y15.2.1,())) λy20 =>
   aC (aA (true,y20.1,())) λy21 =>
   some (y21.1,())
  else aC (eX (y14.2.1,y15.2.1,())) λy22 =>
  aC (aA (false,y22.1,())) λy23 =>
  some (y23.1,()))=some (Zn (x*y),()):=by
  have dg:Lib.nDigits (x.natAbs*y.natAbs)<2^32:=by
   have:=aD1 x.natAbs y.natAbs;omega
  have dm:=aOO _ _ (oR h (by decide));simp only[tT x,tT y,aD,dm];rcases(by omega:x<0\/0<=x)with gx|gx
  ·rcases(by omega:y<0\/0<=y)with gy|gy
   ·have:((x.natAbs*y.natAbs:Nat):Int)=x*y:=by
     rw[<- hab]; have:=Int.mul_pos_of_neg_of_neg gx gy; omega
    simp only[gx,gy,decide_true,oC,rO _ dg,aD,this]
   ·have gy':¬ y<0:=by omega
    have : -((x.natAbs*y.natAbs:Nat):Int)=x*y:=by rw[<- hab]; have:=Int.mul_nonpos_of_nonpos_of_nonneg (Int.le_of_lt gx) gy; omega
    simp only[gx,gy',decide_true,decide_false,oC,oD,nY _ dg,aD,this]
  ·have gx':¬ x<0:=by omega
   rcases(by omega:y<0\/0<=y)with gy|gy
   ·have : -((x.natAbs*y.natAbs:Nat):Int)=x*y:=by
     rw[<- hab]; have:=Int.mul_nonpos_of_nonneg_of_nonpos gx (Int.le_of_lt gy); omega
    simp only[gx',gy,decide_true,decide_false,oC,oD,nY _ dg,aD,this]
   ·have gy':¬ y<0:=by omega
    have:((x.natAbs*y.natAbs:Nat):Int)=x*y:=by rw[<- hab]; have:=Int.mul_nonneg gx gy; omega
    simp only[gx',gy',decide_false,oD,rO _ dg,aD,this]
 unfold JK;simp only[EP x 9 (by decide),EP y 9 (by decide),aD]
 by_cases g1:((Zn x).size:Int)<=9
 ·simp only[g1,if_true,aD,oC]
  by_cases g2:((Zn y).size:Int)<=9
  ·have h1:=jJ x.natAbs;have h2:=jJ y.natAbs;have h3:=JJ (k:=9) g1;have h4:=JJ (k:=9) g2;have hb:x.natAbs*y.natAbs<1000000000000000000:=by
    have h5:x.natAbs*y.natAbs<10^Lib.nDigits x.natAbs*10^Lib.nDigits y.natAbs:=Nat.mul_lt_mul'' h1 h2;rw[<- Nat.pow_add]at h5;have h6:10^(Lib.nDigits x.natAbs+Lib.nDigits y.natAbs)<=10^18:=Nat.pow_le_pow_right (by decide) (by omega);have h7:(10:Nat)^18=1000000000000000000:=by decide
    omega
   simp only[g2,if_true,aD,oC];rw[wrap64 (by omega) (by omega),uM _ (by omega) (by omega)];rfl
  ·simp only[g2,if_false,aD,oD];exact slow
 ·simp only[g1,if_false,aD,oD];exact slow
theorem aAY(x y:Int) (hx:Lib.nDigits x.natAbs<=400000) (hy:Lib.nDigits y.natAbs<=400000) (h0:y≠0):BR (Zn x,Zn y,())=some (Zn (x.fdiv y),Zn (x.fmod y),0,()):=by
 have slow:(aC (cG ((Zn x),())) λy68 =>
  aC (cG ((Zn y),())) λy69 =>
  aC (mV (y68.2.1,y69.2.1,())) λy70 =>
  bif !(eqI y70.2.2.1 0) then
   some ((ByteArray.mk #[]),(ByteArray.mk #[]),y70.2.2.1,())
  else bif y68.1 then
   bif y69.1 then
    bif y68.1 then
     bif y69.1 then
      aC (aA (false,y70.1,())) λy71 =>
      aC (aA (y69.1,y70.2.1,())) λy72 =>
      some (y71.1,y72.1,0,())
     else aC (aA (true,y70.1,())) λy73 =>
     aC (aA (y69.1,y70.2.1,())) λy74 =>
     some (y73.1,y74.1,0,())
    else bif y69.1 then
     aC (aA (true,y70.1,())) λy75 =>
     aC (aA (y69.1,y70.2.1,())) λy76 =>
     some (y75.1,y76.1,0,())
    else aC (aA (false,y70.1,())) λy77 =>
    aC (aA (y69.1,y70.2.1,())) λy78 =>
    some (y77.1,y78.1,0,())
   else bif !(eqS y70.2.1 (ByteArray.mk #[48])) then
    aC (eW (y70.1,(ByteArray.mk #[49]),())) λy79 =>
    aC (cP (y69.2.1,y70.2.1,())) λy80 =>
    bif y68.1 then
     bif y69.1 then
      aC (aA (false,y79.1,())) λy81 =>
      aC (aA (y69.1,y80.1,())) λy82 =>
      some (y81.1,y82.1,0,())
     else aC (aA (true,y79.1,())) λy83 =>
     aC (aA (y69.1,y80.1,())) λy84 =>
     some (y83.1,y84.1,0,())
    else bif y69.1 then
     aC (aA (true,y79.1,())) λy85 =>
     aC (aA (y69.1,y80.1,())) λy86 =>
     some (y85.1,y86.1,0,())
    else aC (aA (false,y79.1,())) λy87 =>
    aC (aA (y69.1,y80.1,())) λy88 =>
    some (y87.1,y88.1,0,())
   else bif y68.1 then
    bif y69.1 then
     aC (aA (false,y70.1,())) λy89 =>
     aC (aA (y69.1,y70.2.1,())) λy90 =>
     some (y89.1,y90.1,0,())
    else aC (aA (true,y70.1,())) λy91 =>
    aC (aA (y69.1,y70.2.1,())) λy92 =>
    some (y91.1,y92.1,0,())
   else bif y69.1 then
    aC (aA (true,y70.1,())) λy93 =>
    aC (aA (y69.1,y70.2.1,())) λy94 =>
    some (y93.1,y94.1,0,())
   else aC (aA (false,y70.1,())) λy95 =>
   aC (aA (y69.1,y70.2.1,())) λy96 =>
   some (y95.1,y96.1,0,())
  else bif y69.1 then
   bif !(eqS y70.2.1 (ByteArray.mk #[48])) then
    aC (eW (y70.1,(ByteArray.mk #[49]),())) λy97 =>
    aC (cP (y69.2.1,y70.2.1,())) λy98 =>
    bif y68.1 then
     bif y69.1 then
      aC (aA (false,y97.1,())) λy99 =>
      aC (aA (y69.1,y98.1,())) λy100 =>
      some (y99.1,y100.1,0,())
     else aC (aA (true,y97.1,())) λy101 =>
     aC (aA (y69.1,y98.1,())) λy102 =>
     some (y101.1,y102.1,0,())
    else bif y69.1 then
     aC (aA (true,y97.1,())) λy103 =>
     aC (aA (y69.1,y98.1,())) λy104 =>
     some (y103.1,y104.1,0,())
    else aC (aA (false,y97.1,())) λy105 =>
    aC (aA (y69.1,y98.1,())) λy106 =>
    some (y105.1,y106.1,0,())
   else bif y68.1 then
    bif y69.1 then
     aC (aA (false,y70.1,())) λy107 =>
     aC (aA (y69.1,y70.2.1,())) λy108 =>
     some (y107.1,y108.1,0,())
    else aC (aA (true,y70.1,())) λy109 =>
    aC (aA (y69.1,y70.2.1,())) λy110 =>
    some (y109.1,y110.1,0,())
   else bif y69.1 then
    aC (aA (true,y70.1,())) λy111 =>
    aC (aA (y69.1,y70.2.1,())) λy112 =>
    some (y111.1,y112.1,0,())
   else aC (aA (false,y70.1,())) λy113 =>
   aC (aA (y69.1,y70.2.1,())) λy114 =>
   some (y113.1,y114.1,0,())
  else bif y68.1 then
   bif y69.1 then
    aC (aA (false,y70.1,())) λy115 =>
    aC (aA (y69.1,y70.2.1,())) λy116 =>
    some (y115.1,y116.1,0,())
   else aC (aA (true,y70.1,())) λy117 =>
   aC (aA (y69.1,y70.2.1,())) λy118 =>
   some (y117.1,y118.1,0,())
  else bif y69.1 then
   aC (aA (true,y70.1,())) λy119 =>
   aC (aA (y69.1,y70.2.1,())) λy120 =>
   some (y119.1,y120.1,0,())
  else aC (aA (false,y70.1,())) λy121 =>
  aC (aA (y69.1,y70.2.1,())) λy122 =>
  some (y121.1,y122.1,0,()))=some (Zn (x.fdiv y),Zn (x.fmod y),0,()):=by
  have dm:=aG2 _ _ (oR hx (by decide)) (oR hy (by decide)) (show y.natAbs≠0 by omega);have ed:x.natAbs=y.natAbs*(x.natAbs/y.natAbs)+x.natAbs%y.natAbs:=(Nat.div_add_mod _ _).symm;have lm:x.natAbs%y.natAbs<y.natAbs:=Nat.mod_lt _ (by omega);have lq:x.natAbs/y.natAbs<=x.natAbs:=Nat.div_le_self _ _;have e00:eqI 0 0=true:=by decide
  simp only[tT x,tT y,aD,dm,e00,Bool.not_true,oD,aHV,a7R];generalize x.natAbs/y.natAbs=q at *;generalize x.natAbs%y.natAbs=r at *;have dg:∀ u:Nat,u<=x.natAbs+y.natAbs+1->Lib.nDigits u<2^32:=λu hu=>by
   have h1:=xI hu;have h2:=RJ x.natAbs y.natAbs;have h3:=RJ (x.natAbs+y.natAbs) 1;have h4:Lib.nDigits 1=1:=Lib.nDigits_small (by decide);omega
  have d18:∀ u:Nat,u<=x.natAbs\/u<=y.natAbs->Lib.nDigits u<=900000:=λu hu=>by
   rcases hu with h|h
   ·have:=xI h; omega
   ·have:=xI h; omega
  have edI:(x.natAbs:Int)=(y.natAbs:Int)*(q:Int)+(r:Int):=by rw[ed]; simp
  rcases(by omega:x<0\/0<=x)with gx|gx
  ·rcases(by omega:y<0\/0<=y)with gy|gy
   ·simp only[gx,gy,decide_true,oC,rO q (dg _ (by omega)),nY r (dg _ (by omega)),aD];have ex:x=y*(q:Int) + -(r:Int):=by
     have a1:(x.natAbs:Int) = -x:=by omega
     have a2:(y.natAbs:Int) = -y:=by omega
     rw[a1,a2]at edI;grind
    obtain⟨u1,u2⟩:=pK ex (by omega) (by omega) h0;rw[u1,u2]
   ·have gy':¬ y<0:=by omega
    by_cases hr:r=0
    ·simp only[gx,gy',hr,decide_true,decide_false,Bool.not_true,oC,oD,nY q (dg _ (by omega)),rO 0 (dg _ (by omega)),aD];have ex:x=y * -(q:Int)+((0:Nat):Int):=by
      have a1:(x.natAbs:Int) = -x:=by omega
      have a2:(y.natAbs:Int)=y:=by omega
      rw[a1,a2,hr]at edI;grind
     obtain⟨u1,u2⟩:=pK ex (by omega) (by omega) h0;rw[u1,u2]
    ·simp only[gx,gy',hr,decide_true,decide_false,Bool.not_false,Bool.not_true,oC,oD,N0 q 1 (d18 _ (by omega)) (d18 _ (by omega)),EN y.natAbs r (oR hy (by decide)) (d18 _ (by omega)) (Nat.le_of_lt lm),nY (q+1) (dg _ (by omega)),rO (y.natAbs-r) (dg _ (by omega)),aD];have ex:x=y * -((q+1:Nat):Int)+((y.natAbs-r:Nat):Int):=by
      have a1:(x.natAbs:Int) = -x:=by omega
      have a2:(y.natAbs:Int)=y:=by omega
      have a3:((y.natAbs-r:Nat):Int)=y-r:=by omega
      have a4:((q+1:Nat):Int)=(q:Int)+1:=by omega
      rw[a1,a2]at edI;rw[a3,a4];grind
     obtain⟨u1,u2⟩:=pK ex (by omega) (by omega) h0;rw[u1,u2]
  ·have gx':¬ x<0:=by omega
   rcases(by omega:y<0\/0<=y)with gy|gy
   ·by_cases hr:r=0
    ·simp only[gx',gy,hr,decide_true,decide_false,Bool.not_true,oC,oD,nY q (dg _ (by omega)),nY 0 (dg _ (by omega)),aD];have ex:x=y * -(q:Int) + -((0:Nat):Int):=by
      have a1:(x.natAbs:Int)=x:=by omega
      have a2:(y.natAbs:Int) = -y:=by omega
      rw[a1,a2,hr]at edI;grind
     obtain⟨u1,u2⟩:=pK ex (by omega) (by omega) h0;rw[u1,u2]
    ·simp only[gx',gy,hr,decide_true,decide_false,Bool.not_false,Bool.not_true,oC,oD,N0 q 1 (d18 _ (by omega)) (d18 _ (by omega)),EN y.natAbs r (oR hy (by decide)) (d18 _ (by omega)) (Nat.le_of_lt lm),nY (q+1) (dg _ (by omega)),nY (y.natAbs-r) (dg _ (by omega)),aD];have ex:x=y * -((q+1:Nat):Int) + -((y.natAbs-r:Nat):Int):=by
      have a1:(x.natAbs:Int)=x:=by omega
      have a2:(y.natAbs:Int) = -y:=by omega
      have a3:((y.natAbs-r:Nat):Int) = -y-r:=by omega
      have a4:((q+1:Nat):Int)=(q:Int)+1:=by omega
      rw[a1,a2]at edI;rw[a3,a4];grind
     obtain⟨u1,u2⟩:=pK ex (by omega) (by omega) h0;rw[u1,u2]
   ·have gy':¬ y<0:=by omega
    simp only[gx',gy',decide_true,decide_false,oD,rO q (dg _ (by omega)),rO r (dg _ (by omega)),aD];have ex:x=y*(q:Int)+(r:Int):=by
     have a1:(x.natAbs:Int)=x:=by omega
     have a2:(y.natAbs:Int)=y:=by omega
     rw[a1,a2]at edI;exact edI
    obtain⟨u1,u2⟩:=pK ex (by omega) (by omega) h0;rw[u1,u2]
 unfold BR;simp only[EP x 18 (by decide),EP y 18 (by decide),aD,NW,h0,decide_false,oD]
 by_cases g1:((Zn x).size:Int)<=18
 ·simp only[g1,if_true,aD,oC]
  by_cases g2:((Zn y).size:Int)<=18
  ·have b1:=XZ (JJ (k:=18) g1);have b2:=XZ (JJ (k:=18) g2);simp only[g2,if_true,aD,oC];have e1:eqI y 0=false:=by rw[fP]; simp[h0]
   have t1:x=y*x.tdiv y+x.tmod y:=(Int.mul_tdiv_add_tmod x y).symm;have t2:(x.tmod y).natAbs<y.natAbs:=by rw[Int.natAbs_tmod]; exact Nat.mod_lt _ (by omega)
   have t3:(x.tdiv y).natAbs<=x.natAbs:=by rw[Int.natAbs_tdiv]; exact Nat.div_le_self _ _
   have t4:0<=x->0<=x.tmod y:=λh=>Int.tmod_nonneg y h
   have t5:x<=0->x.tmod y<=0:=λh=>by
    have:=Int.tmod_nonneg (a:=-x) y (by omega);rw[Int.neg_tmod]at this;omega
   simp only[e1,oD,fP,aE];generalize x.tdiv y=q at *;generalize x.tmod y=r at *
   by_cases hr:r=0
   ·obtain⟨u1,u2⟩:=pK (x:=x) (y:=y) (f:=q) (g:=r) t1 (by omega) (by omega) h0;simp only[hr,decide_true,Bool.not_true,oD];rw[wrap64 (by omega) (by omega),uM _ (by omega) (by omega),aD,uM _ (by omega) (by omega),aD,u1,u2,hr]
   ·simp only[hr,decide_false,Bool.not_false,oC]
    by_cases r1:r<0
    ·by_cases y1:y<0
     ·obtain⟨u1,u2⟩:=pK (x:=x) (y:=y) (f:=q) (g:=r) t1 (by omega) (by omega) h0;simp only[r1,y1,decide_true,oC];rw[wrap64 (by omega) (by omega),uM _ (by omega) (by omega),aD,uM _ (by omega) (by omega),aD,u1,u2]
     ·obtain⟨u1,u2⟩:=pK (x:=x) (y:=y) (f:=q-1) (g:=r+y) (by grind) (by omega) (by omega) h0;simp only[r1,y1,decide_true,decide_false,oC,oD];rw[wrap64 (x:=q) (by omega) (by omega),wrap64 (by omega) (by omega),uM _ (by omega) (by omega),aD,wrap64 (by omega) (by omega),uM _ (by omega) (by omega),aD,u1,u2]
    ·by_cases y1:y<0
     ·obtain⟨u1,u2⟩:=pK (x:=x) (y:=y) (f:=q-1) (g:=r+y) (by grind) (by omega) (by omega) h0;simp only[r1,y1,decide_true,decide_false,oC,oD];rw[wrap64 (x:=q) (by omega) (by omega),wrap64 (by omega) (by omega),uM _ (by omega) (by omega),aD,wrap64 (by omega) (by omega),uM _ (by omega) (by omega),aD,u1,u2]
     ·obtain⟨u1,u2⟩:=pK (x:=x) (y:=y) (f:=q) (g:=r) t1 (by omega) (by omega) h0;simp only[r1,y1,decide_false,oD];rw[wrap64 (by omega) (by omega),uM _ (by omega) (by omega),aD,uM _ (by omega) (by omega),aD,u1,u2]
  ·simp only[g2,if_false,aD,oD];exact slow
 ·simp only[g1,if_false,aD,oD];exact slow
end Go.PM
namespace Go.Lz
abbrev V:=Nat->Int
inductive Sp (k:Nat) (M:Nat->V):V->Prop
 | zero:Sp k M (λ_=>0)
 | add {v:V} (j:Nat) (t:Int):j<k->Sp k M v->Sp k M (λi=>v i+t*M j i)
theorem Sp.mem {k:Nat}{M:Nat->V}{j:Nat}(h:j<k):Sp k M (M j):=by
 have:=Sp.add j 1 h (Sp.zero (k:=k) (M:=M));simpa using this
theorem Sp.comb {k:Nat}{M:Nat->V}{u v:V}(t:Int)(hu:Sp k M u)(hv:Sp k M v):Sp k M (λi=>u i+t*v i):=by
 induction hv with
 | zero=>simpa using hu
 | add j s hj _ ih =>
  have:=Sp.add j (t*s) hj ih;refine cast (congrArg (Sp k M) ?_) this
  funext i
  grind
theorem Sp.sum {k:Nat}{M:Nat->V}{u v:V}(hu:Sp k M u)(hv:Sp k M v):Sp k M (λi=>u i+v i):=by
 have:=Sp.comb 1 hu hv;simpa using this
theorem Sp.smul {k:Nat}{M:Nat->V}{v:V}(t:Int)(hv:Sp k M v):Sp k M (λi=>t*v i):=by
 have:=Sp.comb t Sp.zero hv;simpa using this
theorem Sp.sub {k:Nat}{M:Nat->V}{u v:V}(hu:Sp k M u)(hv:Sp k M v):Sp k M (λi=>u i-v i):=by
 have:=Sp.comb (-1) hu hv;refine cast (congrArg (Sp k M) ?_) this
 funext i
 grind
theorem Sp.trans {k k':Nat}{M M':Nat->V}(h:∀ j,j<k->Sp k' M' (M j)){v:V}(hv:Sp k M v):Sp k' M' v:=by
 induction hv with
 | zero=>exact .zero
 | add j t hj _ ih=>exact Sp.comb t ih (h j hj)
theorem Sp.lC {k:Nat}{M:Nat->V}{x:Nat}(h:∀ j,j<k->M j x=0){v:V}(hv:Sp k M v):v x=0:=by
 induction hv with
 | zero=>rfl
 | add j t hj _ ih=>simp only[ih,h j hj,Int.mul_zero,Int.add_zero]
def Same(k:Nat) (M:Nat->V) (k':Nat) (M':Nat->V):Prop:=∀ v,Sp k M v↔Sp k' M' v
theorem Same.refl (k:Nat)(M:Nat->V):Same k M k M:=λ_=>Iff.rfl
theorem Same.symm {k k':Nat}{M M':Nat->V}(h:Same k M k' M'):Same k' M' k M:=λv=>(h v).symm
theorem Same.trans {k k' k'':Nat}{M M' M'':Nat->V}(h:Same k M k' M')(g:Same k' M' k'' M''):Same k M k'' M'':=λv=>(h v).trans (g v)
theorem Same.of {k k':Nat}{M M':Nat->V}(h:∀ j,j<k->Sp k' M' (M j))(g:∀ j,j<k'->Sp k M (M' j)):Same k M k' M':=λ_=>⟨Sp.trans h,Sp.trans g⟩
theorem Same.congr {k:Nat}{M M':Nat->V}(h:∀ j,j<k->M j=M' j):Same k M k M' :=
 Same.of (λj hj=>by rw[h j hj]; exact Sp.mem hj) (λj hj=>by rw[<- h j hj]; exact Sp.mem hj)
theorem Sp.first {k:Nat} {M:Nat->V} {v:V} (h:Sp (k+1) M v):∃ t u,Sp k (λi=>M (i+1)) u/\v=λi=>u i+t*M 0 i:=by
 induction h with
 | zero=>exact⟨0,λ_=>0,.zero,by funext i; simp⟩
 | add j s hj _ ih =>
  obtain⟨t,u,hu,rfl⟩:=ih;cases j with
  | zero=>exact⟨t+s,u,hu,by funext i; grind⟩
  | succ j=>exact⟨t,_,Sp.add j s (by omega) hu,by funext i; grind⟩
theorem Sp.behind {k:Nat}{M:Nat->V}{u:V}(h:Sp k (λi=>M (i+1)) u):Sp (k+1) M u :=
 Sp.trans (λj hj=>Sp.mem (by omega)) h
structure Hn (k:Nat) (M:Nat->V) (c:Nat->Nat):Prop where
 inc:∀ i j,i<j->j<k->c i<c j
 low:∀ i,i<k->∀ x,x<c i->M i x=0
 pos:∀ i,i<k->0<M i (c i)
 red:∀ i j,i<j->j<k->0<=M i (c j)/\M i (c j)<M j (c j)
theorem Hn.tail {k:Nat}{M:Nat->V}{c:Nat->Nat}(h:Hn (k+1) M c):Hn k (λi=>M (i+1)) (λi=>c (i+1)) where
 inc:=λi j hij hj=>h.inc _ _ (by omega) (by omega)
 low:=λi hi=>h.low _ (by omega)
 pos:=λi hi=>h.pos _ (by omega)
 red:=λi j hij hj=>h.red _ _ (by omega) (by omega)
theorem Hn.aG8 {k:Nat}{M:Nat->V}{c:Nat->Nat}(h:Hn (k+1) M c){u:V}(hu:Sp k (λi=>M (i+1)) u){x:Nat}(hx:x<=c 0):u x=0 :=
 Sp.lC (λj hj=>h.low (j+1) (by omega) x (by have:=h.inc 0 (j+1) (by omega) (by omega); omega)) hu
theorem Hn.small:∀ {k:Nat} {M:Nat->V} {c:Nat->Nat},Hn k M c->∀ {v:V},Sp k M v->(∀ i,i<k->-(M i (c i))<v (c i)/\v (c i)<M i (c i))->v=λ_=>0
 | 0,M,c,h,v,hv,_=>by
  cases hv with
  | zero=>rfl
  | add j t hj _=>omega
 | k+1,M,c,h,v,hv,hs=>by
  obtain⟨t,u,hu,rfl⟩:=hv.first;have h0:=h.aG8 hu (Nat.le_refl _);have hp:=h.pos 0 (by omega);have hs0:=hs 0 (by omega);simp only[h0,Int.zero_add]at hs0;have ht:t=0:=by
   rcases Int.lt_trichotomy t 0 with h1|h1|h1
   ·have:t*M 0 (c 0)<=(-1)*M 0 (c 0):=Int.mul_le_mul_of_nonneg_right (by omega) (by omega);omega
   ·exact h1
   ·have:1*M 0 (c 0)<=t*M 0 (c 0):=Int.mul_le_mul_of_nonneg_right (by omega) (by omega);omega
  subst ht;have e:(λi=>u i+0*M 0 i)=u:=by funext i; simp
  rw[e]at hs ⊢;exact Hn.small h.tail hu λi hi=>hs (i+1) (by omega)
theorem Hn.unique:∀ {k k':Nat} {M M':Nat->V} {c c':Nat->Nat},Hn k M c->Hn k' M' c'->Same k M k' M'->k=k'/\(∀ i,i<k->c i=c' i)/\∀ i,i<k->M i=M' i
 | 0,0,_,_,_,_,_,_,_=>⟨rfl,λi hi=>by omega,λi hi=>by omega⟩
 | 0,k'+1,M,M',c,c',h,h',e=>by
  have:=Hn.small h ((e _).2 (Sp.mem (M:=M') (Nat.succ_pos k'))) (λi hi=>by omega);have hp:=h'.pos 0 (by omega);rw[this]at hp;simp at hp
 | k+1,0,M,M',c,c',h,h',e=>by
  have:=Hn.small h' ((e _).1 (Sp.mem (M:=M) (Nat.succ_pos k))) (λi hi=>by omega);have hp:=h.pos 0 (by omega);rw[this]at hp;simp at hp
 | k+1,k'+1,M,M',c,c',h,h',e=>by
  have hp:=h.pos 0 (by omega);have hp':=h'.pos 0 (by omega);obtain⟨t,u,hu,ht⟩:=Sp.first ((e _).1 (Sp.mem (M:=M) (Nat.succ_pos k)));obtain⟨t',u',hu',ht'⟩:=Sp.first ((e _).2 (Sp.mem (M:=M') (Nat.succ_pos k')));have hc:c 0=c' 0:=by
   rcases Nat.lt_trichotomy (c 0) (c' 0)with h1|h1|h1
   ·exfalso;have a1:=congrFun ht (c 0);have a2:=h'.aG8 hu (x:=c 0) (by omega);have a3:=h'.low 0 (by omega) _ h1;simp only[a2,a3,Int.mul_zero,Int.add_zero]at a1;omega
   ·exact h1
   ·exfalso;have a1:=congrFun ht' (c' 0);have a2:=h.aG8 hu' (x:=c' 0) (by omega);have a3:=h.low 0 (by omega) _ h1;simp only[a2,a3,Int.mul_zero,Int.add_zero]at a1;omega
  have e1:M 0 (c 0)=t*M' 0 (c 0):=by
   have a1:=congrFun ht (c 0);have a2:=h'.aG8 hu (x:=c 0) (by omega);simpa[a2]using a1
  have e2:M' 0 (c 0)=t'*M 0 (c 0):=by
   have a1:=congrFun ht' (c 0);have a2:=h.aG8 hu' (x:=c 0) (by omega);simpa[a2]using a1
  rw[<- hc]at hp';have e3:M 0 (c 0)=M' 0 (c 0):=Int.le_antisymm (Int.le_of_dvd hp' ⟨t',by rw[e2]; exact Int.mul_comm _ _⟩) (Int.le_of_dvd hp ⟨t,by rw[e1]; exact Int.mul_comm _ _⟩);have tails:Same k (λi=>M (i+1)) k' (λi=>M' (i+1)):=by
   intro v;constructor
   ·intro hv;obtain⟨s,w,hw,rfl⟩:=Sp.first ((e _).1 hv.behind);have a1:=h.aG8 hv (Nat.le_refl _);have a2:=h'.aG8 hw (x:=c 0) (by omega);simp only[a2,Int.zero_add]at a1;have:s=0:=by
     rcases Int.mul_eq_zero.1 a1 with h1|h1
     ·exact h1
     ·omega
    subst this;have e:(λi=>w i+0*M' 0 i)=w:=by funext i; simp
    rw[e]; exact hw
   ·intro hv;obtain⟨s,w,hw,rfl⟩:=Sp.first ((e _).2 hv.behind);have a1:=h'.aG8 hv (x:=c 0) (by omega);have a2:=h.aG8 hw (x:=c 0) (by omega);simp only[a2,Int.zero_add]at a1;have:s=0:=by
     rcases Int.mul_eq_zero.1 a1 with h1|h1
     ·exact h1
     ·omega
    subst this;have e:(λi=>w i+0*M 0 i)=w:=by funext i; simp
    rw[e]; exact hw
  obtain⟨q1,q2,q3⟩:=Hn.unique h.tail h'.tail tails;subst q1;have hd:Sp k (λi=>M (i+1)) (λx=>M 0 x-M' 0 x):=by
   obtain⟨s,w,hw,hs⟩:=Sp.first (Sp.sub (Sp.mem (M:=M) (Nat.succ_pos k)) ((e _).2 (Sp.mem (M:=M') (Nat.succ_pos k))));have a1:=congrFun hs (c 0);have a2:=h.aG8 hw (Nat.le_refl _);simp only[a2,e3,Int.zero_add,Int.sub_self]at a1;have:s=0:=by
    rcases Int.mul_eq_zero.1 a1.symm with h1|h1
    ·exact h1
    ·omega
   subst this;have e:(λi=>w i+0*M 0 i)=w:=by funext i; simp
   rw[hs,e]; exact hw
  have hz:=Hn.small h.tail hd (λi hi=>by
   have r1:=h.red 0 (i+1) (by omega) (by omega);have r2:=h'.red 0 (i+1) (by omega) (by omega);have r3:=q2 i hi;have r4:=congrFun (q3 i hi) (c (i+1));rw[<- r3]at r2;rw[<- r4]at r2;constructor <;> omega)
  refine⟨rfl,λi hi=>?_,λi hi=>?_⟩
  ·cases i with
   | zero=>exact hc
   | succ i=>exact q2 i (by omega)
  ·cases i with
   | zero =>
    funext x
    have:=congrFun hz x;omega
   | succ i=>exact q3 i (by omega)
def up(M:Nat->V) (i:Nat) (r:V):Nat->V:=λj=>if j=i then r else M j
theorem RQ(M:Nat->V)(i:Nat)(r:V):up M i r i=r:=by simp[up]
theorem IW(M:Nat->V){i j:Nat}(r:V)(h:j≠i):up M i r j=M j:=by simp[up,h]
def swp(M:Nat->V)(a b:Nat):Nat->V:=λj=>if j=a then M b else if j=b then M a else M j
theorem a2C {k a b:Nat}(M:Nat->V)(ha:a<k)(hb:b<k):Same k M k (swp M a b):=by
 refine Same.of (λj hj=>?_) (λj hj=>?_)
 ·by_cases h1:j=a
  ·subst h1
   by_cases h2:b=j
   ·have:=Sp.mem (M:=swp M j b) ha;simp only[swp,if_true,h2]at this ⊢;exact this
   ·have:=Sp.mem (M:=swp M j b) hb;simp only[swp,h2,if_false,if_true]at this ⊢;exact this
  ·by_cases h2:j=b
   ·subst h2;have:=Sp.mem (M:=swp M a j) ha;simp only[swp,if_true]at this ⊢;exact this
   ·have:=Sp.mem (M:=swp M a b) hj;simp only[swp,h1,h2,if_false]at this ⊢;exact this
 ·unfold swp;split
  ·exact Sp.mem hb
  ·split
   ·exact Sp.mem ha
   ·exact Sp.mem hj
theorem aM7 {k i d:Nat}(M:Nat->V)(q:Int)(hi:i<k)(hd:d<k)(hne:i≠d):Same k M k (up M i λx=>M i x-q*M d x):=by
 refine Same.of (λj hj=>?_) (λj hj=>?_)
 ·by_cases h:j=i
  ·subst h;have h1:=Sp.mem (M:=up M j λx=>M j x-q*M d x) hj;have h2:=Sp.mem (M:=up M j λx=>M j x-q*M d x) hd;rw[RQ]at h1;rw[IW _ _ (Ne.symm hne)]at h2;have:=Sp.comb q h1 h2;refine cast (congrArg _ ?_) this
   funext x
   grind
  ·have:=Sp.mem (M:=up M i λx=>M i x-q*M d x) hj;rwa[IW _ _ h]at this
 ·by_cases h:j=i
  ·subst h;rw[RQ];have:=Sp.comb (-q) (Sp.mem (M:=M) hj) (Sp.mem (M:=M) hd);refine cast (congrArg _ ?_) this
   funext x
   grind
  ·rw[IW _ _ h]; exact Sp.mem hj
theorem a10 {k i:Nat}(M:Nat->V)(hi:i<k):Same k M k (up M i λx=>-(M i x)):=by
 refine Same.of (λj hj=>?_) (λj hj=>?_)
 ·by_cases h:j=i
  ·subst h;have h1:=Sp.mem (M:=up M j λx=>-(M j x)) hj;rw[RQ]at h1;have:=Sp.smul (-1) h1;refine cast (congrArg _ ?_) this
   funext x
   grind
  ·have:=Sp.mem (M:=up M i λx=>-(M i x)) hj;rwa[IW _ _ h]at this
 ·by_cases h:j=i
  ·subst h;rw[RQ];have:=Sp.smul (-1) (Sp.mem (M:=M) hj);refine cast (congrArg _ ?_) this
   funext x
   grind
  ·rw[IW _ _ h]; exact Sp.mem hj
theorem aQL {k d:Nat} (M:Nat->V) (hd:d<=k) (h:∀ i,d<=i->i<k->M i=λ_=>0):Same k M d M:=by
 refine Same.of (λj hj=>?_) (λj hj=>Sp.mem (by omega));rcases Nat.lt_or_ge j d with h1|h1
 ·exact Sp.mem h1
 ·rw[h j h1 hj]; exact .zero
structure Fo (k:Nat) (M0 M:Nat->V) (d c:Nat) (p:Nat->Nat):Prop where
 le:d<=k
 same:Same k M0 k M
 inc:∀ i j,i<j->j<d->p i<p j
 lt:∀ i,i<d->p i<c
 low:∀ i,i<d->∀ x,x<p i->M i x=0
 pos:∀ i,i<d->0<M i (p i)
 red:∀ i j,i<j->j<d->0<=M i (p j)/\M i (p j)<M j (p j)
 rest:∀ i,d<=i->i<k->∀ x,x<c->M i x=0
theorem Fo.start (k:Nat)(M:Nat->V):Fo k M M 0 0 (λ_=>0) where
 le:=Nat.zero_le _
 same:=Same.refl _ _
 inc:=λi j _ h=>by omega
 lt:=λi h=>by omega
 low:=λi h=>by omega
 pos:=λi h=>by omega
 red:=λi j _ h=>by omega
 rest:=λi _ _ x h=>by omega
section
variable {k d c:Nat} {M0 M:Nat->V} {p:Nat->Nat}
theorem Fo.aDJ (h:Fo k M0 M d c p) {M':Nat->V} (hs:Same k M k M') (h1:∀ i,i<d->M' i=M i) (h2:∀ i,d<=i->i<k->∀ x,x<c->M' i x=0):Fo k M0 M' d c p where
 le:=h.le
 same:=h.same.trans hs
 inc:=h.inc
 lt:=h.lt
 low:=λi hi=>by rw[h1 i hi]; exact h.low i hi
 pos:=λi hi=>by rw[h1 i hi]; exact h.pos i hi
 red:=λi j hij hj=>by rw[h1 i (by omega),h1 j hj]; exact h.red i j hij hj
 rest:=h2
theorem Fo.swap (h:Fo k M0 M d c p){a:Nat}(ha:d<=a)(hk:a<k):Fo k M0 (swp M d a) d c p:=by
 refine h.aDJ (a2C M (by omega) hk) (λi hi=>?_) (λi h1 h2 x hx=>?_)
 ·have e1:¬ i=d:=by omega
  have e2:¬ i=a:=by omega
  simp only[swp,e1,e2,if_false]
 ·unfold swp;split
  ·exact h.rest a ha hk x hx
  ·split
   ·exact h.rest d (Nat.le_refl _) (by omega) x hx
   ·exact h.rest i h1 h2 x hx
theorem Fo.less (h:Fo k M0 M d c p){i:Nat}(q:Int)(hi:d<i)(hk:i<k):Fo k M0 (up M i λx=>M i x-q*M d x) d c p:=by
 refine h.aDJ (aM7 M q hk (by omega) (by omega)) (λj hj=>IW _ _ (by omega)) (λj h1 h2 x hx=>?_)
 by_cases e:j=i
 ·subst e;rw[RQ,h.rest j h1 h2 x hx,h.rest d (Nat.le_refl _) (by omega) x hx];simp
 ·rw[IW _ _ e]; exact h.rest j h1 h2 x hx
theorem Fo.neg (h:Fo k M0 M d c p)(hk:d<k):Fo k M0 (up M d λx=>-(M d x)) d c p:=by
 refine h.aDJ (a10 M hk) (λj hj=>IW _ _ (by omega)) (λj h1 h2 x hx=>?_)
 by_cases e:j=d
 ·subst e;rw[RQ,h.rest j h1 h2 x hx];simp
 ·rw[IW _ _ e]; exact h.rest j h1 h2 x hx
theorem Fo.skip (h:Fo k M0 M d c p) (hz:∀ i,d<=i->i<k->M i c=0):Fo k M0 M d (c+1) p where
 le:=h.le
 same:=h.same
 inc:=h.inc
 lt:=λi hi=>by have:=h.lt i hi; omega
 low:=h.low
 pos:=h.pos
 red:=h.red
 rest:=λi h1 h2 x hx=>by
  rcases Nat.lt_or_ge x c with h3|h3
  ·exact h.rest i h1 h2 x h3
  ·have:x=c:=by omega
   subst this;exact hz i h1 h2
structure Fp (k:Nat) (M0 M:Nat->V) (d c:Nat) (p:Nat->Nat) (m:Nat):Prop extends Fo k M0 M d c p where
 dk:d<k
 piv:0<M d c
 below:∀ i,d<i->i<k->M i c=0
 up:∀ i,i<m->0<=M i c/\M i c<M d c
theorem Fp.less {m:Nat}(h:Fp k M0 M d c p m)(hm:m<d):Fp k M0 (Lz.up M m λx=>M m x-(M m c).fdiv (M d c)*M d x) d c p (m+1):=by
 have hd0:∀ x,x<c->M d x=0:=h.rest d (Nat.le_refl _) h.dk;have hr:∀ x,x<c->∀ i,Lz.up M m (λx=>M m x-(M m c).fdiv (M d c)*M d x) i x=M i x:=by
  intro x hx i
  by_cases e:i=m
  ·subst e;rw[RQ,hd0 x hx]; simp
  ·rw[IW _ _ e]
 have hne:∀ i,i≠m->Lz.up M m (λx=>M m x-(M m c).fdiv (M d c)*M d x) i=M i:=λi e=>IW _ _ e
 refine { le:=h.le,same:=h.same.trans (aM7 M _ (by have:=h.le; omega) h.dk (by omega)),inc:=h.inc,lt:=h.lt,low:=λi hi x hx=>?_,pos:=λi hi=>?_,red:=λi j hij hj=>?_,rest:=λi h1 h2 x hx=>?_,dk:=h.dk,piv:=?_,below:=λi h1 h2=>?_,up:=λi hi=>?_ }
 ·rw[hr x (by have:=h.lt i hi; omega)]; exact h.low i hi x hx
 ·rw[hr _ (h.lt i hi)]; exact h.pos i hi
 ·rw[hr _ (h.lt j hj),hr _ (h.lt j hj)]; exact h.red i j hij hj
 ·rw[hr x hx]; exact h.rest i h1 h2 x hx
 ·rw[hne d (by omega)]; exact h.piv
 ·rw[hne i (by omega)]; exact h.below i h1 h2
 ·rw[hne d (by omega)]
  by_cases e:i=m
  ·subst e;rw[RQ];have h1:=Int.fmod_def (M i c) (M d c);have h2:=Int.fmod_nonneg_of_pos (M i c) h.piv;have h3:=Int.fmod_lt_of_pos (M i c) h.piv;have h4:(M i c).fdiv (M d c)*M d c=M d c*(M i c).fdiv (M d c):=Int.mul_comm _ _;omega
  ·rw[hne i e]; exact h.up i (by omega)
theorem Fp.done (h:Fp k M0 M d c p d):Fo k M0 M (d+1) (c+1) (λi=>if i=d then c else p i):=by
 have hp:∀ i,i<d->(if i=d then c else p i)=p i:=λi hi=>by rw[if_neg (by omega)]
 refine { le:=h.dk,same:=h.same,inc:=λi j hij hj=>?_,lt:=λi hi=>?_,low:=λi hi x hx=>?_,pos:=λi hi=>?_,red:=λi j hij hj=>?_,rest:=λi h1 h2 x hx=>?_ }
 ·rw[hp i (by omega)]
  by_cases e:j=d
  ·subst e; rw[if_pos rfl]; exact h.lt i hij
  ·rw[if_neg e]; exact h.inc i j hij (by omega)
 ·by_cases e:i=d
  ·rw[if_pos e]; omega
  ·rw[if_neg e]; have:=h.lt i (by omega); omega
 ·by_cases e:i=d
  ·subst e; rw[if_pos rfl]at hx; exact h.rest i (Nat.le_refl _) h.dk x hx
  ·rw[if_neg e]at hx; exact h.low i (by omega) x hx
 ·by_cases e:i=d
  ·subst e; rw[if_pos rfl]; exact h.piv
  ·rw[if_neg e]; exact h.pos i (by omega)
 ·by_cases e:j=d
  ·subst e; rw[if_pos rfl]; exact h.up i hij
  ·rw[if_neg e]; exact h.red i j hij (by omega)
 ·rcases Nat.lt_or_ge x c with h3|h3
  ·exact h.rest i (by omega) h2 x h3
  ·have:x=c:=by omega
   subst this;exact h.below i (by omega) h2
theorem Fo.hn (h:Fo k M0 M d c p) (hz:d=k\/∀ i,i<k->∀ x,c<=x->M i x=0):Hn d M p/\Same k M0 d M:=by
 refine⟨⟨h.inc,h.low,h.pos,h.red⟩,h.same.trans ?_⟩;rcases hz with rfl|hz
 ·exact Same.refl _ _
 ·refine aQL M h.le λi h1 h2=>?_
  funext x
  rcases Nat.lt_or_ge x c with h3|h3
  ·exact h.rest i h1 h2 x h3
  ·exact hz i h2 x h3
end
def dot:Nat->V->V->Int
 | 0,_,_=>0
 | n+1,a,b=>dot n a b+a n*b n
theorem nI(a b:V):∀ n,dot n a b=dot n b a
 | 0=>rfl
 | n+1=>by rw[dot,dot,nI a b n,Int.mul_comm]
theorem vY(u v b:V)(t:Int):∀ n,dot n (λi=>u i+t*v i) b=dot n u b+t*dot n v b
 | 0=>by simp[dot]
 | n+1=>by
  rw[dot,dot,dot,vY u v b t n];grind
theorem HW(b:V):∀ n,dot n (λ_=>0) b=0
 | 0=>rfl
 | n+1=>by rw[dot,HW b n]; simp
def Ker(n m:Nat) (A:Nat->V) (y:V):Prop:=(∀ c,n<=c->y c=0)/\∀ x,x<m->dot n y (A x)=0
theorem Ker.span {n m:Nat}{A:Nat->V}{y:V}(h:Ker n m A y){v:V}(hv:Sp m A v):dot n y v=0:=by
 induction hv with
 | zero=>rw[nI]; exact HW _ _
 | add j t hj _ ih=>rw[nI,vY,nI _ y,ih,nI _ y,h.2 j hj]; simp
theorem Ker.aVY {n m:Nat}{A:Nat->V}{y:V}(h1:∀ c,n<=c->y c=0)(h2:∀ v,Sp m A v->dot n y v=0):Ker n m A y:=⟨h1,λx hx=>h2 _ (Sp.mem hx)⟩
theorem Ker.same {n m m':Nat}{A A':Nat->V}(h:Same m A m' A'){y:V}:Ker n m A y↔Ker n m' A' y :=
 ⟨λg=>.aVY g.1 λv hv=>g.span ((h v).2 hv),λg=>.aVY g.1 λv hv=>g.span ((h v).1 hv)⟩
def jX(n m:Nat) (A:Nat->V) (k:Nat) (K:Nat->V):Prop:=∀ y,Sp k K y↔Ker n m A y
theorem jX.width {n m k:Nat}{A K:Nat->V}(h:jX n m A k K){i:Nat}(hi:i<k):∀ c,n<=c->K i c=0:=((h _).1 (Sp.mem hi)).1
def wide(n m:Nat) (A:Nat->V):Nat->V:=λc x=>if x<m then A x c else if x=m+c then 1 else 0
theorem aQR {n m:Nat}{A:Nat->V}(y:V):∀ j,j<=n->Sp n (wide n m A) (λx=>if x<m then dot j y (A x) else if x<m+j then y (x-m) else 0)
 | 0,_=>by
  refine cast (congrArg _ ?_) Sp.zero
  funext x
  split
  ·simp[dot]
  ·split
   ·omega
   ·rfl
 | j+1,h=>by
  have:=Sp.comb (y j) (aQR y j (by omega)) (Sp.mem (M:=wide n m A) (show j<n by omega));refine cast (congrArg _ ?_) this
  funext x
  simp only[wide];split
  ·rw[dot]
  ·by_cases h1:x=m+j
   ·subst h1;have e1:¬ m+j<m+j:=by omega
    have e2:m+j<m+(j+1):=by omega
    have e3:m+j-m=j:=by omega
    simp only[if_true,e1,e2,if_false,e3];simp
   ·have e1:(x<m+(j+1))↔x<m+j:=by omega
    simp only[h1,if_false,e1,Int.mul_zero,Int.add_zero]
theorem a33 {n m:Nat}{A:Nat->V}{v:V}(h:Sp n (wide n m A) v):(∀ x,x<m->v x=dot n (λc=>v (m+c)) (A x))/\∀ c,n<=c->v (m+c)=0:=by
 have unit:∀ (j:Nat) (b:V),∀ n,dot n (λc=>if m+c=m+j then (1:Int) else 0) b=if j<n then b j else 0:=by
  intro j b n
  induction n with
  | zero=>rfl
  | succ n ih =>
   rw[dot,ih]
   by_cases h1:j<n
   ·have e1:¬ m+n=m+j:=by omega
    have e2:j<n+1:=by omega
    have e3:¬ n=j:=by omega
    simp[h1,e2,e3]
   ·by_cases h2:n=j
    ·subst h2;simp
    ·have e1:¬ m+n=m+j:=by omega
     have e2:¬ j<n+1:=by omega
     simp[h1,e2,h2]
 induction h with
 | zero=>exact⟨λx _=>(HW _ _).symm,λ_ _=>rfl⟩
 | add j t hj _ ih =>
  obtain⟨h1,h2⟩:=ih;refine⟨λx hx=>?_,λc hc=>?_⟩
  ·rw[vY,<- h1 x hx];have e:(λc=>wide n m A j (m+c))=λc=>if m+c=m+j then (1:Int) else 0:=by
    funext c
    have:¬ m+c<m:=by omega
    simp only[wide,this,if_false]
   rw[e,unit,if_pos hj];simp only[wide,hx,if_true]
  ·have h3:=h2 c hc;have e1:¬ m+c<m:=by omega
   have e2:¬ m+c=m+j:=by omega
   simp only[wide,e1,e2,if_false,Int.mul_zero,Int.add_zero,h3]
theorem Hn.drop:∀ {j k:Nat} {M:Nat->V} {p:Nat->Nat} {m:Nat},Hn k M p->j<=k->(∀ i,i<j->p i<m)->∀ {v:V},Sp k M v->(∀ x,x<m->v x=0)->Sp (k-j) (λi=>M (j+i)) v
 | 0,k,M,p,m,h,_,_,v,hv,_=>by
  have e:(λi=>M (0+i))=M:=by funext i; rw[Nat.zero_add]
  rw[e]; exact hv
 | j+1,0,M,p,m,h,hj,_,v,hv,_=>by omega
 | j+1,k+1,M,p,m,h,hj,hp,v,hv,hz=>by
  obtain⟨t,u,hu,rfl⟩:=hv.first;have h0:=hz (p 0) (hp 0 (by omega));have h1:=h.aG8 hu (Nat.le_refl _);have h2:=h.pos 0 (by omega);simp only[h1,Int.zero_add]at h0;have ht:t=0:=by
   rcases Int.mul_eq_zero.1 h0 with h3|h3
   ·exact h3
   ·omega
  subst ht;have e:(λi=>u i+0*M 0 i)=u:=by funext i; simp
  rw[e]at hz ⊢;have:=Hn.drop (j:=j) h.tail (by omega) (λi hi=>hp (i+1) (by omega)) hu hz;have e1:k+1-(j+1)=k-j:=by omega
  rw[e1];refine cast (congrArg (λf=>Sp (k-j) f u) ?_) this
  funext i
  show M (j+i+1)=M (j+1+i)
  congr 1
  omega
theorem aW1 {n m k j:Nat} {A W:Nat->V} {p:Nat->Nat} (h:Hn k W p) (hs:Same n (wide n m A) k W) (hj:j<=k) (h1:∀ i,i<j->p i<m) (h2:∀ i,j<=i->i<k->m<=p i) :
  jX n m A (k-j) (λi y=>W (j+i) (m+y)):=by
 intro y;constructor
 ·intro hy;have key:∃ v,Sp k W v/\(∀ x,x<m->v x=0)/\y=λc=>v (m+c):=by
   induction hy with
   | zero=>exact⟨_,.zero,λ_ _=>rfl,rfl⟩
   | add i t hi _ ih =>
    obtain⟨v,g1,g2,rfl⟩:=ih;refine⟨_,Sp.add (j+i) t (by omega) g1,λx hx=>?_,rfl⟩;have:=h.low (j+i) (by omega) x (by have:=h2 (j+i) (by omega) (by omega); omega);simp only[g2 x hx,this,Int.mul_zero,Int.add_zero]
  obtain⟨v,g1,g2,rfl⟩:=key;obtain⟨q1,q2⟩:=a33 ((hs v).2 g1);exact⟨q2,λx hx=>by rw[<- q1 x hx]; exact g2 x hx⟩
 ·rintro⟨g1,g2⟩;have hv:=aQR (A:=A) (n:=n) (m:=m) y n (Nat.le_refl _);have:=Hn.drop h hj h1 ((hs _).1 hv) (λx hx=>by simp only[hx,if_true]; exact g2 x hx);have key:∀ {v:V},Sp (k-j) (λi=>W (j+i)) v->Sp (k-j) (λi y=>W (j+i) (m+y)) (λc=>v (m+c)):=by
   intro v hv
   induction hv with
   | zero=>exact .zero
   | add i t hi _ ih=>exact Sp.add i t hi ih
  have:=key this;refine cast (congrArg _ ?_) this
  funext c
  have e1:¬ m+c<m:=by omega
  have e3:m+c-m=c:=by omega
  simp only[e1,if_false,e3];split
  ·rfl
  ·exact(g1 c (by omega)).symm
theorem YI(a:Int){m:Int}(h:m<0):m<a.fmod m/\a.fmod m<=0:=by
 have h1:=Int.neg_fmod_neg (-a) (-m);rw[Int.neg_neg,Int.neg_neg]at h1;have h2:=Int.fmod_nonneg_of_pos (-a) (show 0 < -m by omega);have h3:=Int.fmod_lt_of_pos (-a) (show 0 < -m by omega);omega
theorem aSE(a m:Int)(hm:m≠0):(a.fdiv m).natAbs*m.natAbs<=a.natAbs+m.natAbs:=by
 have h1:=Int.fmod_def a m;have h2:(m*a.fdiv m).natAbs=(a.fdiv m).natAbs*m.natAbs:=by rw[Int.natAbs_mul,Nat.mul_comm]
 rcases Int.lt_or_gt_of_ne hm with h|h
 ·have h3:=YI a h;omega
 ·have h3:=Int.fmod_nonneg_of_pos a h;have h4:=Int.fmod_lt_of_pos a h;omega
theorem aSP(a m:Int)(hm:m≠0):(a.fmod m).natAbs<m.natAbs:=by
 rcases Int.lt_or_gt_of_ne hm with h|h
 ·have h3:=YI a h;omega
 ·have h3:=Int.fmod_nonneg_of_pos a h;have h4:=Int.fmod_lt_of_pos a h;omega
theorem aJV(a m:Int):a-a.fdiv m*m=a.fmod m:=by rw[Int.fmod_def,Int.mul_comm]
theorem aZD {a b q:Int} {E Q:Nat} (ha:a.natAbs<=E) (hb:b.natAbs<=E) (hq:q.natAbs<=Q):(a-q*b).natAbs<=E+Q*E:=by
 have h1:(q*b).natAbs=q.natAbs*b.natAbs:=Int.natAbs_mul _ _;have h2:q.natAbs*b.natAbs<=Q*E:=Nat.mul_le_mul hq hb;omega
def Wi(k:Nat) (M:Nat->V) (d c E A:Nat):Prop:=∀ i,d<=i->i<k->(∀ x,(M i x).natAbs<=E)/\(M i c).natAbs<=A
def Rd(k:Nat) (M M':Nat->V) (d c:Nat):Prop:=M' d=M d/\∀ i,d<i->i<k->M' i=λx=>M i x-(M i c).fdiv (M d c)*M d x
theorem Rd.aVL {k d c E A:Nat} {M M':Nat->V} (h:Rd k M M' d c) (hw:Wi k M d c E A) (hk:d<k) (hm:M d c≠0) (hA:(M d c).natAbs<=A) :
  ∃ E',Wi k M' d c E' (M d c).natAbs/\E'*(M d c).natAbs<=3*(E*A):=by
 have hmp:0<(M d c).natAbs:=by omega
 refine⟨E+(A/(M d c).natAbs+1)*E,λi h1 h2=>?_,?_⟩
 ·by_cases e:i=d
  ·subst e;rw[h.1];refine⟨λx=>?_,Nat.le_refl _⟩;have:=(hw i h1 h2).1 x;exact Nat.le_trans this (Nat.le_add_right _ _)
  ·have hr:=h.2 i (by omega) h2;have hq:((M i c).fdiv (M d c)).natAbs<=A/(M d c).natAbs+1:=by
    have h3:=aSE (M i c) (M d c) hm;have h4:=(hw i h1 h2).2;have h5:((M i c).fdiv (M d c)).natAbs<=(A+(M d c).natAbs)/(M d c).natAbs:=by
     rw[Nat.le_div_iff_mul_le hmp];omega
    rwa[Nat.add_div_right _ hmp]at h5
   rw[hr];refine⟨λx=>aZD ((hw i h1 h2).1 x) ((hw d (Nat.le_refl _) hk).1 x) hq,?_⟩;dsimp only;rw[aJV];exact Nat.le_of_lt (aSP _ _ hm)
 ·have h1:A/(M d c).natAbs*(M d c).natAbs<=A:=Nat.div_mul_le_self _ _;generalize A/(M d c).natAbs=q at h1;generalize (M d c).natAbs=m at *;have h2:(E+(q+1)*E)*m=2*(E*m)+E*(q*m):=by grind
  have h3:E*(q*m)<=E*A:=Nat.mul_le_mul_left _ h1;have h4:E*m<=E*A:=Nat.mul_le_mul_left _ hA;omega
theorem a1Q(a b c:Nat)(h:a+b<=c):4*(a*b)<=c*c:=by
 have h1:(a+b)*(a+b)<=c*c:=Nat.mul_le_mul h h;have h2:4*(a*b)<=(a+b)*(a+b):=by
  have:(a+b)*(a+b)=4*(a*b)+(a-b)*(a-b)+(b-a)*(b-a):=by
   rcases Nat.le_total a b with g|g
   ·obtain⟨e,rfl⟩:=Nat.exists_eq_add_of_le g;have e1:a-(a+e)=0:=by omega
    have e2:a+e-a=e:=by omega
    rw[e1,e2];grind
   ·obtain⟨e,rfl⟩:=Nat.exists_eq_add_of_le g;have e1:b-(b+e)=0:=by omega
    have e2:b+e-b=e:=by omega
    rw[e1,e2];grind
  omega
 omega
structure Bt (k:Nat) (M:Nat->V) (d c C:Nat):Prop where
 dk:d<k
 ex:∃ E,Wi k M d c E (M d c).natAbs/\∃ i,d<i/\i<k/\M i c≠0/\E*(M d c).natAbs^3*(M i c).natAbs<=C
 piv:M d c≠0
 sign:∀ i,d<i->i<k->(M i c).natAbs<(M d c).natAbs/\(0<M d c->0<=M i c)/\(M d c<0->M i c<=0)
theorem Wi.swap {k d c E A a:Nat}{M:Nat->V}(h:Wi k M d c E A)(ha:d<=a)(hk:a<k):Wi k (swp M d a) d c E A:=by
 intro i h1 h2;unfold swp;split
 ·exact h a ha hk
 ·split
  ·exact h d (Nat.le_refl _) (by omega)
  ·exact h i h1 h2
theorem Rd.sign {k d c:Nat}{M M':Nat->V}(h:Rd k M M' d c)(hm:M d c≠0):∀ i,d<i->i<k->M' i c=(M i c).fmod (M d c)/\(M' i c).natAbs<(M' d c).natAbs/\(0<M' d c->0<=M' i c)/\(M' d c<0->M' i c<=0):=by
 intro i h1 h2;have e:M' i c=(M i c).fmod (M d c):=by
  rw[h.2 i h1 h2];exact aJV _ _
 rw[e,h.1];exact⟨rfl,aSP _ _ hm,λhp=>Int.fmod_nonneg_of_pos _ hp,λhn=>(YI _ hn).2⟩
theorem aY5 {p n:Int} (hs:(0<p/\0<n)\/(p<0/\n<0)) (hl:n.natAbs<p.natAbs):(p.fmod n).natAbs+n.natAbs<=p.natAbs:=by
 have key:∀ p n:Int,0<n->n<p->(p.fmod n).natAbs+n.natAbs<=p.natAbs:=by
  intro p n h1 h2;have h3:=Int.fmod_def p n;have h4:=Int.fmod_nonneg_of_pos p h1;have h5:=Int.fmod_lt_of_pos p h1;have h6:1<=p.fdiv n:=by
   rcases(by omega:p.fdiv n<1\/1<=p.fdiv n)with h|h
   ·have:n*p.fdiv n<=n*0:=Int.mul_le_mul_of_nonneg_left (by omega) (by omega);omega
   ·exact h
  have h7:n*1<=n*p.fdiv n:=Int.mul_le_mul_of_nonneg_left h6 (by omega);omega
 rcases hs with ⟨h1,h2⟩|⟨h1,h2⟩
 ·exact key p n h2 (by omega)
 ·have:=key (-p) (-n) (by omega) (by omega);rw[Int.neg_fmod_neg]at this;omega
theorem Rd.first {k d c E A:Nat} {M M':Nat->V} (h:Rd k M M' d c) (hw:Wi k M d c E A) (hk:d<k) (hm:M d c≠0) :
  ((∀ i,d<i->i<k->M' i c=0)/\Wi k M' d c (3*(E*A)) A)\/Bt k M' d c (3*(E*A)*A^3):=by
 have hA:=(hw d (Nat.le_refl _) hk).2;have hmp:0<(M d c).natAbs:=by omega
 obtain⟨E',h1,h2⟩:=h.aVL hw hk hm hA;have hs:=h.sign hm
 by_cases hz:∀ i,d<i->i<k->M' i c=0
 ·refine .inl ⟨hz,λi g1 g2=>⟨λx=>?_,?_⟩⟩
  ·have a1:=(h1 i g1 g2).1 x;have a2:E'*1<=E'*(M d c).natAbs:=Nat.mul_le_mul_left _ hmp;omega
  ·exact Nat.le_trans (h1 i g1 g2).2 hA
 ·refine .inr ⟨hk,⟨E',by rw[h.1]; exact h1,?_⟩,by rw[h.1]; exact hm,λi g1 g2=>(hs i g1 g2).2⟩;obtain⟨i,hi⟩:=Classical.not_forall.1 hz;obtain⟨g1,hi⟩:=Classical.not_forall.1 hi;obtain⟨g2,g3⟩:=Classical.not_forall.1 hi;refine⟨i,g1,g2,g3,?_⟩;have a1:=(hs i g1 g2).2.1;rw[h.1]at a1 ⊢;have a2:(M d c).natAbs^2*(M' i c).natAbs<=A^2*A:=Nat.mul_le_mul (Nat.pow_le_pow_left hA 2) (by omega);have a3:E'*(M d c).natAbs*((M d c).natAbs^2*(M' i c).natAbs)<=3*(E*A)*(A^2*A):=Nat.mul_le_mul h2 a2
  have e1:E'*(M d c).natAbs^3*(M' i c).natAbs=E'*(M d c).natAbs*((M d c).natAbs^2*(M' i c).natAbs):=by grind
  have e2:3*(E*A)*A^3=3*(E*A)*(A^2*A):=by grind
  omega
theorem Bt.left {k d c C a:Nat} {M M':Nat->V} (h:Bt k M d c C) (ha:d<=a) (hk:a<k) (hm:M a c≠0) (hmin:∀ i,d<=i->i<k->M i c≠0->(M a c).natAbs<=(M i c).natAbs) (hr:Rd k (swp M d a) M' d c) (hz:¬ ∀ i,d<i->i<k->M' i c=0):M' d=M a/\(M a c).natAbs<(M d c).natAbs/\∃ i,d<i/\i<k/\M' i c≠0/\(M' i c).natAbs+(M a c).natAbs<=(M d c).natAbs/\(M' i c).natAbs<(M a c).natAbs:=by
 obtain⟨E,h1,i0,g1,g2,g3,g4⟩:=h.ex;have hda:d<a:=by
  rcases Nat.lt_or_ge d a with h9|h9
  ·exact h9
  ·have:a=d:=by omega
   subst this;have:=hmin i0 (by omega) g2 g3;have:=(h.sign i0 g1 g2).1;omega
 have e1:swp M d a d=M a:=by simp[swp]
 have e2:swp M d a a=M d:=by
  have:¬ a=d:=by omega
  simp[swp,this]
 have hsa:=h.sign a hda hk;have hs:=hr.sign (by rw[e1]; exact hm);have hMd:M' d=M a:=by rw[hr.1,e1]
 have main:∃ i,d<i/\i<k/\M' i c≠0/\(M' i c).natAbs+(M a c).natAbs<=(M d c).natAbs:=by
  have ea:=(hs a hda hk).1;rw[e1,e2]at ea
  by_cases hz2:M' a c=0
  ·obtain⟨i,hi⟩:=Classical.not_forall.1 hz;obtain⟨z1,hi⟩:=Classical.not_forall.1 hi;obtain⟨z2,z3⟩:=Classical.not_forall.1 hi;refine⟨i,z1,z2,z3,?_⟩;have a1:=(hs i z1 z2).2.1;rw[hMd]at a1;have a2:(M a c).natAbs ∣ (M d c).natAbs:=by
    have:M a c ∣ M d c:=by
     rw[hz2]at ea;exact Int.dvd_of_fmod_eq_zero ea.symm
    exact Int.natAbs_dvd_natAbs.2 this
   obtain⟨t,ht⟩:=a2;have h2t:2<=t:=by
    rcases Nat.lt_or_ge t 2 with h|h
    ·have:(M a c).natAbs*t<=(M a c).natAbs*1:=Nat.mul_le_mul_left _ (by omega);omega
    ·exact h
   have:(M a c).natAbs*2<=(M a c).natAbs*t:=Nat.mul_le_mul_left _ h2t;omega
  ·refine⟨a,hda,hk,hz2,?_⟩;rw[ea];refine aY5 ?_ hsa.1;rcases Int.lt_or_gt_of_ne h.piv with z|z
   ·have:=hsa.2.2 z;exact .inr ⟨z,by omega⟩
   ·have:=hsa.2.1 z;exact .inl ⟨z,by omega⟩
 obtain⟨i,z1,z2,z3,z4⟩:=main;have z5:=(hs i z1 z2).2.1;rw[hMd]at z5;exact⟨hMd,hsa.1,i,z1,z2,z3,z4,z5⟩
def Pt(k:Nat) (M:Nat->V) (d c P:Nat):Prop:=∃ i,d<i/\i<k/\M i c≠0/\(M d c).natAbs*(M i c).natAbs<=P
theorem Bt.half {k d c C a:Nat}{M M':Nat->V}(h:Bt k M d c C)(ha:d<=a)(hk:a<k)(hm:M a c≠0)(hmin:∀ i,d<=i->i<k->M i c≠0->(M a c).natAbs<=(M i c).natAbs)(hr:Rd k (swp M d a) M' d c)(hz:¬ ∀ i,d<i->i<k->M' i c=0){P:Nat}(hP:Pt k M d c P):Pt k M' d c (P/2):=by
 obtain⟨q1,q2,i,z1,z2,z3,z4,z5⟩:=h.left ha hk hm hmin hr hz;obtain⟨i0,w1,w2,w3,w4⟩:=hP;have w5:=hmin i0 (by omega) w2 w3;refine⟨i,z1,z2,z3,?_⟩;rw[q1,Nat.le_div_iff_mul_le (by decide)];have a1:(M a c).natAbs*(2*(M' i c).natAbs)<=(M a c).natAbs*(M d c).natAbs:=Nat.mul_le_mul_left _ (by omega);have a2:(M d c).natAbs*(M a c).natAbs<=(M d c).natAbs*(M i0 c).natAbs:=Nat.mul_le_mul_left _ w5;have a3:(M a c).natAbs*(M' i c).natAbs*2=(M a c).natAbs*(2*(M' i c).natAbs):=by grind
 have a4:(M d c).natAbs*(M a c).natAbs=(M a c).natAbs*(M d c).natAbs:=Nat.mul_comm _ _;omega
theorem Bt.round {k d c C a:Nat} {M M':Nat->V} (h:Bt k M d c C) (ha:d<=a) (hk:a<k) (hm:M a c≠0) (hmin:∀ i,d<=i->i<k->M i c≠0->(M a c).natAbs<=(M i c).natAbs) (hr:Rd k (swp M d a) M' d c) :
  ((∀ i,d<i->i<k->M' i c=0)/\∃ A,Wi k M' d c (3*C) A)\/(Bt k M' d c C/\(M' d c).natAbs<(M d c).natAbs):=by
 obtain⟨E,h1,i0,g1,g2,g3,g4⟩:=h.ex;have hda:d<a:=by
  rcases Nat.lt_or_ge d a with h9|h9
  ·exact h9
  ·have:a=d:=by omega
   subst this;have:=hmin i0 (by omega) g2 g3;have:=(h.sign i0 g1 g2).1;omega
 have e1:swp M d a d=M a:=by simp[swp]
 have e2:swp M d a a=M d:=by
  have:¬ a=d:=by omega
  simp[swp,this]
 have hsa:=h.sign a hda hk;have hA:(swp M d a d c).natAbs<=(M d c).natAbs:=by rw[e1]; omega
 obtain⟨E',q1,q2⟩:=hr.aVL (h1.swap ha hk) h.dk (by rw[e1]; exact hm) hA;rw[e1]at q1 q2;have hs:=hr.sign (by rw[e1]; exact hm);have hC:E*(M d c).natAbs^3*(M a c).natAbs<=C:=Nat.le_trans (Nat.mul_le_mul_left _ (hmin i0 (by omega) g2 g3)) g4;have hmp:0<(M a c).natAbs:=by omega
 have hMd:M' d=M a:=by rw[hr.1,e1]
 by_cases hz:∀ i,d<i->i<k->M' i c=0
 ·refine .inl ⟨hz,(M a c).natAbs,λi z1 z2=>⟨λx=>?_,(q1 i z1 z2).2⟩⟩;have a1:=(q1 i z1 z2).1 x;have a2:E'*1<=E'*(M a c).natAbs:=Nat.mul_le_mul_left _ hmp;have a3:E*(M d c).natAbs*1<=E*(M d c).natAbs*((M d c).natAbs^2*(M a c).natAbs):=Nat.mul_le_mul_left _ (Nat.mul_pos (Nat.pow_pos (by omega)) hmp);have a4:E*(M d c).natAbs*((M d c).natAbs^2*(M a c).natAbs)=E*(M d c).natAbs^3*(M a c).natAbs:=by grind
  omega
 ·refine .inr ⟨⟨h.dk,⟨E',by rw[hMd]; exact q1,?_⟩,by rw[hMd]; exact hm,λi z1 z2=>(hs i z1 z2).2⟩,by rw[hMd]; exact hsa.1⟩;obtain⟨_,_,i,z1,z2,z3,z4,_⟩:=h.left ha hk hm hmin hr hz;refine⟨i,z1,z2,z3,?_⟩;rw[hMd];have a1:=a1Q _ _ _ z4;generalize (M' i c).natAbs=y at *;generalize (M a c).natAbs=x at *;generalize (M d c).natAbs=m at *;have a2:E'*x*(x^2*y)<=3*(E*m)*(x^2*y):=Nat.mul_le_mul_right _ q2;have a3:(E*m*x)*(4*(y*x))<=(E*m*x)*(m*m):=Nat.mul_le_mul_left _ a1
  have b1:E'*x^3*y=E'*x*(x^2*y):=by grind
  have b2:(E*m*x)*(m*m)=E*m^3*x:=by grind
  have b3:(E*m*x)*(4*(y*x))=3*(E*m)*(x^2*y)+(E*m*x)*(y*x):=by grind
  omega
theorem Hn.shift {k:Nat}{M:Nat->V}{p:Nat->Nat}(h:Hn k M p)(j:Nat)(hj:j<=k):Hn (k-j) (λi=>M (j+i)) (λi=>p (j+i)) where
 inc:=λa b hab hb=>h.inc _ _ (by omega) (by omega)
 low:=λi hi=>h.low _ (by omega)
 pos:=λi hi=>h.pos _ (by omega)
 red:=λa b hab hb=>h.red _ _ (by omega) (by omega)
end Go.Lz
namespace Go.PM
open Go Go.RowKit Go.Proofs Go.Lz
abbrev vK:Nat:=400000
def Zr(n:Nat) (v:V):List ByteArray:=(List.range n).map λi=>Zn (v i)
theorem mC(n:Nat)(v:V):(Zr n v).length=n:=by simp[Zr]
theorem aKZ {n i:Nat}(v:V)(h:i<n)(d:ByteArray):(Zr n v).getD i d=Zn (v i):=by simp[Zr,List.getD,h]
theorem X8 {n:Nat}{u v:V}(h:∀ i,i<n->u i=v i):Zr n u=Zr n v:=by
 unfold Zr;refine List.map_congr_left λi hi=>?_
 rw[h i (List.mem_range.1 hi)]
theorem a11 {n:Nat}(u v:V)(t:Nat)(h:t<n):(Zr n λx=>if x<t then v x else u x).set t (Zn (v t))=Zr n λx=>if x<t+1 then v x else u x:=by
 refine List.ext_getElem? λi=>?_
 simp only[Zr,List.getElem?_set,List.length_map,List.length_range,List.getElem?_map]
 by_cases e:t=i
 ·subst e;simp[h]
 ·rw[if_neg e]
  by_cases hi:i<n
  ·simp only[List.getElem?_range hi,Option.map_some]
   congr 2
   by_cases h1:i<t
   ·rw[if_pos h1,if_pos (by omega)]
   ·rw[if_neg h1,if_neg (by omega)]
  ·have h1:(List.range n)[i]?=none:=by simp; omega
   rw[h1]; rfl
theorem aAG {α:Type}(A:List α)(j:Nat)(x d:α)(h:j<A.length):(A.set j x).getD j d=x:=by simp[List.getD,h]
theorem getD_set_ne {α:Type}(A:List α){j k:Nat}(x d:α)(h:j≠k):(A.set j x).getD k d=A.getD k d:=by simp[List.getD,List.getElem?_set_ne h]
theorem aD9 {α:Type}{A:List α}{j:Nat}{x:α}(d:α)(h:A[j]?=some x):A.getD j d=x:=by simp[List.getD,h]
structure aOS (n:Nat) (u v:V) (q:Int):Prop where
 mul:∀ i,i<n->Lib.nDigits q.natAbs+Lib.nDigits (v i).natAbs<=vK
 sub:∀ i,i<n->Lib.nDigits (u i).natAbs<=vK
theorem aR4(a b:Nat):Lib.nDigits (a*b)<=Lib.nDigits a+Lib.nDigits b:=by
 have h1:=jJ a;have h2:=jJ b;have p1:=nDigits_pos a;have p2:=nDigits_pos b;have h4:a*b<10^Lib.nDigits a*10^Lib.nDigits b:=Nat.mul_lt_mul'' h1 h2;rw[<- Nat.pow_add]at h4;obtain⟨k,hk⟩:∃ k,Lib.nDigits a+Lib.nDigits b=k+1:=⟨Lib.nDigits a+Lib.nDigits b-1,by omega⟩;rw[hk]at h4 ⊢;exact uD h4
theorem XP {α:Type}{pre l:List α}{o t:Nat}(h:pre.length=o)(d:α):(pre++l).getD (o+t) d=l.getD t d:=by
 subst h;simp[List.getD,List.getElem?_append_right (Nat.le_add_right _ _)]
theorem aWU {α:Type}{pre l:List α}{o t:Nat}(h:pre.length=o)(x:α):(pre++l).set (o+t) x=pre++l.set t x:=by
 subst h;rw[List.set_append_right _ _ (Nat.le_add_right _ _)]
 congr 2
 omega
theorem aX9 {A:List (List ByteArray)}{J K o n:Nat}{u v:V}{q:Int}{pre pre':List ByteArray}(hn:n<1048576)(hne:J≠K)(hp:pre.length=o)(hp':pre'.length=o)(hJ:A[J]?=some (pre++Zr n u))(hK:A[K]?=some (pre'++Zr n v))(ok:aOS n u v q) :
  p7 ((J,o,n),Zn q,(K,o,n),(n:Int),0,A,())=some (A.set J (pre++Zr n λx=>u x-q*v x),()):=by
 have hJl:J<A.length:=(oO.1 hJ).1;have key:=aU (step:=lS) (N:=2^64)
  (λt=>((J,o,n),Zn q,(K,o,n),(n:Int),(t:Int),A.set J (pre++Zr n λx=>if x<t then u x-q*v x else u x),())) n (A.set J (pre++Zr n λx=>u x-q*v x),()) (by omega) (λt ht=>?_) ?_
 ·have h0:(A.set J (pre++Zr n λx=>if x<0 then u x-q*v x else u x))=A:=by
   have:Zr n (λx=>if x<0 then u x-q*v x else u x)=Zr n u:=X8 λi _=>by simp
   rw[this];refine List.ext_getElem? λi=>?_
   by_cases e:J=i
   ·subst e; rw[List.getElem?_set_self hJl,hJ]
   ·rw[List.getElem?_set_ne e]
  simp only[h0]at key;exact key
 ·have hg:(A.set J (pre++Zr n λx=>if x<t then u x-q*v x else u x)).getD J []=pre++Zr n λx=>if x<t then u x-q*v x else u x:=aAG _ _ _ _ hJl
  have hk:(A.set J (pre++Zr n λx=>if x<t then u x-q*v x else u x)).getD K []=pre'++Zr n v:=by rw[getD_set_ne _ _ _ hne]; exact aD9 _ hK
  have e1:ltI (t:Int) (n:Int)=true:=by rw[aE]; simp; omega
  have e2:aF (t:Int) n=true:=by rw[aM]; simp; omega
  have e3:(o+((t:Nat):Int).toNat)*1=o+t:=by simp
  have e4:cS (A.set J (pre++Zr n λx=>if x<t then u x-q*v x else u x)) J=o+n:=by rw[cS,hg,oH,mC,hp]
  have e5:cS (A.set J (pre++Zr n λx=>if x<t then u x-q*v x else u x)) K=o+n:=by rw[cS,hk,oH,mC,hp']
  have e6:Nat.blt (o+t) (o+n)=true:=by rw[cD]; simpa using ht
  have e7:dK (A.set J (pre++Zr n λx=>if x<t then u x-q*v x else u x)) J (o+t) ByteArray.empty=Zn (u t):=by rw[dK,hg,XP hp,aKZ _ ht]; simp
  have e8:dK (A.set J (pre++Zr n λx=>if x<t then u x-q*v x else u x)) K (o+t) ByteArray.empty=Zn (v t):=by rw[dK,hk,XP hp',aKZ _ ht]
  have e9:vJ (A.set J (pre++Zr n λx=>if x<t then u x-q*v x else u x)) J (o+t) (Zn (u t-q*v t))=A.set J (pre++Zr n λx=>if x<t+1 then u x-q*v x else u x):=by
   rw[vJ,hg,List.set_set,aWU hp];exact oZ (λl=>A.set J (pre++l)) (a11 u (λx=>u x-q*v x) t ht)
  have m1:=aKV q (v t) (ok.mul t ht);have m2:=aTV (u t) (q*v t) (ok.sub t ht) (by rw[Int.natAbs_mul]; exact oR (aR4 _ _) (ok.mul t ht));have e10:=bX t (by omega);simp only[lS,e1,oC,e2,e3,e5,e6,e4,e7,e8,m1,aD,m2,e9,e10]
 ·have e1:ltI (n:Int) (n:Int)=false:=by rw[aE]; simp
  simp only[lS,e1,oD];have:Zr n (λx=>if x<n then u x-q*v x else u x)=Zr n λx=>u x-q*v x:=X8 λi hi=>by simp[hi]
  rw[this]
theorem aRL {α:Type}{A:List α}{J:Nat}{x:α}(h:A[J]?=some x):A.set J x=A:=by
 refine List.ext_getElem? λi=>?_
 by_cases e:J=i
 ·subst e; rw[List.getElem?_set_self (oO.1 h).1,h]
 ·rw[List.getElem?_set_ne e]
theorem a2Z {A:List (List ByteArray)} {J K o n:Nat} {u v:V} {q:Int} {pre pre':List ByteArray} (hn:n<1048576) (hne:J≠K) (hp:pre.length=o) (hp':pre'.length=o) (hJ:A[J]?=some (pre++Zr n u)) (hK:A[K]?=some (pre'++Zr n v)) (ok:aOS n u v q) :
  fO () ((J,o,n),Zn q,(K,o,n),()) A=some ((),A.set J (pre++Zr n λx=>u x-q*v x)):=by
 unfold fO;simp only[NW]
 by_cases hq:q=0
 ·subst hq;simp only[decide_true,oC];have:Zr n (λx=>u x-0*v x)=Zr n u:=X8 λi _=>by simp
  rw[this,aRL hJ]
 ·simp only[hq,decide_false,oD,aX9 hn hne hp hp' hJ hK ok,aD]
theorem negate_eq {A:List (List ByteArray)} {J o n:Nat} {u:V} {pre:List ByteArray} (hn:n<1048576) (hp:pre.length=o) (hJ:A[J]?=some (pre++Zr n u)) (ok:∀ i,i<n->Lib.nDigits (u i).natAbs<=vK) :
  eJ () ((J,o,n),()) A=some ((),A.set J (pre++Zr n λx=>-(u x))):=by
 have hJl:J<A.length:=(oO.1 hJ).1;have key:=aU (step:=kG) (N:=2^64)
  (λt=>((J,o,n),(J,o,n),(n:Int),(t:Int),A.set J (pre++Zr n λx=>if x<t then -(u x) else u x),())) n (A.set J (pre++Zr n λx=>-(u x)),()) (by omega) (λt ht=>?_) ?_
 ·have h0:(A.set J (pre++Zr n λx=>if x<0 then -(u x) else u x))=A:=by
   have:Zr n (λx=>if x<0 then -(u x) else u x)=Zr n u:=X8 λi _=>by simp
   rw[this,aRL hJ]
  simp only[h0]at key;unfold eJ o6;have e0:((0:Nat):Int)=0:=rfl;rw[e0]at key;simp only[key,aD]
 ·have hg:(A.set J (pre++Zr n λx=>if x<t then -(u x) else u x)).getD J []=pre++Zr n λx=>if x<t then -(u x) else u x:=aAG _ _ _ _ hJl
  have e1:ltI (t:Int) (n:Int)=true:=by rw[aE]; simp; omega
  have e2:aF (t:Int) n=true:=by rw[aM]; simp; omega
  have e3:(o+((t:Nat):Int).toNat)*1=o+t:=by simp
  have e4:cS (A.set J (pre++Zr n λx=>if x<t then -(u x) else u x)) J=o+n:=by rw[cS,hg,oH,mC,hp]
  have e6:Nat.blt (o+t) (o+n)=true:=by rw[cD]; simpa using ht
  have e7:dK (A.set J (pre++Zr n λx=>if x<t then -(u x) else u x)) J (o+t) ByteArray.empty=Zn (u t):=by rw[dK,hg,XP hp,aKZ _ ht]; simp
  have e9:vJ (A.set J (pre++Zr n λx=>if x<t then -(u x) else u x)) J (o+t) (Zn (-(u t)))=A.set J (pre++Zr n λx=>if x<t+1 then -(u x) else u x):=by
   rw[vJ,hg,List.set_set,aWU hp];exact oZ (λl=>A.set J (pre++l)) (a11 u (λx=>-(u x)) t ht)
  have m1:=aL8 (u t) (Nat.lt_of_le_of_lt (ok t ht) (by decide));have e10:=bX t (by omega);simp only[kG,e1,oC,e2,e3,e6,e4,e7,m1,aD,e9,e10]
 ·have e1:ltI (n:Int) (n:Int)=false:=by rw[aE]; simp
  simp only[kG,e1,oD];have:Zr n (λx=>if x<n then -(u x) else u x)=Zr n λx=>-(u x):=X8 λi hi=>by simp[hi]
  rw[this]
theorem aE5 {σ τ:Type} {step:σ->Option (σ⊕τ)} {N:Nat} (m:Nat) (I:Nat->σ->Prop) (Q:τ->Prop) (hN:m<N) (x:σ) (h0:I 0 x) (h:∀ t x,t<m->I t x->∃ y,step x=some (.inl y)/\I (t+1) y) (he:∀ x,I m x->∃ z,step x=some (.inr z)/\Q z) :
  ∃ z,bF step N x=some z/\Q z:=by
 have key:∀ (j t:Nat) (x:σ) (N:Nat),t+j=m->j<N->I t x->∃ z,bF step N x=some z/\Q z:=by
  intro j
  induction j with
  | zero =>
   intro t x N ht hN hI;have:t=m:=by omega
   subst this;obtain⟨N,rfl⟩:∃ M,N=M+1:=⟨N-1,by omega⟩;obtain⟨z,h1,h2⟩:=he x hI;exact⟨z,by rw[fS,h1],h2⟩
  | succ j ih =>
   intro t x N ht hN hI;obtain⟨N,rfl⟩:∃ M,N=M+1:=⟨N-1,by omega⟩;obtain⟨y,h1,h2⟩:=h t x (by omega) hI;obtain⟨z,h3,h4⟩:=ih (t+1) y N (by omega) (by omega) h2;exact⟨z,by rw[fS,h1]; exact h3,h4⟩
 exact key m 0 x N (by omega) hN h0
structure lH (o k n:Nat) (m:List (Nat×Nat×Nat)) (A:List (List ByteArray)) (J:Nat->Nat) (M:Nat->V):Prop where
 ml:m=(List.range k).map λi=>(J i,o,n)
 at_:∀ i,i<k->∃ pre:List ByteArray,pre.length=o/\A[J i]?=some (pre++Zr n (M i))
 inj:∀ i j,i<k->j<k->J i=J j->i=j
section
variable {o k n:Nat} {m:List (Nat×Nat×Nat)} {A:List (List ByteArray)} {J:Nat->Nat} {M:Nat->V}
theorem lH.len (h:lH o k n m A J M):m.length=k:=by rw[h.ml]; simp
theorem lH.get (h:lH o k n m A J M){i:Nat}(hi:i<k):m.getD i (0,0,0)=(J i,o,n):=by rw[h.ml]; simp[List.getD,hi]
theorem lH.cS (h:lH o k n m A J M){i:Nat}(hi:i<k):cS A (J i)=o+n:=by
 obtain⟨pre,h1,h2⟩:=h.at_ i hi;rw[PM.cS,aD9 _ h2,oH,mC,h1]
theorem lH.dK (h:lH o k n m A J M){i c:Nat}(hi:i<k)(hc:c<n):dK A (J i) (o+c) ByteArray.empty=Zn (M i c):=by
 obtain⟨pre,h1,h2⟩:=h.at_ i hi;rw[PM.dK,aD9 _ h2,XP h1,aKZ _ hc]
theorem lH.aDJ (h:lH o k n m A J M){i:Nat}(hi:i<k)(r:V){pre:List ByteArray}(hp:pre.length=o):lH o k n m (A.set (J i) (pre++Zr n r)) J (up M i r) where
 ml:=h.ml
 at_:=λj hj=>by
  by_cases e:j=i
  ·subst e;obtain⟨pre',h1,h2⟩:=h.at_ j hj;exact⟨pre,hp,by rw[List.getElem?_set_self (oO.1 h2).1,RQ]⟩
  ·obtain⟨pre',h1,h2⟩:=h.at_ j hj;exact⟨pre',h1,by rw[List.getElem?_set_ne (λe'=>e (h.inj i j hi hj e').symm),IW _ _ e]; exact h2⟩
 inj:=h.inj
theorem lH.less (h:lH o k n m A J M)(hn:n<1048576){i d:Nat}(hi:i<k)(hd:d<k)(hne:i≠d)(q:Int)(ok:aOS n (M i) (M d) q) :
  ∃ A',fO () ((J i,o,n),Zn q,(J d,o,n),()) A=some ((),A')/\lH o k n m A' J (up M i λx=>M i x-q*M d x):=by
 obtain⟨pre,h1,h2⟩:=h.at_ i hi;obtain⟨pre',h3,h4⟩:=h.at_ d hd;exact⟨_,a2Z hn (λe=>hne (h.inj i d hi hd e)) h1 h3 h2 h4 ok,h.aDJ hi _ h1⟩
theorem lH.neg (h:lH o k n m A J M)(hn:n<1048576){i:Nat}(hi:i<k)(ok:∀ x,x<n->Lib.nDigits (M i x).natAbs<=vK) :
  ∃ A',eJ () ((J i,o,n),()) A=some ((),A')/\lH o k n m A' J (up M i λx=>-(M i x)):=by
 obtain⟨pre,h1,h2⟩:=h.at_ i hi;exact⟨_,negate_eq hn h1 h2 ok,h.aDJ hi _ h1⟩
theorem lH.swap (h:lH o k n m A J M){a b:Nat}(ha:a<k)(hb:b<k):lH o k n ((m.set a (J b,o,n)).set b (J a,o,n)) A (λi=>if i=a then J b else if i=b then J a else J i) (swp M a b) where
 ml:=by
  refine List.ext_getElem? λi=>?_
  have hl:=h.len;rw[List.getElem?_map]
  by_cases e1:i=b
  ·subst e1;rw[List.getElem?_set_self (by simp; omega),List.getElem?_range hb]
   by_cases e2:i=a
   ·subst e2; simp
   ·simp[e2]
  ·rw[List.getElem?_set_ne (Ne.symm e1)]
   by_cases e2:i=a
   ·subst e2;rw[List.getElem?_set_self (by omega),List.getElem?_range ha];simp
   ·rw[List.getElem?_set_ne (Ne.symm e2),h.ml,List.getElem?_map]
    by_cases hi:i<k
    ·rw[List.getElem?_range hi];simp[e1,e2]
    ·have:(List.range k)[i]?=none:=by simp; omega
     rw[this]; rfl
 at_:=λi hi=>by
  by_cases e1:i=a
  ·subst e1;simp only[if_true,swp];exact h.at_ b hb
  ·by_cases e2:i=b
   ·subst e2;simp only[e1,if_false,if_true,swp];exact h.at_ a ha
   ·simp only[e1,e2,if_false,swp];exact h.at_ i hi
 inj:=λi j hi hj e=>by
  have key:∀ i,i<k->(if i=a then J b else if i=b then J a else J i)=J (if i=a then b else if i=b then a else i):=λi _=>by
   by_cases e1:i=a
   ·simp[e1]
   ·by_cases e2:i=b
    ·subst e2; simp[e1]
    ·simp[e1,e2]
  simp only[key i hi,key j hj]at e;have lt:∀ i,i<k->(if i=a then b else if i=b then a else i)<k:=λi hi=>by
   split
   ·exact hb
   ·split
    ·exact ha
    ·exact hi
  have:=h.inj _ _ (lt i hi) (lt j hj) e
  by_cases e1:i=a <;> by_cases e2:j=a <;> by_cases e3:i=b <;> by_cases e4:j=b <;> simp_all <;> omega
end
def atv:Option Nat->Int
 | none=>-1
 | some a=>a
structure aZQ (M:Nat->V) (c d t:Nat) (r:Option Nat):Prop where
 none:r=Option.none->∀ i,d<=i->i<d+t->M i c=0
 some:∀ a,r=Option.some a->d<=a/\a<d+t/\M a c≠0/\∀ i,d<=i->i<d+t->M i c≠0->(M a c).natAbs<=(M i c).natAbs
def Cm(k n:Nat) (M:Nat->V):Prop:=∀ i,i<k->∀ x,x<n->Lib.nDigits (M i x).natAbs<=vK
theorem aRU {o k n:Nat}{m:List (Nat×Nat×Nat)}{A:List (List ByteArray)}{J:Nat->Nat}{M:Nat->V}(h:lH o k n m A J M)(hk:k<1048576)(hc:Cm k n M){c d:Nat}(hcn:c<n)(hd:d<=k)(cols:Int) :
  ∃ r,iZ (m,cols,(d:Int),(c:Int),-1,(d:Int),A,())=some (m,cols,(d:Int),(c:Int),atv r,A,())/\aZQ M c d (k-d) r:=by
 have:=aE5 (step:=cY) (N:=2^64) (k-d)
  (λt x=>∃ r,x=(m,cols,(d:Int),(c:Int),atv r,((d+t:Nat):Int),A,())/\aZQ M c d t r)
  (λz=>∃ r,z=(m,cols,(d:Int),(c:Int),atv r,A,())/\aZQ M c d (k-d) r) (by omega) (m,cols,(d:Int),(c:Int),-1,(d:Int),A,())
  ⟨none,rfl,⟨λ_ i h1 h2=>by omega,λa ha=>by cases ha⟩⟩ ?_ ?_
 ·obtain⟨z,h1,r,rfl,h2⟩:=this;exact⟨r,h1,h2⟩
 ·rintro t x ht ⟨r,rfl,hr⟩;have hi:d+t<k:=by omega
  have e1:ltI ((d+t:Nat):Int) (m.length:Int)=true:=by rw[aE,h.len]; simp; omega
  have e2:aF ((d+t:Nat):Int) m.length=true:=by rw[aM,h.len]; simp; omega
  have e3:(((d+t:Nat):Int)).toNat=d+t:=oN _;have e4:Nat.blt (d+t) m.length=true:=by rw[cD,h.len]; simpa using hi
  have e5:aF (c:Int) n=true:=by rw[aM]; simp; omega
  have e6:(o+((c:Nat):Int).toNat)*1=o+c:=by simp
  have e7:Nat.blt (o+c) (o+n)=true:=by rw[cD]; simpa using hcn
  have e8:=bX (d+t) (by omega);have e9:=h.get hi;have e10:=h.cS hi;have e11:=h.dK hi hcn
  by_cases hz:M (d+t) c=0
  ·refine⟨_,?_,r,rfl,⟨λhr0 i h1 h2=>?_,λa ha=>?_⟩⟩
   ·have e12:eqS (Zn (M (d+t) c)) (ByteArray.mk #[48])=true:=by rw[NW]; simp[hz]
    simp only[cY,e1,e2,e3,e4,e9,e5,e6,e10,e7,e11,e12,e8,oC,Bool.not_true,oD];rfl
   ·by_cases e:i=d+t
    ·subst e; exact hz
    ·exact hr.none hr0 i h1 (by omega)
   ·obtain⟨q1,q2,q3,q4⟩:=hr.some a ha;refine⟨q1,by omega,q3,λi h1 h2 h3=>?_⟩
    by_cases e:i=d+t
    ·subst e; exact absurd hz h3
    ·exact q4 i h1 (by omega) h3
  ·have e12:eqS (Zn (M (d+t) c)) (ByteArray.mk #[48])=false:=by rw[NW]; simp[hz]
   cases r with
   | none =>
    have e13:ltI (atv none) 0=true:=by decide
    refine⟨_,?_,some (d+t),rfl,⟨λhr0=>by (cases hr0),λa ha=>?_⟩⟩
    ·simp only[cY,e1,e2,e3,e4,e9,e5,e6,e10,e7,e11,e12,e8,oC,Bool.not_false,e13];rfl
    ·obtain rfl:=oB ha;refine⟨by omega,by omega,hz,λi h1 h2 h3=>?_⟩
     by_cases e:i=d+t
     ·subst e; exact oM _
     ·exact absurd (hr.none rfl i h1 (by omega)) h3
   | some a =>
    obtain⟨q1,q2,q3,q4⟩:=hr.some a rfl;have ha:a<k:=by omega
    have e13:ltI (atv (some a)) 0=false:=by rw[aE]; exact oF (by unfold atv; dsimp only; omega)
    have f2:aF (atv (some a)) m.length=true:=by rw[aM,h.len]; simp[atv]; omega
    have f3:(atv (some a)).toNat=a:=by simp[atv]
    have f4:Nat.blt a m.length=true:=by rw[cD,h.len]; simpa using ha
    have f9:=h.get ha;have f10:=h.cS ha;have f11:=h.dK ha hcn;have c1:=aMY (M (d+t) c);have c2:=aMY (M a c);have c3:=aK4 (M (d+t) c).natAbs (M a c).natAbs (Nat.lt_of_le_of_lt (hc _ hi c hcn) (by decide)) (Nat.lt_of_le_of_lt (hc _ ha c hcn) (by decide))
    by_cases hl:(M (d+t) c).natAbs<(M a c).natAbs
    ·have c4:ltI (aAC (M (d+t) c).natAbs (M a c).natAbs) 0=true:=by rw[aE,aAC,if_pos hl]; rfl
     refine⟨_,?_,some (d+t),rfl,⟨λhr0=>by (cases hr0),λb hb=>?_⟩⟩
     ·simp only[cY,e1,e2,e3,e4,e9,e5,e6,e10,e7,e11,e12,e8,oC,Bool.not_false,e13,oD,f2,f3,f4,f9,f10,f11,c1,c2,c3,c4,aD];rfl
     ·obtain rfl:=oB hb;refine⟨by omega,by omega,hz,λi h1 h2 h3=>?_⟩
      by_cases e:i=d+t
      ·subst e; exact oM _
      ·have:=q4 i h1 (by omega) h3; omega
    ·have c4:ltI (aAC (M (d+t) c).natAbs (M a c).natAbs) 0=false:=by
      rw[aE,aAC,if_neg hl]; split <;> rfl
     refine⟨_,?_,some a,rfl,⟨λhr0=>by (cases hr0),λb hb=>?_⟩⟩
     ·simp only[cY,e1,e2,e3,e4,e9,e5,e6,e10,e7,e11,e12,e8,oC,Bool.not_false,e13,oD,f2,f3,f4,f9,f10,f11,c1,c2,c3,c4,aD];rfl
     ·obtain rfl:=oB hb;refine⟨q1,by omega,q3,λi h1 h2 h3=>?_⟩
      by_cases e:i=d+t
      ·subst e; omega
      ·exact q4 i h1 (by omega) h3
 ·rintro x ⟨r,rfl,hr⟩;have e1:ltI ((d+(k-d):Nat):Int) (m.length:Int)=false:=by rw[aE,h.len]; simp; omega
  refine⟨_,?_,r,rfl,hr⟩;simp only[cY,e1,oD]
theorem RM {T:Nat}(hT:2*Lib.nDigits (T+1)<=vK){a:Nat}(h:a<=T+1):2*Lib.nDigits a<=vK:=oR (Nat.mul_le_mul_left 2 (xI h)) hT
theorem aOA {a m:Int}{T:Nat}(h:a.natAbs<=T)(hm:m≠0):(a.fdiv m).natAbs<=T+1:=by
 have h1:=aSE a m hm;have h2:1<=m.natAbs:=by omega
 have h3:(a.fdiv m).natAbs*m.natAbs<=(T+1)*m.natAbs:=by
  rw[Nat.succ_mul];have:T*1<=T*m.natAbs:=Nat.mul_le_mul_left _ h2;omega
 exact Nat.le_of_mul_le_mul_right h3 (by omega)
theorem aM8 {T n:Nat}(hT:2*Lib.nDigits (T+1)<=vK){u v:V}{q:Int}(hu:∀ x,x<n->(u x).natAbs<=T)(hv:∀ x,x<n->(v x).natAbs<=T)(hq:q.natAbs<=T+1):aOS n u v q:=by
 constructor
 ·intro i hi;have h1:=RM hT hq;have h2:=RM hT (Nat.le_succ_of_le (hv i hi));omega
 ·intro i hi;have h2:=RM hT (Nat.le_succ_of_le (hu i hi));omega
def Big(k n:Nat) (M:Nat->V) (T:Nat):Prop:=∀ i,i<k->∀ x,x<n->(M i x).natAbs<=T
theorem Big.cm {k n T:Nat}{M:Nat->V}(h:Big k n M T)(hT:2*Lib.nDigits (T+1)<=vK):Cm k n M:=λi hi x hx=>by
 have:=RM hT (Nat.le_succ_of_le (h i hi x hx));omega
section
variable {o k n d c:Nat} {m:List (Nat×Nat×Nat)} {A:List (List ByteArray)} {J:Nat->Nat} {M M0:Nat->V} {p:Nat->Nat} {T:Nat}
def rdT(M:Nat->V) (d c t:Nat):Nat->V:=λi=>if d<i/\i<d+1+t then (λx=>M i x-(M i c).fdiv (M d c)*M d x) else M i
theorem aTH(h:lH o k n m A J M)(hk:k<1048576)(hn:n<1048576)(f:Fo k M0 M d c p)(hd:d<k)(hcn:c<n)(hm:M d c≠0)(hB:Big k n M T)(hT:2*Lib.nDigits (T+1)<=vK)(cols:Int) :
  ∃ A' M' rest,mU (m,cols,(d:Int),(c:Int),false,aB .i64 ((d:Int)+1),A,())=some (m,cols,(d:Int),(c:Int),rest,A',())/\lH o k n m A' J M'/\Rd k M M' d c/\Fo k M0 M' d c p/\(∀ i,i<d->M' i=M i) /\
   (rest=true->∃ i,d<i/\i<k/\M' i c≠0)/\(rest=false->∀ i,d<i->i<k->M' i c=0):=by
 have hat:∀ t i,d<i->i<d+1+t->rdT M d c t i c=(M i c).fmod (M d c):=λt i h1 h2=>by
  unfold rdT;rw[if_pos ⟨h1,h2⟩];exact aJV _ _
 have hd0:∀ t,rdT M d c t d=M d:=λt=>by unfold rdT; rw[if_neg (by omega)]
 have:=aE5 (step:=dX) (N:=2^64) (k-(d+1))
  (λt x=>∃ A' rest,x=(m,cols,(d:Int),(c:Int),rest,((d+1+t:Nat):Int),A',())/\lH o k n m A' J (rdT M d c t)/\Fo k M0 (rdT M d c t) d c p/\(rest=true->∃ i,d<i/\i<d+1+t/\(M i c).fmod (M d c)≠0)/\(rest=false->∀ i,d<i->i<d+1+t->(M i c).fmod (M d c)=0))
  (λz=>∃ A' rest,z=(m,cols,(d:Int),(c:Int),rest,A',())/\lH o k n m A' J (rdT M d c (k-(d+1)))/\Fo k M0 (rdT M d c (k-(d+1))) d c p/\(rest=true->∃ i,d<i/\i<k/\(M i c).fmod (M d c)≠0)/\(rest=false->∀ i,d<i->i<k->(M i c).fmod (M d c)=0))
  (by omega) (m,cols,(d:Int),(c:Int),false,aB .i64 ((d:Int)+1),A,()) ?_ ?_ ?_
 ·obtain⟨z,h1,A',rest,rfl,h2,h3,h4,h5⟩:=this;refine⟨A',_,rest,h1,h2,⟨hd0 _,λi g1 g2=>?_⟩,h3,λi hi=>by unfold rdT; rw[if_neg (by omega)],λhr=>?_,λhr i g1 g2=>?_⟩
  ·unfold rdT; rw[if_pos ⟨g1,by omega⟩]
  ·obtain⟨i,g1,g2,g3⟩:=h4 hr;exact⟨i,g1,g2,by rw[hat _ i g1 (by omega)]; exact g3⟩
  ·rw[hat _ i g1 (by omega)]; exact h5 hr i g1 g2
 ·have e:rdT M d c 0=M:=by
   funext i; unfold rdT; rw[if_neg (by omega)]
  refine⟨A,false,?_,by rw[e]; exact h,by rw[e]; exact f,λhr=>(by cases hr),λ_ i g1 g2=>by omega⟩;rw[bX d (by omega)]
 ·rintro t x ht ⟨A',rest,rfl,hL,hF,hr1,hr2⟩;have hi:d+1+t<k:=by omega
  have hMi:rdT M d c t (d+1+t)=M (d+1+t):=by unfold rdT; rw[if_neg (by omega)]
  have e1:ltI ((d+1+t:Nat):Int) (m.length:Int)=true:=by rw[aE,h.len]; exact oT (by omega)
  have e2:aF ((d+1+t:Nat):Int) m.length=true:=by rw[aM,h.len]; exact oT (by omega)
  have e3:(((d+1+t:Nat):Int)).toNat=d+1+t:=oN _;have e4:Nat.blt (d+1+t) m.length=true:=by rw[cD,h.len]; simpa using hi
  have e5:aF (c:Int) n=true:=by rw[aM]; exact oT (by omega)
  have e6:(o+((c:Nat):Int).toNat)*1=o+c:=by simp
  have e7:Nat.blt (o+c) (o+n)=true:=by rw[cD]; simpa using hcn
  have e8:=bX (d+1+t) (by omega);have e9:=hL.get hi;have e10:=hL.cS hi;have e11:=hL.dK hi hcn;rw[hMi]at e11;have f2:aF ((d:Nat):Int) m.length=true:=by rw[aM,h.len]; exact oT (by omega)
  have f3:((d:Nat):Int).toNat=d:=oN _;have f4:Nat.blt d m.length=true:=by rw[cD,h.len]; simpa using hd
  have f9:=hL.get hd;have f10:=hL.cS hd;have f11:=hL.dK hd hcn;rw[hd0]at f11;have b1:=hB _ hi c hcn;have b2:=hB _ hd c hcn;have k1:=RM hT (Nat.le_succ_of_le b1);have k2:=RM hT (Nat.le_succ_of_le b2);have c1:=aAY (M (d+1+t) c) (M d c) (by have:vK=400000:=rfl; omega) (by have:vK=400000:=rfl; omega) hm;obtain⟨A2,c2,c3⟩:=hL.less hn hi hd (by omega) ((M (d+1+t) c).fdiv (M d c)) (by
   rw[hMi,hd0];exact aM8 hT (hB _ hi) (hB _ hd) (aOA b1 hm))
  have hup:up (rdT M d c t) (d+1+t) (λx=>rdT M d c t (d+1+t) x-(M (d+1+t) c).fdiv (M d c)*rdT M d c t d x)=rdT M d c (t+1):=by
   funext i
   by_cases e:i=d+1+t
   ·subst e;rw[RQ,hMi,hd0];unfold rdT;rw[if_pos (by omega)]
   ·rw[IW _ _ e];unfold rdT
    by_cases g:d<i/\i<d+1+t
    ·rw[if_pos g,if_pos (by omega)]
    ·rw[if_neg g,if_neg (by omega)]
  rw[hup]at c3;have hF':Fo k M0 (rdT M d c (t+1)) d c p:=by
   rw[<- hup];exact hF.less _ (by omega) hi
  have c4:eqS (Zn ((M (d+1+t) c).fmod (M d c))) (ByteArray.mk #[48])=decide ((M (d+1+t) c).fmod (M d c)=0):=NW _;have e8':((d+1+t+1:Nat):Int)=((d+1+(t+1):Nat):Int):=by omega
  cases rest with
  | true =>
   refine⟨_,?_,A2,true,rfl,c3,hF',λ_=>?_,λhr=>(by cases hr)⟩
   ·simp only[dX,e1,e2,e3,e4,e9,e5,e6,e10,e7,e11,f2,f3,f4,f9,f10,f11,c1,c2,aD,oC,e8,e8']
   ·obtain⟨i,g1,g2,g3⟩:=hr1 rfl;exact⟨i,g1,by omega,g3⟩
  | false =>
   by_cases hz:(M (d+1+t) c).fmod (M d c)=0
   ·have c5:eqS (Zn ((M (d+1+t) c).fmod (M d c))) (ByteArray.mk #[48])=true:=by rw[c4]; exact oT hz
    refine⟨_,?_,A2,false,rfl,c3,hF',λhr=>(by cases hr),λ_ i g1 g2=>?_⟩
    ·simp only[dX,e1,e2,e3,e4,e9,e5,e6,e10,e7,e11,f2,f3,f4,f9,f10,f11,c1,c2,c5,aD,oC,oD,e8,e8',Bool.not_true]
    ·by_cases e:i=d+1+t
     ·subst e; exact hz
     ·exact hr2 rfl i g1 (by omega)
   ·have c5:eqS (Zn ((M (d+1+t) c).fmod (M d c))) (ByteArray.mk #[48])=false:=by rw[c4]; exact oF hz
    refine⟨_,?_,A2,true,rfl,c3,hF',λ_=>⟨d+1+t,by omega,by omega,hz⟩,λhr=>(by cases hr)⟩;simp only[dX,e1,e2,e3,e4,e9,e5,e6,e10,e7,e11,f2,f3,f4,f9,f10,f11,c1,c2,c5,aD,oC,oD,e8,e8',Bool.not_false]
 ·rintro x ⟨A',rest,rfl,hL,hF,hr1,hr2⟩;have e1:ltI ((d+1+(k-(d+1)):Nat):Int) (m.length:Int)=false:=by rw[aE,h.len]; exact oF (by omega)
  refine⟨_,?_,A',rest,rfl,hL,hF,λhr=>?_,λhr i g1 g2=>hr2 hr i g1 (by omega)⟩
  ·simp only[dX,e1,oD]
  ·obtain⟨i,g1,g2,g3⟩:=hr1 hr;exact⟨i,g1,by omega,g3⟩
theorem aVA {E:Nat} (h:lH o k n m A J M) (hk:k<1048576) (hn:n<1048576) (f:Fp k M0 M d c p 0) (hcn:c<n) (hB:Big k n M T) (hE:∀ i,i<d->∀ x,x<n->(M i x).natAbs<=E) (hET:E<=T) (hT:2*Lib.nDigits (T+1)<=vK) (cols:Int) :
  ∃ A' M',cX (m,cols,(d:Int),(c:Int),(d:Int),0,A,())=some (m,cols,(d:Int),(c:Int),A',())/\lH o k n m A' J M'/\Fp k M0 M' d c p d/\(∀ i,d<=i->M' i=M i)/\∀ i,i<d->∀ x,x<n->(M' i x).natAbs<=E+(E+1)*T:=by
 have hd:=f.dk;have:=aE5 (step:=jF) (N:=2^64) d
  (λt x=>∃ A' M',x=(m,cols,(d:Int),(c:Int),(d:Int),(t:Int),A',())/\lH o k n m A' J M'/\Fp k M0 M' d c p t/\(∀ i,t<=i->M' i=M i)/\∀ i,i<t->∀ x,x<n->(M' i x).natAbs<=E+(E+1)*T)
  (λz=>∃ A' M',z=(m,cols,(d:Int),(c:Int),A',())/\lH o k n m A' J M'/\Fp k M0 M' d c p d/\(∀ i,d<=i->M' i=M i)/\∀ i,i<d->∀ x,x<n->(M' i x).natAbs<=E+(E+1)*T)
  (by omega) (m,cols,(d:Int),(c:Int),(d:Int),0,A,()) ⟨A,M,rfl,h,f,λ_ _=>rfl,λi hi=>by omega⟩ ?_ ?_
 ·obtain⟨z,h1,A',M',rfl,h2⟩:=this;exact⟨A',M',h1,h2⟩
 ·rintro t x ht ⟨A',M',rfl,hL,hF,hr1,hr2⟩;have hi:t<k:=by omega
  have hMi:=hr1 t (oM _);have hMd:=hr1 d (by omega);have e1:ltI (t:Int) (d:Int)=true:=by rw[aE]; exact oT (by omega)
  have e2:aF (t:Int) m.length=true:=by rw[aM,h.len]; exact oT (by omega)
  have e3:((t:Nat):Int).toNat=t:=oN _;have e4:Nat.blt t m.length=true:=by rw[cD,h.len]; simpa using hi
  have e5:aF (c:Int) n=true:=by rw[aM]; exact oT (by omega)
  have e6:(o+((c:Nat):Int).toNat)*1=o+c:=by simp
  have e7:Nat.blt (o+c) (o+n)=true:=by rw[cD]; simpa using hcn
  have e8:=bX t (by omega);have e9:=hL.get hi;have e10:=hL.cS hi;have e11:=hL.dK hi hcn;rw[hMi]at e11;have f2:aF ((d:Nat):Int) m.length=true:=by rw[aM,h.len]; exact oT (by omega)
  have f3:((d:Nat):Int).toNat=d:=oN _;have f4:Nat.blt d m.length=true:=by rw[cD,h.len]; simpa using hd
  have f9:=hL.get hd;have f10:=hL.cS hd;have f11:=hL.dK hd hcn;rw[hMd]at f11;have hm:M d c≠0:=by have:=f.piv; omega
  have b0:=hE t ht c hcn;have b1:=hB _ hi c hcn;have b2:=hB _ hd c hcn;have k1:=RM hT (Nat.le_succ_of_le b1);have k2:=RM hT (Nat.le_succ_of_le b2);have c1:=aAY (M t c) (M d c) (by have:vK=400000:=rfl; omega) (by have:vK=400000:=rfl; omega) hm;obtain⟨A2,c2,c3⟩:=hL.less hn hi hd (by omega) ((M t c).fdiv (M d c)) (by
   rw[hMi,hMd];exact aM8 hT (hB _ hi) (hB _ hd) (aOA b1 hm))
  have hF2:=hF.less ht;rw[hMi,hMd]at hF2 c3;refine⟨_,?_,A2,_,rfl,c3,hF2,λi hi2=>?_,λi hi2 x hx=>?_⟩
  ·simp only[jF,e1,e2,e3,e4,e9,e5,e6,e10,e7,e11,f2,f3,f4,f9,f10,f11,c1,c2,aD,oC,e8]
  ·rw[IW _ _ (by omega)]; exact hr1 i (by omega)
  ·by_cases e:i=t
   ·subst e;rw[RQ];have q1:=aOA b0 hm;have q2:((M i c).fdiv (M d c)*M d x).natAbs=((M i c).fdiv (M d c)).natAbs*(M d x).natAbs:=Int.natAbs_mul _ _;have q3:((M i c).fdiv (M d c)).natAbs*(M d x).natAbs<=(E+1)*T:=Nat.mul_le_mul q1 (hB _ hd x hx);have q4:=hE i (by omega) x hx;omega
   ·rw[IW _ _ e]; exact hr2 i (by omega) x hx
 ·rintro x ⟨A',M',rfl,hL,hF,hr1,hr2⟩;have e1:ltI (d:Int) (d:Int)=false:=by rw[aE]; exact oF (by omega)
  refine⟨_,?_,A',M',rfl,hL,hF,hr1,hr2⟩;simp only[jF,e1,oD]
end
def Wd(k n:Nat) (M:Nat->V):Prop:=∀ i,i<k->∀ x,n<=x->M i x=0
section
variable {o k n d c:Nat} {m:List (Nat×Nat×Nat)} {A:List (List ByteArray)} {J:Nat->Nat} {M M0:Nat->V} {p:Nat->Nat} {T E:Nat}
theorem Big.all (h:Big k n M T)(hw:Wd k n M):∀ i,i<k->∀ x,(M i x).natAbs<=T:=λi hi x=>by
 rcases oG x n with g|g
 ·exact h i hi x g
 ·rw[hw i hi x g]; exact Nat.zero_le _
theorem pass(h:lH o k n m A J M) (hk:k<1048576) (hn:n<1048576) (f:Fo k M0 M d c p) (hcn:c<n) (hB:Big k n M T) (hw:Wd k n M) (hE:∀ i,i<d->∀ x,x<n->(M i x).natAbs<=E) (hET:E<=T) (hT:2*Lib.nDigits (T+1)<=vK) {a:Nat} (hd:d<k) (ha:d<=a) (hak:a<k) (hm:M a c≠0)
  (cols:Int) (hfind:iZ (m,cols,(d:Int),(c:Int),-1,(d:Int),A,())=some (m,cols,(d:Int),(c:Int),(a:Int),A,())) :
  ∃ m1 A' J' M',lH o k n m1 A' J' M'/\Rd k (swp M d a) M' d c/\Fo k M0 M' d c p/\(∀ i,i<d->M' i=M i)/\Wd k n M' /\
   ((∃ i,d<i/\i<k/\M' i c≠0)->cW (m,cols,(d:Int),(c:Int),A,())=some (.inl (m1,cols,(d:Int),(c:Int),A',()))) /\
   ((∀ i,d<i->i<k->M' i c=0)->Big k n M' T->∃ A'' M'' p',cW (m,cols,(d:Int),(c:Int),A,())=some (.inr (m1,cols,((d+1:Nat):Int),(c:Int),A'',()))/\lH o k n m1 A'' J' M''/\Fo k M0 M'' (d+1) (c+1) p'/\Wd k n M''/\Big k n M'' (E+(E+1)*T)):=by
 obtain⟨J',hs⟩:∃ J',lH o k n ((m.set d (J a,o,n)).set a (J d,o,n)) A J' (swp M d a):=⟨_,h.swap hd hak⟩;have hsw:∀ i,i<k->∃ j,j<k/\swp M d a i=M j:=λi hi=>by
  unfold swp;split
  ·exact⟨a,hak,rfl⟩
  ·split
   ·exact⟨d,hd,rfl⟩
   ·exact⟨i,hi,rfl⟩
 have hBs:Big k n (swp M d a) T:=λi hi x hx=>by
  obtain⟨j,h1,h2⟩:=hsw i hi;rw[h2]; exact hB j h1 x hx
 have hws:Wd k n (swp M d a):=λi hi x hx=>by
  obtain⟨j,h1,h2⟩:=hsw i hi;rw[h2]; exact hw j h1 x hx
 have hpd:swp M d a d=M a:=by simp[swp]
 obtain⟨A',M',rest,g1,g2,g3,g4,g5,g6,g7⟩:=aTH hs hk hn (f.swap ha hak) hd hcn (by rw[hpd]; exact hm) hBs hT cols;have hw':Wd k n M':=λi hi x hx=>by
  rcases Nat.lt_trichotomy i d with q|q|q
  ·rw[g5 i q]; exact hws i hi x hx
  ·subst q; rw[g3.1]; exact hws i hi x hx
  ·rw[g3.2 i q hi];simp only[hws i hi x hx,hws d hd x hx,Int.mul_zero,Int.sub_zero]
 have hlow:∀ i,i<d->M' i=M i:=λi hi=>by
  rw[g5 i hi];unfold swp;rw[if_neg (by omega),if_neg (by omega)]
 -- what the pass begins with
 have e1:ltI (a:Int) 0=false:=by rw[aE]; exact oF (by omega)
 have e2:aF (a:Int) m.length=true:=by rw[aM,h.len]; exact oT (by omega)
 have e3:((a:Nat):Int).toNat=a:=oN _;have e4:Nat.blt a m.length=true:=by rw[cD,h.len]; simpa using hak
 have f2:aF (d:Int) m.length=true:=by rw[aM,h.len]; exact oT (by omega)
 have f3:((d:Nat):Int).toNat=d:=oN _;have f4:Nat.blt d m.length=true:=by rw[cD,h.len]; simpa using hd
 have e9:=h.get hak;have f9:=h.get hd;have s1:(m.set d (J a,o,n)).length=m.length:=by simp
 have first:cW (m,cols,(d:Int),(c:Int),A,()) =
   (bif rest then some (.inl ((m.set d (J a,o,n)).set a (J d,o,n),cols,(d:Int),(c:Int),A',()))
   else bif aF (d:Int) ((m.set d (J a,o,n)).set a (J d,o,n)).length then bif Nat.blt d ((m.set d (J a,o,n)).set a (J d,o,n)).length then bif aF (c:Int) (((m.set d (J a,o,n)).set a (J d,o,n)).getD d (0,0,0)).2.2 then
    bif Nat.blt (((((m.set d (J a,o,n)).set a (J d,o,n)).getD d (0,0,0)).2.1+((c:Nat):Int).toNat)*1) (cS A' (((m.set d (J a,o,n)).set a (J d,o,n)).getD d (0,0,0)).1) then
    aC (D4 ((dK A' (((m.set d (J a,o,n)).set a (J d,o,n)).getD d (0,0,0)).1 (((((m.set d (J a,o,n)).set a (J d,o,n)).getD d (0,0,0)).2.1+((c:Nat):Int).toNat)*1) ByteArray.empty),())) λy23 =>
    bif ltI y23.1 0 then
     bif aF (d:Int) ((m.set d (J a,o,n)).set a (J d,o,n)).length then bif Nat.blt d ((m.set d (J a,o,n)).set a (J d,o,n)).length then
     aC (eJ () (((((m.set d (J a,o,n)).set a (J d,o,n)).getD d (0,0,0)).1,(((m.set d (J a,o,n)).set a (J d,o,n)).getD d (0,0,0)).2.1,(((m.set d (J a,o,n)).set a (J d,o,n)).getD d (0,0,0)).2.2),()) A') λy24 =>
     aC (cX ((m.set d (J a,o,n)).set a (J d,o,n),cols,(d:Int),(c:Int),(d:Int),0,y24.2,())) λz25 =>
     some (.inr ((z25.1,z25.2.1,(aB .i64 (z25.2.2.1+1)),z25.2.2.2.1,z25.2.2.2.2.1,()))) else none else none
    else aC (cX ((m.set d (J a,o,n)).set a (J d,o,n),cols,(d:Int),(c:Int),(d:Int),0,A',())) λz26 =>
    some (.inr ((z26.1,z26.2.1,(aB .i64 (z26.2.2.1+1)),z26.2.2.2.1,z26.2.2.2.2.1,()))) else none else none else none else none):=by
  simp only[cW,hfind,aD,e1,oD,e2,e3,e4,f2,f3,f4,e9,f9,s1,oC,g1]
 refine⟨_,A',J',M',g2,g3,g4,hlow,hw',λhex=>?_,λhz hB'=>?_⟩
 ·obtain⟨i,q1,q2,q3⟩:=hex;have hr:rest=true:=by
   cases rest with
   | true=>rfl
   | false=>exact absurd (g7 rfl i q1 q2) q3
  rw[first,hr]; rfl
 ·have hr:rest=false:=by
   cases rest with
   | false=>rfl
   | true =>
    obtain⟨i,q1,q2,q3⟩:=g6 rfl;exact absurd (hz i q1 q2) q3
  have hmd:M' d c≠0:=by rw[g3.1,hpd]; exact hm
  have t1:=g2.len;have t2:aF (d:Int) k=true:=by rw[aM]; exact oT (by omega)
  have t3:Nat.blt d k=true:=by rw[cD]; simpa using hd
  have t4:=g2.get hd;have t5:aF (c:Int) n=true:=by rw[aM]; exact oT (by omega)
  have t6:(o+((c:Nat):Int).toNat)*1=o+c:=by simp
  have t7:Nat.blt (o+c) (o+n)=true:=by rw[cD]; simpa using hcn
  have t8:=g2.cS hd;have t9:=g2.dK hd hcn;have t10:=aBK (M' d c);have t11:=bX d (by omega);have hE':∀ i,i<d->∀ x,x<n->(M' i x).natAbs<=E:=λi hi x hx=>by rw[hlow i hi]; exact hE i hi x hx
  have fin:∀ (A1:List (List ByteArray)) (M1:Nat->V),lH o k n ((m.set d (J a,o,n)).set a (J d,o,n)) A1 J' M1->Fo k M0 M1 d c p->0<M1 d c->(∀ i,d<i->i<k->M1 i c=0)->Big k n M1 T->Wd k n M1->(∀ i,i<d->M1 i=M' i) ->
    ∃ A'' M'' p',cX ((m.set d (J a,o,n)).set a (J d,o,n),cols,(d:Int),(c:Int),(d:Int),0,A1,())=some ((m.set d (J a,o,n)).set a (J d,o,n),cols,(d:Int),(c:Int),A'',())/\lH o k n ((m.set d (J a,o,n)).set a (J d,o,n)) A'' J' M''/\Fo k M0 M'' (d+1) (c+1) p'/\Wd k n M''/\Big k n M'' (E+(E+1)*T):=by
   intro A1 M1 q1 q2 q3 q4 q5 q6 q7;obtain⟨A2,M2,r1,r2,r3,r4,r5⟩:=aVA q1 hk hn { toFo:=q2,dk:=hd,piv:=q3,below:=q4,up:=λi hi=>by omega } hcn q5 (λi hi x hx=>by rw[q7 i hi]; exact hE' i hi x hx) hET hT cols;refine⟨A2,M2,_,r1,r2,r3.done,λi hi x hx=>?_,λi hi x hx=>?_⟩
   ·rcases oG i d with g|g
    ·have hs0:Same k M0 k M2:=r3.same;have h0:∀ j,j<k->M0 j x=0:=λj hj=>Sp.lC (M:=M1) (λl hl=>q6 l hl x hx) ((q2.same _).1 (Sp.mem hj))
     exact Sp.lC (M:=M0) h0 ((hs0 _).2 (Sp.mem hi))
    ·rw[r4 i g]; exact q6 i hi x hx
   ·rcases oG i d with g|g
    ·exact r5 i g x hx
    ·rw[r4 i g];have:=q5 i hi x hx;have:T*1<=T*(E+1):=Nat.mul_le_mul_left _ (by omega);rw[Nat.mul_comm (E+1) T];omega
  by_cases hn0:M' d c<0
  ·obtain⟨A1,u1,u2⟩:=g2.neg hn hd (λx hx=>(hB'.cm hT) d hd x hx);have l1:up M' d (λx=>-(M' d x)) d c = -(M' d c):=by rw[RQ]
   obtain⟨A2,M2,p2,r1,r2,r3,r4,r5⟩:=fin A1 _ u2 (g4.neg hd) (by rw[l1]; omega) (λi q1 q2=>by rw[IW _ _ (by omega)]; exact hz i q1 q2)
    (λi hi x hx=>by
     by_cases e:i=d
     ·subst e; rw[RQ,Int.natAbs_neg]; exact hB' i hi x hx
     ·rw[IW _ _ e]; exact hB' i hi x hx)
    (λi hi x hx=>by
     by_cases e:i=d
     ·subst e; rw[RQ,hw' i hi x hx]; rfl
     ·rw[IW _ _ e]; exact hw' i hi x hx)
    (λi hi=>IW _ _ (by omega))
   refine⟨A2,M2,p2,?_,r2,r3,r4,r5⟩;have s2:ltI (M' d c).sign 0=true:=by rw[aE,Int.sign_eq_neg_one_of_neg hn0]; rfl
   rw[first,hr];simp only[oD,t1,t2,t3,t4,t5,t6,t7,t8,t9,t10,aD,oC,s2,u1,r1,t11]
  ·obtain⟨A2,M2,p2,r1,r2,r3,r4,r5⟩:=fin A' _ g2 g4 (by omega) hz hB' hw' (λ_ _=>rfl);refine⟨A2,M2,p2,?_,r2,r3,r4,r5⟩;have s2:ltI (M' d c).sign 0=false:=by rw[aE,Int.sign_eq_one_of_pos (by omega)]; rfl
   rw[first,hr];simp only[oD,t1,t2,t3,t4,t5,t6,t7,t8,t9,t10,aD,oC,s2,r1,t11]
end
structure St (k n d E T:Nat):Prop where
 e1:1<=E
 et:E<=T
 eu:d+1<k->9*E^5<=T
 fit:2*Lib.nDigits (T+1)<=vK
def a7K(o k n d c:Nat) (M0:Nat->V) (cols:Int) (E T:Nat) (z:List (Nat×Nat×Nat)×Int×Int×Int×List (List ByteArray)×Unit):Prop :=
 ∃ m' A' J' M' d' p',z=(m',cols,((d':Nat):Int),(c:Int),A',())/\lH o k n m' A' J' M'/\Fo k M0 M' d' (c+1) p'/\Wd k n M'/\((d'=d/\Big k n M' E)\/(d'=d+1/\Big k n M' (E+(E+1)*T)))
section
variable {o k n d c:Nat} {m:List (Nat×Nat×Nat)} {A:List (List ByteArray)} {J:Nat->Nat} {M M0:Nat->V} {p:Nat->Nat} {T E:Nat}
theorem aZC {a g:Nat}(h:a<10^g):a<2^(4*g):=by
 refine Nat.lt_of_lt_of_le h ?_;rw[Nat.pow_mul];exact Nat.pow_le_pow_left (by decide) g
theorem rounds(hk:k<1048576) (hn:n<1048576) (hcn:c<n) (hT:2*Lib.nDigits (T+1)<=vK) (hET:E<=T) {C:Nat} (hC:3*C<=T) (cols:Int):∀ (R N P:Nat) {m:List (Nat×Nat×Nat)} {A:List (List ByteArray)} {J:Nat->Nat} {M:Nat->V},
  lH o k n m A J M->Fo k M0 M d c p->Wd k n M->(∀ i,i<d->∀ x,x<n->(M i x).natAbs<=E)->Bt k M d c C->Pt k M d c P->P<2^R->R<N->∃ z,bF cW N (m,cols,(d:Int),(c:Int),A,())=some z/\a7K o k n d c M0 cols E T z
 | 0,N,P,m,A,J,M,h,f,hw,hE,hB,hP,hlt,_=>by
  obtain⟨i,w1,w2,w3,w4⟩:=hP;have:=hB.piv;have h1:1*1<=(M d c).natAbs*(M i c).natAbs:=Nat.mul_le_mul (by omega) (by omega);simp at hlt;omega
 | R+1,N+1,P,m,A,J,M,h,f,hw,hE,hB,hP,hlt,hN=>by
  obtain⟨E1,b1,i0,b2,b3,b4,b5⟩:=hB.ex;have hdk:=hB.dk;have hmp:=hB.piv;have hE1:E1<=C:=by
   have h1:E1*1<=E1*((M d c).natAbs^3*(M i0 c).natAbs):=Nat.mul_le_mul_left _ (Nat.mul_pos (Nat.pow_pos (by omega)) (by omega));have h2:E1*((M d c).natAbs^3*(M i0 c).natAbs)=E1*(M d c).natAbs^3*(M i0 c).natAbs:=by rw[Nat.mul_assoc]
   omega
  have hBig:Big k n M T:=λi hi x hx=>by
   rcases oG i d with g|g
   ·exact oR (hE i g x hx) hET
   ·have:=(b1 i g hi).1 x;omega
  obtain⟨r,f1,f2⟩:=aRU h hk (hBig.cm hT) hcn (Nat.le_of_lt hdk) cols;cases r with
  | none=>exact absurd (f2.none rfl d (oM _) (by omega)) hmp
  | some a =>
   obtain⟨q1,q2,q3,q4⟩:=f2.some a rfl;have hak:a<k:=by omega
   have hmin:∀ i,d<=i->i<k->M i c≠0->(M a c).natAbs<=(M i c).natAbs:=λi g1 g2 g3=>q4 i g1 (by omega) g3
   obtain⟨m1,A',J',M',s1,s2,s3,s4,s5,s6,s7⟩:=pass h hk hn f hcn hBig hw hE hET hT hdk q1 hak q3 cols f1;have hE':∀ i,i<d->∀ x,x<n->(M' i x).natAbs<=E:=λi hi x hx=>by rw[s4 i hi]; exact hE i hi x hx
   by_cases hz:∀ i,d<i->i<k->M' i c=0
   ·rcases hB.round q1 hak q3 hmin s2 with ⟨_,A1,g1⟩|⟨g1,_⟩
    ·have hBig':Big k n M' T:=λi hi x hx=>by
      rcases oG i d with g|g
      ·exact oR (hE' i g x hx) hET
      ·exact oR ((g1 i g hi).1 x) hC
     obtain⟨A2,M2,p2,u1,u2,u3,u4,u5⟩:=s7 hz hBig';exact⟨_,by rw[fS,u1],m1,A2,J',M2,d+1,p2,rfl,u2,u3,u4,.inr ⟨rfl,u5⟩⟩
    ·obtain⟨_,_,i,z1,z2,z3,_⟩:=g1.ex;exact absurd (hz i z1 z2) z3
   ·have hex:∃ i,d<i/\i<k/\M' i c≠0:=by
     obtain⟨i,hi⟩:=Classical.not_forall.1 hz;obtain⟨g1,hi⟩:=Classical.not_forall.1 hi;obtain⟨g2,g3⟩:=Classical.not_forall.1 hi;exact⟨i,g1,g2,g3⟩
    rcases hB.round q1 hak q3 hmin s2 with ⟨g0,_⟩|⟨g1,_⟩
    ·exact absurd g0 hz
    ·have hP':=hB.half q1 hak q3 hmin s2 hz hP;obtain⟨z,v1,v2⟩:=rounds hk hn hcn hT hET hC cols R N (P/2) s1 s3 s5 hE' g1 hP' (by rw[Nat.pow_succ]at hlt; omega) (by omega);exact⟨z,by rw[fS,s6 hex]; exact v1,v2⟩
theorem column(hk:k<1048576) (hn:n<1048576) (h:lH o k n m A J M) (f:Fo k M0 M d c p) (hw:Wd k n M) (hd:d<k) (hcn:c<n) (hE:Big k n M E) (st:St k n d E T) (cols:Int) :
  ∃ z,jE (m,cols,(d:Int),(c:Int),A,())=some z/\a7K o k n d c M0 cols E T z:=by
 have hBig:Big k n M T:=λi hi x hx=>oR (hE i hi x hx) st.et
 have hEl:∀ i,i<d->∀ x,x<n->(M i x).natAbs<=E:=λi hi x hx=>hE i (by omega) x hx
 obtain⟨r,f1,f2⟩:=aRU h hk (hBig.cm st.fit) hcn (Nat.le_of_lt hd) cols;unfold jE;obtain⟨N,hN⟩:∃ N,2^64=N+1:=⟨2^64-1,by omega⟩;rw[hN];cases r with
 | none =>
  have e1:ltI (atv none) 0=true:=by decide
  refine⟨_,?_,m,A,J,M,d,p,rfl,h,f.skip λi h1 h2=>f2.none rfl i h1 (by omega),hw,.inl ⟨rfl,hE⟩⟩;rw[fS];simp only[cW,f1,aD,e1,oC]
 | some a =>
  obtain⟨q1,q2,q3,q4⟩:=f2.some a rfl;have hak:a<k:=by omega
  obtain⟨m1,A',J',M',s1,s2,s3,s4,s5,s6,s7⟩:=pass h hk hn f hcn hBig hw hEl st.et st.fit hd q1 hak q3 cols f1;have hE':∀ i,i<d->∀ x,x<n->(M' i x).natAbs<=E:=λi hi x hx=>by rw[s4 i hi]; exact hEl i hi x hx
  have hWi:Wi k (swp M d a) d c E E:=(show Wi k M d c E E from λi g1 g2=>⟨λx=>hE.all hw i g2 x,hE.all hw i g2 c⟩).swap q1 hak;have hpd:swp M d a d=M a:=by simp[swp]
  have hfirst:=s2.first hWi hd (by rw[hpd]; exact q3);have hpow:3*(3*(E*E)*E^3)=9*E^5:=by grind
  by_cases hdk:d+1<k
  ·have h9:=st.eu hdk;rcases hfirst with ⟨hz,g1⟩|g1
   ·have hBig':Big k n M' T:=λi hi x hx=>by
     rcases oG i d with g|g
     ·exact oR (hE' i g x hx) st.et
     ·have:=(g1 i g hi).1 x;have h3:3*(E*E)*1<=3*(E*E)*E^3:=Nat.mul_le_mul_left _ (Nat.pow_pos st.e1);omega
    obtain⟨A2,M2,p2,u1,u2,u3,u4,u5⟩:=s7 hz hBig';exact⟨_,by rw[fS,u1],m1,A2,J',M2,d+1,p2,rfl,u2,u3,u4,.inr ⟨rfl,u5⟩⟩
   ·obtain⟨E1,b1,i0,b2,b3,b4,b5⟩:=g1.ex;have hPt:Pt k M' d c (T*T):=by
     refine⟨i0,b2,b3,b4,Nat.mul_le_mul ?_ ?_⟩
     ·rw[s2.1,hpd]; exact hBig a hak c hcn
     ·have h1:=(g1.sign i0 b2 b3).1;rw[s2.1,hpd]at h1;exact oR (Nat.le_of_lt h1) (hBig a hak c hcn)
    have hT2:T*T<2^(8*Lib.nDigits (T+1)):=by
     have h1:=aZC (jJ (T+1));have h2:(T+1)*(T+1)<2^(4*Lib.nDigits (T+1))*2^(4*Lib.nDigits (T+1)):=Nat.mul_lt_mul'' h1 h1;rw[<- Nat.pow_add]at h2;have h3:4*Lib.nDigits (T+1)+4*Lib.nDigits (T+1)=8*Lib.nDigits (T+1):=by omega
     rw[h3]at h2;have h4:T*T<=(T+1)*(T+1):=Nat.mul_le_mul (by omega) (by omega);omega
    have hex:∃ i,d<i/\i<k/\M' i c≠0:=⟨i0,b2,b3,b4⟩;obtain⟨z,v1,v2⟩:=rounds hk hn hcn st.fit st.et (C:=3*(E*E)*E^3) (by omega) cols (8*Lib.nDigits (T+1)) N (T*T) s1 s3 s5 hE' g1 hPt hT2 (by have:=st.fit; have:vK=400000:=rfl; omega);exact⟨z,by rw[fS,s6 hex]; exact v1,v2⟩
  ·have hz:∀ i,d<i->i<k->M' i c=0:=λi g1 g2=>by omega
   have hBig':Big k n M' T:=λi hi x hx=>by
    rcases oG i d with g|g
    ·exact oR (hE' i g x hx) st.et
    ·have:i=d:=by omega
     subst this;rw[s2.1,hpd];exact hBig a hak x hx
   obtain⟨A2,M2,p2,u1,u2,u3,u4,u5⟩:=s7 hz hBig';exact⟨_,by rw[fS,u1],m1,A2,J',M2,d+1,p2,rfl,u2,u3,u4,.inr ⟨rfl,u5⟩⟩
structure Bds (k n:Nat) (E T:Nat->Nat):Prop where
 st:∀ d,d<k->d<n->St k n d (E d) (T d)
 up:∀ d,d<k->d<n->E d+(E d+1)*T d<=E (d+1)
theorem a4N {d t:Nat}{p:Nat->Nat}{M':Nat->V}(h:Fo k M M' d t p):d<=t:=by
 have:∀ i,i<d->i<=p i:=by
  intro i
  induction i with
  | zero=>exact λ_=>Nat.zero_le _
  | succ i ih=>intro hi; have:=ih (by omega); have:=h.inc i (i+1) (by omega) hi; omega
 rcases Nat.eq_zero_or_pos d with h0|h0
 ·omega
 ·have:=this (d-1) (by omega); have:=h.lt (d-1) (by omega); omega
theorem UP {E T:Nat->Nat} (hk:k<1048576) (hn:n<1048576) (h:lH o k n m A J M) (hw:Wd k n M) (hE:Big k n M (E 0)) (hb:Bds k n E T) :
  ∃ m' A' J' M' d p,cO m ((n:Int),()) A=some (m'.take d,A')/\d<=k/\lH o k n m' A' J' M'/\Hn d M' p/\Same k M d M'/\Wd k n M'/\Big k n M' (E d):=by
 have fin:∀ (N:Nat) {m':List (Nat×Nat×Nat)} {A':List (List ByteArray)} {J':Nat->Nat} {M':Nat->V} {d t:Nat} {p:Nat->Nat},t<=n->n-t<N->lH o k n m' A' J' M'->Fo k M M' d t p->Wd k n M'->Big k n M' (E d) ->
   ∃ z,bF dZ N (m',(n:Int),(d:Int),(t:Int),A',())=some z/\∃ (m':List (Nat×Nat×Nat)) (A':List (List ByteArray)) (J':Nat->Nat) (M':Nat->V) (d:Nat) (p:Nat->Nat),z=(m',(d:Int),A',())/\lH o k n m' A' J' M'/\(d<=k/\Hn d M' p/\Same k M d M')/\Wd k n M'/\Big k n M' (E d):=by
  intro N
  induction N with
  | zero=>intro m' A' J' M' d t p h1 h2; omega
  | succ N ih =>
   intro m' A' J' M' d t p h1 h2 hL hF hW hB;rw[fS];rcases oG t n with ht|ht
   ·have e1:ltI (t:Int) (n:Int)=true:=by rw[aE]; exact oT (by omega)
    rcases oG d k with hd|hd
    ·have e2:ltI (d:Int) (m'.length:Int)=true:=by rw[aE,hL.len]; exact oT (by omega)
     obtain⟨z,z1,m2,A2,J2,M2,d2,p2,rfl,y1,y2,y3,y4⟩:=column hk hn hL hF hW hd ht hB (hb.st d hd (Nat.lt_of_le_of_lt (a4N hF) ht)) (n:Int);have e3:=bX t (by omega);have hs:dZ (m',(n:Int),(d:Int),(t:Int),A',())=some (.inl (m2,(n:Int),(d2:Int),((t+1:Nat):Int),A2,())):=by simp only[dZ,e1,e2,oC,z1,aD,e3]
     rw[hs];refine ih (by omega) (by omega) y1 y2 y3 ?_;rcases y4 with ⟨rfl,y4⟩|⟨rfl,y4⟩
     ·exact y4
     ·exact λi hi x hx=>oR (y4 i hi x hx) (hb.up d hd (Nat.lt_of_le_of_lt (a4N hF) ht))
    ·have hdk:d=k:=by have:=hF.le; omega
     have e2:ltI (d:Int) (m'.length:Int)=false:=by rw[aE,hL.len]; exact oF (by omega)
     refine⟨_,by simp only[dZ,e1,e2,oC,oD],m',A',J',M',d,p,rfl,hL,⟨hF.le,hF.hn (.inl hdk)⟩,hW,hB⟩
   ·have htn:t=n:=by omega
    subst htn;have e1:ltI (t:Int) (t:Int)=false:=by rw[aE]; exact oF (by omega)
    refine⟨_,by simp only[dZ,e1,oD],m',A',J',M',d,p,rfl,hL,⟨hF.le,hF.hn (.inr λi hi x hx=>hW i hi x hx)⟩,hW,hB⟩
 obtain⟨z,z1,m',A',J',M',d,p,rfl,y1,⟨y2,y3,y4⟩,y5,y6⟩:=fin (2^64) (Nat.zero_le n) (by omega) h (Fo.start k M) hw hE;refine⟨m',A',J',M',d,p,?_,y2,y1,y3,y4,y5,y6⟩;have z2:mX (m,(n:Int),0,0,A,())=some (m',(d:Int),A',()):=z1;have e4:ltI (d:Int) 0=false:=by rw[aE]; exact oF (by omega)
 have e5:((d:Nat):Int).toNat=d:=oN _;have hl:=y1.len;unfold cO;simp only[z2,aD,hl,e4,e5,Bool.not_false,oC]
 by_cases hk0:k=0
 ·have hd0:d=0:=by omega
  subst hk0; subst hd0;have:m'=[]:=List.eq_nil_of_length_eq_zero hl;subst this;rfl
 ·have e6:Nat.beq k 0=false:=by
   cases k with
   | zero=>exact absurd rfl hk0
   | succ k=>rfl
  have e7:Nat.ble 0 d=true:=rfl;have e8:Nat.ble d k=true:=by rw[dN]; simpa using y2
  have e9:Nat.blt 0 k=true:=by rw[cD]; simp; omega
  simp only[e6,e7,e8,e9,oC,oD,Nat.sub_zero]
end
end Go.PM
