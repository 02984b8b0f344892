/- Texts of one proof, joined (8). -/
import Derived.Test.YtbjdceodppagoaaGreatDoorQT7
set_option linter.unusedSimpArgs false
set_option linter.unusedVariables false
set_option maxRecDepth 100000
noncomputable section
namespace Go.De
abbrev pw(i:Nat):Int:=(1000000000:Int)^i
theorem DO:pw 0=1:=rfl
theorem qA i:pw (i+1)=1000000000*pw i:=by grind
theorem sE i:0<pw i:=Int.pow_pos (by simp)
theorem xL i j:pw (i+j)=pw i*pw j:=by grind
theorem ED {i j}(h:i<=j):pw i<=pw j:=by
 obtain⟨k,rfl⟩:=Nat.exists_eq_add_of_le h;rw[xL];have h1:=sE i;have h2:=sE k;have:pw i*1<=pw i*pw k:=Int.mul_le_mul_of_nonneg_left (by omega) (by omega);omega
def vl:List Int->Int
 | []=>0
 | x::l=>x+1000000000*vl l
def Pc(l:List Int):Prop:=∀ x∈l,0<=x/\x<1000000000
theorem Pc.nil:Pc []:=λ_ h=>by cases h
theorem Pc.cons {x l}(h:0<=x/\x<1000000000)(hl:Pc l):Pc (x::l):=λy hy=>by
 rcases List.mem_cons.1 hy with rfl|hy
 ·omega
 ·exact hl y hy
theorem Pc.head {x l}(h:Pc (x::l)):0<=x/\x<1000000000:=h x (by simp)
theorem Pc.tail {x l}(h:Pc (x::l)):Pc l:=λy hy=>h y (by grind)
theorem Pc.append {a b}(ha:Pc a)(hb:Pc b):Pc (a++b):=λx hx=>(List.mem_append.1 hx).elim (ha x) (hb x)
theorem Pc.left {a b}(h:Pc (a++b)):Pc a:=λx hx=>h x (List.mem_append_left _ hx)
theorem Pc.set {l}(h:Pc l){x}(hx:0<=x/\x<1000000000) i:Pc (l.set i x):=λy hy=>by
 rcases List.mem_or_eq_of_mem_set hy with h1|rfl
 ·exact h y h1
 grind
theorem MJ {l:List Int}{i}(h:i<l.length):l.getD i 0∈l:=by grind
theorem Pc.get {l}(h:Pc l) i:0<=l.getD i 0/\l.getD i 0<1000000000:=by
 rcases Nat.lt_or_ge i l.length with h1|h1
 ·exact h _ (MJ h1)
 grind
theorem Pc.rep n:Pc (List.replicate n 0):=λx hx=>by grind
theorem pK:∀ a b,vl (a++b)=vl a+pw a.length*vl b
 | [],b=>by simp[vl]
 | x::a,b=>by
  rw[List.cons_append,vl,vl,pK a b,List.length_cons,qA];grind
theorem u9:∀ n,vl (List.replicate n 0)=0
 | 0=>rfl
 | n+1=>by rw[List.replicate_succ,vl,u9 n]; rfl
theorem xW:∀ l i x,i<l.length->vl (l.set i x)=vl l+(x-l.getD i 0)*pw i
 | [],i,x,h=>absurd h (Nat.not_lt_zero _)
 | y::l,0,x,h=>by simp[vl]; omega
 | y::l,i+1,x,h=>by
  rw[List.set_cons_succ,vl,vl,xW l i x (by grind),qA,List.getD_cons_succ];grind
theorem fL:∀ {l},Pc l->0<=vl l
 | [],_=>Int.le_refl _
 | x::l,h=>by
  have h1:=fL h.tail;have h2:=h.head;rw[vl]; omega
theorem rZ:∀ {l},Pc l->vl l<pw l.length
 | [],_=>by decide
 | x::l,h=>by
  have h1:=rZ h.tail;have h2:=h.head;rw[vl,List.length_cons,qA];omega
theorem mX:∀ (l:List Int) k,k<l.length->vl (l.take (k+1))=vl (l.take k)+l.getD k 0*pw k:=λl k h=>by
 rw[List.take_succ_eq_append_getElem h,pK,List.length_take,Nat.min_eq_left (by omega),List.getD_eq_getElem?_getD,List.getElem?_eq_getElem h];simp[vl,Int.mul_comm]
theorem tG l k (h:k<=l.length):vl l=vl (l.take k)+pw k*vl (l.drop k):=by
 have e:=pK (l.take k) (l.drop k)
 simp_all
theorem Pc.wZ {l}(h:Pc l) k:Pc (l.take k):=λx hx=>h x (List.mem_of_mem_take hx)
theorem Pc.P1 {l}(h:Pc l) k:Pc (l.drop k):=λx hx=>h x (List.mem_of_mem_drop hx)
theorem IP {l:List Int} (h:Pc l) {k:Nat} (hz:∀ j,k<=j->l.getD j 0=0):vl l<pw k:=by
 rcases Nat.lt_or_ge k l.length with h1|h1
 ·rw[tG l k (by omega)];have:vl (l.drop k)=0:=by
   have:l.drop k=List.replicate (l.drop k).length 0:=by
    rw[List.eq_replicate_iff];refine⟨rfl,λx hx=>?_⟩;obtain⟨i,hi,rfl⟩:=List.getElem_of_mem hx;have:=hz (k+i) (by omega);grind
   rw[this,u9]
  have h2:=rZ (h.wZ k);grind
 ·exact Int.lt_of_lt_of_le (rZ h) (ED h1)
theorem pH {l}(h:Pc l){k}(hv:vl l<pw k){j}(hj:k<=j):l.getD j 0=0:=by
 rcases Nat.lt_or_ge j l.length with h1|h1
 ·have e2:=mX l j h1;have e3:=tG l (j+1) (by omega);have n1:=fL (h.wZ j);have n2:=fL (h.P1 (j+1));have n3:0<=pw (j+1)*vl (l.drop (j+1)):=Int.mul_nonneg (Int.le_of_lt (sE _)) n2;have g:=h.get j;have m:=ED hj;have p:=sE j;have :=λh1=>by
   have:1*pw j<=l.getD j 0*pw j:=Int.mul_le_mul_of_nonneg_right h1 (by omega);omega
  omega
 grind
def Tr(l:List Int):Prop:=∀ x,l.getLast?=some x->x≠0
theorem Tr.nil:Tr []:=λ_ h=>nomatch h
theorem Tr.tail {x l}(h:Tr (x::l)):Tr l:=λy hy=>h y (by
 grind)
theorem GZ:∀ {l},Pc l->Tr l->l≠[]->0<vl l
 | [],_,_,h=>absurd rfl h
 | [x],h,t,_=>by
  have:=h.head;have:=t x rfl;simp only[vl]; omega
 | x::y::l,h,t,_=>by
  have h1:=GZ h.tail t.tail (by simp);have:=h.head;rw[vl]; omega
theorem IS:∀ {a b},Pc a->Pc b->Tr a->Tr b->vl a=vl b->a=b
 | [],[],_,_,_,_,_=>rfl
 | [],y::b,_,hb,_,tb,e=>by
  have h1:=GZ hb tb (by simp);have h2:vl ([]:List Int)=0:=rfl;omega
 | x::a,[],ha,_,ta,_,e=>by
  have h1:=GZ ha ta (by simp);have h2:vl ([])=0:=rfl;omega
 | x::a,y::b,ha,hb,ta,tb,e=>by
  have h1:=ha.head;have h2:=hb.head;rw[vl,vl]at e;have e1:x=y:=by omega
  have e2:vl a=vl b:=by omega
  rw[e1,IS ha.tail hb.tail ta.tail tb.tail e2]
def kR(l:List Int):List Int:=(l.reverse.dropWhile (λx=>decide (x=0))).reverse
theorem vF l:kR (l++[0])=kR l:=by simp[kR]
theorem xS l {x}(h:x≠0):kR (l++[x])=l++[x]:=by simp[kR,h]
theorem HN l:Pc l->Pc (kR l)/\Tr (kR l)/\vl (kR l)=vl l/\(kR l).length<=l.length:=by
 suffices H:∀ n (l:List Int),l.length=n->Pc l->Pc (kR l)/\Tr (kR l)/\vl (kR l)=vl l/\(kR l).length<=l.length from H _ l rfl
 intro n
 induction n with
 | zero =>
  intro l hl h;have:l=[]:=List.eq_nil_of_length_eq_zero hl;subst this;exact⟨Pc.nil,Tr.nil,rfl,Nat.le_refl _⟩
 | succ n ih =>
  intro l hl h;rcases List.eq_nil_or_concat l with rfl|⟨a,x,rfl⟩
  ·grind
  ·rw[List.concat_eq_append]at hl h ⊢;rw[List.length_append,List.length_singleton]at hl
   by_cases hx:x=0
   ·subst hx;rw[vF];obtain⟨h1,h2,h3,h4⟩:=ih a (by omega) h.left;refine⟨h1,h2,?_,by grind⟩;rw[pK,h3]; simp[vl]
   ·rw[xS a hx];refine⟨h,λy hy=>?_,rfl,Nat.le_refl _⟩;grind
def pcs(n:Nat):List Int:=if h:n=0 then [] else ((n%1000000000:Nat):Int)::pcs (n/1000000000)
termination_by n
decreasing_by omega
theorem vM:pcs 0=[]:=by rw[pcs]; rfl
theorem yD {n}(h:n≠0):pcs n=((n%1000000000:Nat):Int)::pcs (n/1000000000):=by rw[pcs,dif_neg h]
theorem cT n:Pc (pcs n)/\Tr (pcs n)/\vl (pcs n)=n:=by
 induction n using Nat.strongRecOn with
 | _ n ih =>
  by_cases h:n=0
  ·subst h; rw[vM]; exact⟨Pc.nil,Tr.nil,rfl⟩
  ·obtain⟨h1,h2,h3⟩:=ih (n/1000000000) (by omega);rw[yD h];refine⟨Pc.cons (by omega) h1,λy hy=>?_,by rw[vl,h3]; omega⟩;cases hp:pcs (n/1000000000)with
   | nil =>
    rw[hp]at hy h3;have h3:0=((n/1000000000):Int):=h3;grind
   | cons z l =>
    rw[hp]at hy h2;exact h2 y hy
theorem OW {l}{n:Nat}(h1:Pc l)(h2:Tr l)(h3:vl l=n):l=pcs n :=
 IS h1 (cT n).1 h2 (cT n).2.1 (h3.trans (cT n).2.2.symm)
theorem pM {l}{n:Nat}(h1:Pc l)(h3:vl l=n):kR l=pcs n:=by
 obtain⟨a,b,c,d⟩:=HN l h1;exact OW a b (c.trans h3)
theorem uM {n k}(h:n<1000000000^k):(pcs n).length<=k:=by
 rcases Nat.lt_or_ge k (pcs n).length with h1|h1
 ·obtain⟨a,b,c⟩:=cT n;have hlt:vl (pcs n)<pw k:=by grind
  have hz:=pH a hlt (j:=(pcs n).length-1) (by omega);have hne:pcs n≠[]:=λh=>by grind
  have:=b _ (List.getLast?_eq_some_getLast hne);grind
 omega
theorem O9 {n k}(h:k<(pcs n).length):1000000000^k<=n:=by
 rcases Nat.lt_or_ge n (1000000000^k)with h1|h1
 ·have:=uM h1; omega
 omega
end Go.De
namespace Go.De
def tkS(q:List Int) (n:Int) (at':Nat) (p:List Int):Nat->List Int×Int×Int
 | 0=>(p,0,0)
 | k+1 =>
  let s:=tkS q n at' p k
  let c:=if k<q.length then s.2.2+n*q.getD k 0 else s.2.2
  let d:=s.1.getD (at'+k) 0-c%1000000000-s.2.1
  (s.1.set (at'+k) (if d<0 then d+1000000000 else d),if d<0 then 1 else 0,c/1000000000)
theorem getD_set_ne(l:List Int){i j} x (h:i≠j):(l.set i x).getD j 0=l.getD j 0:=by grind
structure TkI (q:List Int) (n:Int) (at':Nat) (p:List Int) (k:Nat) (s:List Int×Int×Int):Prop where
 pc:Pc s.1
 len:s.1.length=p.length
 bo:s.2.1=0\/s.2.1=1
 ca:0<=s.2.2/\s.2.2<1000000000
 hi:∀ j,at'+k<=j->s.1.getD j 0=p.getD j 0
 val:vl s.1=vl p-n*pw at'*vl (q.take k)+(s.2.1+s.2.2)*pw (at'+k)
 fin:q.length<k->s.2.2=0
theorem rW {n x:Int}(hn:0<=n/\n<1000000000)(hx:0<=x/\x<1000000000):0<=n*x/\n*x<=999999998000000001:=by
 have h1 :=Int.mul_nonneg hn.1 hx.1;have h2:n*x<=999999999*999999999:=Int.mul_le_mul (by omega) (by omega) hx.1 (by simp);omega
theorem tkI {q n at' p}(hp:Pc p)(hq:Pc q)(hn:0<=n/\n<1000000000)(hl:at'+q.length<p.length):∀ k,k<=q.length+1->TkI q n at' p k (tkS q n at' p k)
 | 0,_=>⟨hp,rfl,.inl rfl,⟨Int.le_refl _,by show (0:Int)<1000000000; decide⟩,λ_ _=>rfl,by simp[tkS,vl],λh=>absurd h (Nat.not_lt_zero _)⟩
 | k+1,hk=>by
  have ih:=tkI hp hq hn hl k (by omega);rw[tkS];generalize tkS q n at' p k=s at ih;obtain⟨l,bo,ca⟩:=s;obtain⟨h1,h2,h3,h4,h5,h6,h7⟩:=ih;dsimp only at h1 h2 h3 h4 h5 h6 h7 ⊢;have hlen:at'+k<l.length:=by omega
  have hx:=h1.get (at'+k);have hqk:=hq.get k;have hm:=rW hn hqk;have hc:∃ c,(if k<q.length then ca+n*q.getD k 0 else ca)=c/\0<=c/\c<1000000000*1000000000/\n*pw at'*vl (q.take (k+1))=n*pw at'*vl (q.take k)+(c-ca)*pw (at'+k)/\(q.length<=k->c=ca):=by
   by_cases h:k<q.length
   ·refine⟨_,if_pos h,by omega,by omega,?_,λh'=>by omega⟩;rw[mX q k h,xL];grind
   ·grind
  obtain⟨c,e,c0,c1,c2,c3⟩:=hc;rw[e];have hd0:0<=c/1000000000:=by omega
  have hd1:c/1000000000<1000000000:=by omega
  have hpw:pw (at'+(k+1))=1000000000*pw (at'+k):=qA (at'+k);generalize hq':c/1000000000=cq at *;generalize hr':c%1000000000=cr at *;have hr0:0<=cr/\cr<1000000000:=by omega
  have hd:∃ d b,(if l.getD (at'+k) 0-cr-bo<0 then l.getD (at'+k) 0-cr-bo+1000000000 else l.getD (at'+k) 0-cr-bo)=d/\(if l.getD (at'+k) 0-cr-bo<0 then (1:Int) else 0)=b/\(0<=d/\d<1000000000)/\(b=0\/b=1)/\d=l.getD (at'+k) 0-cr-bo+1000000000*b:=by
   by_cases h:l.getD (at'+k) 0-cr-bo<0
   ·exact⟨_,_,if_pos h,if_pos h,by omega,.inr rfl,by omega⟩
   ·exact⟨_,_,if_neg h,if_neg h,by omega,.inl rfl,by omega⟩
  obtain⟨d,b,e1,e2,d0,b0,e3⟩:=hd;rw[e1,e2];refine⟨h1.set d0 _,by rw[List.length_set]; exact h2,b0,⟨hd0,hd1⟩,λj hj=>?_,?_,λh=>?_⟩
  ·show (l.set (at'+k) d).getD j 0=_;rw[getD_set_ne _ _ (by omega)];exact h5 j (by omega)
  ·show vl (l.set (at'+k) d)=_+(b+cq)*_;rw[xW l _ _ hlen,h6,c2,hpw,e3];generalize l.getD (at'+k) 0=x;grind
  ·show cq=0;have:=c3 (by omega);have hk':k=q.length\/q.length<k:=by omega
   omega
def bkS(q:List Int) (at':Nat) (p:List Int):Nat->List Int×Int
 | 0=>(p,0)
 | k+1 =>
  let s:=bkS q at' p k
  let c:=if k<q.length then s.2+s.1.getD (at'+k) 0+q.getD k 0 else s.2+s.1.getD (at'+k) 0
  (s.1.set (at'+k) (c%1000000000),c/1000000000)
structure BkI (q:List Int) (at':Nat) (p:List Int) (k:Nat) (s:List Int×Int):Prop where
 pc:Pc s.1
 len:s.1.length=p.length
 ca:s.2=0\/s.2=1
 hi:∀ j,at'+k<=j->s.1.getD j 0=p.getD j 0
 val:vl s.1=vl p+pw at'*vl (q.take k)-s.2*pw (at'+k)
theorem bkI {q at' p}(hp:Pc p)(hq:Pc q)(hl:at'+q.length<p.length):∀ k,k<=q.length+1->BkI q at' p k (bkS q at' p k)
 | 0,_=>⟨hp,rfl,.inl rfl,λ_ _=>rfl,by simp[bkS,vl]⟩
 | k+1,hk=>by
  have ih:=bkI hp hq hl k (by omega);rw[bkS];generalize bkS q at' p k=s at ih;obtain⟨l,ca⟩:=s;obtain⟨h1,h2,h3,h5,h6⟩:=ih;dsimp only at h1 h2 h3 h5 h6 ⊢;have hlen:at'+k<l.length:=by omega
  have hx:=h1.get (at'+k);have hqk:=hq.get k;have hc:∃ c,(if k<q.length then ca+l.getD (at'+k) 0+q.getD k 0 else ca+l.getD (at'+k) 0)=c/\0<=c/\c<2*1000000000/\pw at'*vl (q.take (k+1))=pw at'*vl (q.take k)+(c-ca-l.getD (at'+k) 0)*pw (at'+k):=by
   by_cases h:k<q.length
   ·refine⟨_,if_pos h,by omega,by omega,?_⟩;rw[mX q k h,xL];grind
   ·grind
  obtain⟨c,e,c0,c1,c2⟩:=hc;rw[e];have hdm:=Int.emod_add_mul_ediv c 1000000000;have hpw:pw (at'+(k+1))=1000000000*pw (at'+k):=qA (at'+k);have hd0:c/1000000000=0\/c/1000000000=1:=by omega
  have hr0:0<=c%1000000000/\c%1000000000<1000000000:=by omega
  generalize c/1000000000=cq at *;generalize c%1000000000=cr at *;refine⟨h1.set hr0 _,by rw[List.length_set]; exact h2,hd0,λj hj=>?_,?_⟩
  ·grind
  ·show vl (l.set (at'+k) cr)=_-cq*_;rw[xW l _ _ hlen,h6,c2,hpw];generalize l.getD (at'+k) 0=x at *;grind
def tmI(q:List Int) (a:Int) (i:Nat) (o:List Int):Nat->List Int×Int
 | 0=>(o,0)
 | k+1 =>
  let s:=tmI q a i o k
  let c:=s.2+(s.1.getD (i+k) 0+a*q.getD k 0)
  (s.1.set (i+k) (c%1000000000),c/1000000000)
structure TmI (q:List Int) (a:Int) (i:Nat) (o:List Int) (k:Nat) (s:List Int×Int):Prop where
 pc:Pc s.1
 len:s.1.length=o.length
 ca:0<=s.2/\s.2<1000000000
 hi:∀ j,i+k<=j->s.1.getD j 0=o.getD j 0
 val:vl s.1+s.2*pw (i+k)=vl o+a*pw i*vl (q.take k)
theorem D9 {q o a i}(ho:Pc o)(hq:Pc q)(ha:0<=a/\a<1000000000)(hl:i+q.length<=o.length):∀ k,k<=q.length->TmI q a i o k (tmI q a i o k)
 | 0,_=>⟨ho,rfl,⟨Int.le_refl _,by show (0:Int)<1000000000; decide⟩,λ_ _=>rfl,by simp[tmI,vl]⟩
 | k+1,hk=>by
  have ih:=D9 ho hq ha hl k (by omega);rw[tmI];generalize tmI q a i o k=s at ih;obtain⟨l,ca⟩:=s;obtain⟨h1,h2,h3,h5,h6⟩:=ih;dsimp only at h1 h2 h3 h5 h6 ⊢;have hlen:i+k<l.length:=by omega
  have hx:=h1.get (i+k);have hm:=rW ha (hq.get k);have e2:a*pw i*vl (q.take (k+1))=a*pw i*vl (q.take k)+(a*q.getD k 0)*pw (i+k):=by
   rw[mX q k (by omega),xL];grind
  have hpw:pw (i+(k+1))=1000000000*pw (i+k):=qA (i+k);generalize a*q.getD k 0=m at *;have hdm:=Int.emod_add_mul_ediv (ca+(l.getD (i+k) 0+m)) 1000000000;have hq0:0<=(ca+(l.getD (i+k) 0+m))/1000000000/\(ca+(l.getD (i+k) 0+m))/1000000000<1000000000:=by omega
  have hr0:0<=(ca+(l.getD (i+k) 0+m))%1000000000/\(ca+(l.getD (i+k) 0+m))%1000000000<1000000000:=by omega
  generalize (ca+(l.getD (i+k) 0+m))/1000000000=cq at *;generalize (ca+(l.getD (i+k) 0+m))%1000000000=cr at *;refine⟨h1.set hr0 _,by rw[List.length_set]; exact h2,hq0,λj hj=>?_,?_⟩
  ·grind
  ·show vl (l.set (i+k) cr)+cq*_=_;rw[xW l _ _ hlen,e2,hpw];grind
def tmO(p q o:List Int):Nat->List Int
 | 0=>o
 | i+1 =>
  let s:=tmI q (p.getD i 0) i (tmO p q o i) q.length
  s.1.set (i+q.length) s.2
theorem DI {p q}(hp:Pc p)(hq:Pc q):∀ i,i<=p.length->Pc (tmO p q (List.replicate (p.length+q.length) 0) i)/\(tmO p q (List.replicate (p.length+q.length) 0) i).length=p.length+q.length/\vl (tmO p q (List.replicate (p.length+q.length) 0) i)=vl (p.take i)*vl q/\∀ j,i+q.length<=j->(tmO p q (List.replicate (p.length+q.length) 0) i).getD j 0=0
 | 0,_=>⟨Pc.rep _,by simp[tmO],by simp[tmO,u9,vl],λj _=>by simp[tmO,List.getD_eq_getElem?_getD,List.getElem?_replicate]; split <;> rfl⟩
 | i+1,hi=>by
  obtain⟨h1,h2,h3,h4⟩:=DI hp hq i (by omega);rw[tmO];have k:=D9 h1 hq (hp.get i) (i:=i) (by omega) q.length (Nat.le_refl _);obtain⟨g1,g2,g3,g4,g5⟩:=k;refine⟨g1.set g3 _,by rw[List.length_set,g2,h2],?_,λj hj=>?_⟩
  ·rw[xW _ _ _ (by omega),g4 _ (Nat.le_refl _),h4 _ (Nat.le_refl _),mX p i (by omega)];grind
  ·rw[getD_set_ne _ _ (by omega),g4 j (by omega)];grind
theorem JJ a b:kR (tmO (pcs a) (pcs b) (List.replicate ((pcs a).length+(pcs b).length) 0) (pcs a).length)=pcs (a*b):=by
 obtain⟨a1,a2,a3⟩:=cT a;obtain⟨b1,b2,b3⟩:=cT b;obtain⟨h1,h2,h3,h4⟩:=DI a1 b1 _ (Nat.le_refl _);refine pM h1 ?_;grind
def smS(p:List Int) (n:Int):Nat->List Int×Int
 | 0=>(List.replicate p.length 0,0)
 | t+1 =>
  let s:=smS p n t
  let r:=s.2*1000000000+p.getD (p.length-1-t) 0
  (s.1.set (p.length-1-t) (r/n),r%n)
structure SmI (p:List Int) (n:Int) (t:Nat) (s:List Int×Int):Prop where
 pc:Pc s.1
 len:s.1.length=p.length
 re:0<=s.2/\s.2<n
 lo:∀ j,j<p.length-t->s.1.getD j 0=0
 val:vl (p.drop (p.length-t))*pw (p.length-t)=n*vl s.1+s.2*pw (p.length-t)
theorem smI {p n}(hp:Pc p)(hn:0<n/\n<1000000000):∀ t,t<=p.length->SmI p n t (smS p n t)
 | 0,_=>⟨Pc.rep _,by simp[smS],⟨Int.le_refl _,hn.1⟩,λj _=>by simp[smS,List.getD_eq_getElem?_getD,List.getElem?_replicate]; split <;> rfl,by simp[smS,vl,u9]⟩
 | t+1,ht=>by
  have ih:=smI hp hn t (by omega);rw[smS];generalize smS p n t=s at ih;obtain⟨l,r⟩:=s;obtain⟨h1,h2,h3,h4,h5⟩:=ih;dsimp only at h1 h2 h3 h4 h5 ⊢;obtain⟨i,hi⟩:∃ i,p.length-1-t=i:=⟨_,rfl⟩;have ei:p.length-t=i+1:=by omega
  have ei':p.length-(t+1)=i:=by omega
  rw[hi];rw[ei]at h4 h5;have hx:=hp.get i;have hz:l.getD i 0=0:=h4 i (by omega);have hdr:p.drop i=p.getD i 0::p.drop (i+1):=by rw[List.drop_eq_getElem_cons (by omega),List.getD_eq_getElem?_getD,List.getElem?_eq_getElem (by omega)]; rfl
  generalize p.getD i 0=x at *;have hdm:=Int.emod_add_mul_ediv (r*1000000000+x) n;have hr0:0<=(r*1000000000+x)%n/\(r*1000000000+x)%n<n:=⟨Int.emod_nonneg _ (by omega),Int.emod_lt_of_pos _ hn.1⟩;have hq0:0<=(r*1000000000+x)/n:=Int.ediv_nonneg (by omega) (by omega);have hq1:(r*1000000000+x)/n<1000000000:=by
   refine Int.ediv_lt_of_lt_mul hn.1 ?_;omega
  generalize (r*1000000000+x)/n=cq at *;generalize (r*1000000000+x)%n=cr at *;refine⟨h1.set ⟨hq0,hq1⟩ _,by rw[List.length_set]; exact h2,hr0,λj hj=>?_,?_⟩
  ·show (l.set i cq).getD j 0=0;rw[getD_set_ne _ _ (by omega)];grind
  ·show _=n*vl (l.set i cq)+cr*_;rw[ei',xW l _ _ (by omega),hdr,vl,hz];grind
theorem JT a {n:Nat}(hn:0<n/\n<1000000000):kR (smS (pcs a) n (pcs a).length).1=pcs (a/n)/\(smS (pcs a) n (pcs a).length).2=((a%n:Nat)):=by
 obtain⟨a1,a2,a3⟩:=cT a;have k:=smI a1 (n:=n) (by omega) _ (Nat.le_refl _);generalize smS (pcs a) n (pcs a).length=s at k;obtain⟨h1,h2,h3,h4,h5⟩:=k;have hv0:=fL h1;obtain⟨v,hv⟩:∃ v:Nat,vl s.1=v:=⟨(vl s.1).toNat,by omega⟩;obtain⟨r,hr⟩:∃ r:Nat,s.2=r:=⟨s.2.toNat,by omega⟩;have e:a=n*v+r:=by grind
 have e1:a/n=v:=by rw[e,Nat.mul_add_div hn.1,Nat.div_eq_of_lt (by omega),Nat.add_zero]
 have e2:a%n=r:=by rw[e,Nat.mul_add_mod,Nat.mod_eq_of_lt (by omega)]
 rw[e1,e2];exact⟨pM h1 hv,hr⟩
end Go.De
namespace Go.De
theorem MN {a:List Int} (h:Pc a) {k:Nat} (hz:∀ j,k<j->a.getD j 0=0) (hk:k<a.length):a.getD k 0*pw k<=vl a/\vl a<(a.getD k 0+1)*pw k:=by
 have e:=tG a (k+1) (by omega);have e2:=mX a k hk;have n1:=fL (h.wZ k);have n2:=rZ (h.wZ k);rw[List.length_take,Nat.min_eq_left (by omega)]at n2;have:vl (a.drop (k+1))=0:=by
  have:a.drop (k+1)=List.replicate (a.drop (k+1)).length 0:=by
   rw[List.eq_replicate_iff];refine⟨rfl,λx hx=>?_⟩;obtain⟨i,hi,rfl⟩:=List.getElem_of_mem hx;have:=hz (k+1+i) (by omega);grind
  rw[this,u9]
 grind
theorem IH {a}(h:Pc a){k}(hz:∀ j,k+1<j->a.getD j 0=0)(hk:k+1<a.length):(a.getD (k+1) 0*1000000000+a.getD k 0)*pw k<=vl a/\vl a<(a.getD (k+1) 0*1000000000+a.getD k 0+1)*pw k:=by
 have e:=tG a (k+2) (by omega);have e2:=mX a (k+1) hk;have e3:=mX a k (by omega);have n1:=fL (h.wZ k);have n2:=rZ (h.wZ k);have:vl (a.drop (k+2))=0:=by
  have:a.drop (k+2)=List.replicate (a.drop (k+2)).length 0:=by
   rw[List.eq_replicate_iff];refine⟨rfl,λx hx=>?_⟩;obtain⟨i,hi,rfl⟩:=List.getElem_of_mem hx;have:=hz (k+2+i) (by omega);grind
  rw[this,u9]
 rw[this,Int.mul_zero,Int.add_zero,e2,e3,qA]at e;grind
theorem NL {a}(h:Pc a){k}(hz:∀ j,k+2<j->a.getD j 0=0)(hk:k+2<a.length):((a.getD (k+2) 0*1000000000+a.getD (k+1) 0)*1000000000+a.getD k 0)*pw k<=vl a/\vl a<((a.getD (k+2) 0*1000000000+a.getD (k+1) 0)*1000000000+a.getD k 0+1)*pw k:=by
 have e:=tG a (k+3) (by omega);have e1:=mX a (k+2) hk;have e2:=mX a (k+1) (by omega);have e3:=mX a k (by omega);have n1:=fL (h.wZ k);have n2:=rZ (h.wZ k);rw[List.length_take,Nat.min_eq_left (by omega)]at n2;have:vl (a.drop (k+3))=0:=by
  have:a.drop (k+3)=List.replicate (a.drop (k+3)).length 0:=by
   rw[List.eq_replicate_iff];refine⟨rfl,λx hx=>?_⟩;obtain⟨i,hi,rfl⟩:=List.getElem_of_mem hx;have:=hz (k+3+i) (by omega);grind
  rw[this,u9]
 have p1:pw (k+1)=1000000000*pw k:=qA k;have p2:pw (k+2)=1000000000*(1000000000*pw k):=by rw[qA (k+1),p1]
 rw[this,Int.mul_zero,Int.add_zero,e1,e2,e3,p1,p2]at e;grind
def tD(bt b2 a2 g r:Int):Prop:=1000000000<=g\/(r<1000000000/\r*1000000000+a2<g*b2)
instance (bt b2 a2 g r:Int):Decidable (tD bt b2 a2 g r):=by unfold tD; infer_instance
structure Gs (A V P K a2 high bt b2:Int):Prop where
 P0:0<P
 K0:0<K
 A2:(high*1000000000+a2)*(K*P)<=A
 A3:A<(high*1000000000+a2+1)*(K*P)
 a20:0<=a2/\a2<1000000000
 V2:(bt*1000000000+b2)*K<=V
 V3:V<(bt*1000000000+b2+1)*K
 b20:0<=b2/\b2<1000000000
 bt0:0<bt
 h0:0<=high
theorem BK {a b:Int}(ha:0<a)(hb:0<b):0<a*b:=Int.mul_pos ha hb
theorem wD {a b c:Int}(h:a<=b)(hc:0<=c):a*c<=b*c:=Int.mul_le_mul_of_nonneg_right h hc
theorem Gs.start {A V P K a2 high bt b2 qh:Int} (h:Gs A V P K a2 high bt b2) (hq0:0<=qh) (hq:qh*(V*P)<=A):qh<=high/bt:=by
 rw[Int.le_ediv_iff_mul_le h.bt0];have hKP:=BK h.K0 h.P0;have h1:qh*((bt*1000000000)*K*P)<=qh*(V*P):=by
  refine Int.mul_le_mul_of_nonneg_left ?_ hq0;refine wD ?_ (Int.le_of_lt h.P0);refine Int.le_trans ?_ h.V2;exact wD (by have:=h.b20; omega) (Int.le_of_lt h.K0)
 have h2:A<((high+1)*1000000000)*(K*P):=by
  refine Int.lt_of_lt_of_le h.A3 (wD ?_ (Int.le_of_lt hKP));have:=h.a20; omega
 have h3:(qh*bt*1000000000)*(K*P)<((high+1)*1000000000)*(K*P):=by grind
 have h4:=Int.lt_of_mul_lt_mul_right h3 (Int.le_of_lt hKP);omega
theorem Gs.down {A V P K a2 high bt b2 qh g r}(h:Gs A V P K a2 high bt b2)(hq0:0<=qh)(hq:qh*(V*P)<=A)(hqB:qh<1000000000)(hg:qh<=g)(hr:r=high-g*bt)(hc:tD bt b2 a2 g r):qh<=g-1:=by
 rcases hc with hc|⟨_,hc⟩
 ·omega
 ·have:¬ g=qh:=λe=>by
   subst e;have hKP:=BK h.K0 h.P0;have h1 :=Int.mul_le_mul_of_nonneg_left (wD h.V2 (Int.le_of_lt h.P0)) hq0;have h2:high*1000000000+a2+1<=g*(bt*1000000000+b2):=by grind
   have h3:=wD h2 (Int.le_of_lt hKP);have h4:g*(bt*1000000000+b2)*(K*P)=g*((bt*1000000000+b2)*K*P):=by grind
   have:=h.A3;omega
  omega
theorem Gs.stop {A V P K a2 high bt b2 g r}(h:Gs A V P K a2 high bt b2)(hg:0<=g)(hr:r=high-g*bt)(hc:¬ tD bt b2 a2 g r):(g-1)*(V*P)<=A:=by
 unfold tD at hc;have hKP:=BK h.K0 h.P0;have hVP:1000000000*(K*P)<=V*P:=by
  have h1:1000000000*K<=V:=Int.le_trans (wD (by have:=h.b20; have:=h.bt0; omega) (Int.le_of_lt h.K0)) h.V2;have:=wD h1 (Int.le_of_lt h.P0);grind
 have hV3:g*(V*P)<=g*((bt*1000000000+b2+1)*K*P):=Int.mul_le_mul_of_nonneg_left (wD (Int.le_of_lt h.V3) (Int.le_of_lt h.P0)) hg;have e0:g*((bt*1000000000+b2+1)*K*P)=(g*bt*1000000000+g*b2+g)*(K*P):=by grind
 have e1:(g-1)*(V*P)=g*(V*P)-V*P:=by grind
 by_cases hrr:1000000000<=r
 ·-- g*(bt+1) <= high
  have h2:g*bt*1000000000+g*b2+g<=high*1000000000+a2+1000000000:=by
   have:=h.a20;have:=h.b20;have:g*b2<=g*999999999:=Int.mul_le_mul_of_nonneg_left (by omega) hg;omega
  have h3:=wD h2 (Int.le_of_lt hKP);have e3:(high*1000000000+a2+1000000000)*(K*P)=(high*1000000000+a2)*(K*P)+1000000000*(K*P):=by grind
  have:=h.A2;omega
 ·have h2:g*bt*1000000000+g*b2+g<=high*1000000000+a2+1000000000:=by
   grind
  have h3:=wD h2 (Int.le_of_lt hKP);have e3:(high*1000000000+a2+1000000000)*(K*P)=(high*1000000000+a2)*(K*P)+1000000000*(K*P):=by grind
  have:=h.A2;omega
theorem C7 {C:Nat->Prop} [DecidablePred C]:∀ n,¬ C n->∃ m,m<=n/\¬ C m/\∀ t,t<m->C t
 | 0,h=>⟨0,Nat.le_refl _,h,λt ht=>absurd ht (Nat.not_lt_zero _)⟩
 | n+1,h=>by
  by_cases hall:∃ t,t<=n/\¬ C t
  ·obtain⟨t,ht,hc⟩:=hall;obtain⟨m,h1,h2,h3⟩:=C7 t hc;grind
  ·grind
theorem Gs.OP {A V P K a2 high bt b2 qh}(h:Gs A V P K a2 high bt b2)(hq0:0<=qh)(hq:qh*(V*P)<=A)(hq1:A<(qh+1)*(V*P))(hqB:qh<1000000000) :
  ∃ m:Nat,m<=high/bt/\(∀ t ,t<m->tD bt b2 a2 (high/bt-t) (high%bt+t*bt))/\¬ tD bt b2 a2 (high/bt-m) (high%bt+m*bt)/\qh<=high/bt-m/\high/bt-m<=qh+1:=by
 have h0:=h.start hq0 hq;have hr:∀ t:Nat,high%bt+t*bt=high-(high/bt-t)*bt:=λt=>by
  have:=Int.emod_add_mul_ediv high bt;grind
 have hge:∀ m:Nat,(∀ t:Nat,t<m->tD bt b2 a2 (high/bt-t) (high%bt+t*bt))->qh<=high/bt-m:=by
  intro m
  induction m with
  | zero=>intro _; simpa using h0
  | succ m ih =>
   intro hc;have h1:=ih λt ht=>hc t (by omega)
   have h2:=h.down hq0 hq hqB h1 (hr m) (hc m (by omega));omega
 obtain⟨n,hn⟩:∃ n:Nat,high/bt=n:=⟨(high/bt).toNat,by omega⟩;have hlast:¬ tD bt b2 a2 (high/bt-((n:Nat):Int)) (high%bt+(n:Nat)*bt):=λhc=>by
  by_cases hall:∀ t:Nat,t<n->tD bt b2 a2 (high/bt-t) (high%bt+t*bt)
  ·have h1:=hge n hall;have h2:=h.down hq0 hq hqB h1 (hr n) hc;omega
  ·-- a false test below would have stopped: monotone in t
   unfold tD at hc;rw[hn,Int.sub_self,Int.zero_mul]at hc;have hre:=Int.emod_nonneg high (show bt≠0 by have:=h.bt0; omega);have hnb:0<=(n:Int)*bt:=Int.mul_nonneg (by omega) (Int.le_of_lt h.bt0);have:=h.a20;omega
 obtain⟨m,h1,h2,h3⟩:=C7 (C:=λt:Nat=>tD bt b2 a2 (high/bt-t) (high%bt+t*bt)) n hlast;have h4:=hge m h3;refine⟨m,by omega,h3,h2,h4,?_⟩;have h5:=h.stop (g:=high/bt-m) (by omega) (hr m) h2;have:¬ qh+1<high/bt-m:=λhlt=>by
  have hVP:0<V*P:=BK (by
   have:=h.V2;have:0<(bt*1000000000+b2)*K:=BK (by have:=h.b20; have:=h.bt0; omega) h.K0;omega) h.P0
  have:=wD (show qh+1<=high/bt-m-1 by omega) (Int.le_of_lt hVP);omega
 omega
theorem HG {a b:List Int} {i n:Nat} {g qh:Int} (ha:Pc a) (hb:Pc b) (hbl:b.length=n) (hl:i+n<a.length) (hz:vl a<pw (i+n+1)) (hg:0<=g/\g<1000000000) (hq0:qh*(vl b*pw i)<=vl a) (hq1:vl a<(qh+1)*(vl b*pw i)) (g0:qh<=g) (g1:g<=qh+1) :
  ((tkS b g i a (n+1)).2.1=0/\g=qh/\Pc (tkS b g i a (n+1)).1/\(tkS b g i a (n+1)).1.length=a.length/\vl (tkS b g i a (n+1)).1=vl a-qh*(vl b*pw i)) \/
  ((tkS b g i a (n+1)).2.1=1/\g=qh+1/\Pc (tkS b g i a (n+1)).1/\(tkS b g i a (n+1)).1.length=a.length/\Pc (bkS b i (tkS b g i a (n+1)).1 (n+1)).1/\(bkS b i (tkS b g i a (n+1)).1 (n+1)).1.length=a.length/\vl (bkS b i (tkS b g i a (n+1)).1 (n+1)).1=vl a-qh*(vl b*pw i)):=by
 subst hbl;have k:=tkI ha hb hg hl (b.length+1) (Nat.le_refl _);generalize tkS b g i a (b.length+1)=s at k;obtain⟨h1,h2,h3,h4,h5,h6,h7⟩:=k;have hca:=h7 (by omega);have hz1:=IP h1 (k:=i+b.length+1) λj hj=>by
  rw[h5 j (by omega)];exact pH ha hz hj
 rw[List.take_of_length_le (show b.length<=b.length+1 by omega),hca,Int.add_zero]at h6;have hn:=fL h1;have e1:g*pw i*vl b=g*(vl b*pw i):=by grind
 have p1:pw (i+(b.length+1))=pw (i+b.length+1):=rfl;rcases h3 with hb0|hb1
 ·refine .inl ⟨hb0,?_,h1,h2,?_⟩
  ·have:¬ g=qh+1:=λe=>by
    grind
   omega
  ·have:g=qh:=by
    have:¬ g=qh+1:=λe=>by grind
    omega
   grind
 ·have eg:g=qh+1:=by
   have:¬ g=qh:=λe=>by
    subst e;rw[hb1,Int.one_mul]at h6;omega
   omega
  refine .inr ⟨hb1,eg,h1,h2,?_⟩;have kb:=bkI h1 hb (at':=i) (by omega) (b.length+1) (Nat.le_refl _);have hz2:∀ j,i+b.length+1<=j->(bkS b i s.1 (b.length+1)).1.getD j 0=0:=λj hj=>by
   rw[kb.hi j (by omega),h5 j (by omega)];exact pH ha hz hj
  generalize bkS b i s.1 (b.length+1)=u at kb hz2;obtain⟨u1,u2,u3,u5,u6⟩:=kb;have hz3:=IP u1 hz2;have hn2:=fL u1;rw[List.take_of_length_le (show b.length<=b.length+1 by omega),p1]at u6;rw[hb1,Int.one_mul]at h6;have e2:(qh+1)*(vl b*pw i)=qh*(vl b*pw i)+vl b*pw i:=by grind
  have e3:pw i*vl b=vl b*pw i:=Int.mul_comm _ _;subst eg;refine⟨u1,u2.trans h2,?_⟩;rcases u3 with hc|hc
  ·rw[hc,Int.zero_mul]at u6;omega
  ·rw[hc,Int.one_mul]at u6;omega
theorem QR {a b:List Int} {i n:Nat} (ha:Pc a) (hb:Pc b) (hbl:b.length=n+2) (htop:0<b.getD (n+1) 0) (hl:i+n+2<a.length) (hz:vl a<pw (i+n+3)) :
  Gs (vl a) (vl b) (pw i) (pw n) (a.getD (i+n) 0) (a.getD (i+n+2) 0*1000000000+a.getD (i+n+1) 0) (b.getD (n+1) 0) (b.getD n 0):=by
 have h1:=NL ha (k:=i+n) (λj hj=>pH ha hz (by omega)) (by omega);have h2:=IH hb (k:=n) (λj hj=>pH hb (k:=n+2) (by have:=rZ hb; rw[hbl]at this; exact this) (by omega)) (by omega);have e:pw n*pw i=pw (i+n):=by rw[xL,Int.mul_comm]
 exact⟨sE i,sE n,by rw[e]; exact h1.1,by rw[e]; exact h1.2,ha.get _,h2.1,h2.2,hb.get _,htop,by have:=ha.get (i+n+2); have:=ha.get (i+n+1); omega⟩
end Go.De
namespace Go.PM
open Go Go.RowKit Go.Proofs Go.De
theorem MA {x}(h1:0<=x)(h2:x<256):aB .u8 x=x:=by
 show x%256=x;grind
theorem HR {x}(h1:0<=x)(h2:x<18446744073709551616):IntKind.wrap .u64 x=x:=fQ h1 h2
theorem IV {x}(h1:0<=x)(h2:x<256):IntKind.wrap .u8 x=x:=MA h1 h2
theorem BC(a:Nat):Nat.beq a a=true:=by simp
theorem tH(l:List Int) i:bR [l] 0 i 0=l.getD i 0:=rfl
theorem sX l i (x:Int):lL [l] 0 i x=[l.set i x]:=rfl
theorem tE(l:List Int):bP [l] 0=l.length:=rfl
theorem QM {σ τ:Type} {step:σ->Option (σ⊕τ)} {N:Nat} {Z:τ->Prop} (I:Nat->σ->Prop) (m:Nat) (x:σ) (hN:m<N) (h0:I 0 x)
  (h:∀ i y,i<m->I i y->∃ y',step y=some (.inl y')/\I (i+1) y') (he:∀ y,I m y->∃ z,step y=some (.inr z)/\Z z):∃ z,aO step N x=some z/\Z z:=by
 suffices H:∀ k i y,i+k=m->I i y->∃ z,aO step (k+1+(N-m-1)) y=some z/\Z z by
  have:=H m 0 x (Nat.zero_add m) h0;grind
 intro k
 induction k with
 | zero =>
  intro i y hi hy;have hi:i=m:=by omega
  subst hi;obtain⟨z,e1,e2⟩:=he y hy;rw[show 0+1+(N-i-1)=(N-i-1)+1 by omega,aV,e1];grind
 | succ k ih =>
  intro i y hi hy;obtain⟨y',e1,e2⟩:=h i y (by omega) hy;rw[show k+1+1+(N-m-1)=(k+1+(N-m-1))+1 by omega,aV,e1];grind
theorem JU {l:List Int} (hl:l.length<9223372036854775807) (A:List (List Int)):∀ n,l.length<=n->∀ k,aO dU (n+1+k) (l,A,())=some (kR l,A,()):=by
 intro n
 induction n generalizing l with
 | zero =>
  intro h k;have:l=[]:=List.eq_nil_of_length_eq_zero (by omega);subst this;rw[show 0+1+k=k+1 by omega,aV];rfl
 | succ n ih =>
  intro h k;rw[show n+1+1+k=(n+1+k)+1 by omega,aV];rcases List.eq_nil_or_concat l with rfl|⟨a,x,rfl⟩
  ·rfl
  ·rw[List.concat_eq_append]at hl h ⊢;have hlen:(a++[x]).length=a.length+1:=by simp
   have e1:ltI 0 ((a.length+1:Nat):Int)=true:=by rw[aE]; exact oT (by omega)
   have e2:aB .i64 (((a.length+1:Nat):Int)-1)=(a.length:Int):=by rw[wrap64 (by omega) (by omega)]; omega
   have e3:aF (a.length:Int) (a.length+1)=true:=by rw[aG]; exact oT (by omega)
   have e4:Nat.blt a.length (a.length+1)=true:=by rw[bE]; exact oT (by omega)
   have e5:(a++[x]).getD a.length 0=x:=by simp[oQ]
   have e6:ltI (a.length:Int) 0=false:=by rw[aE]; exact oF (by omega)
   have e7:Nat.ble 0 a.length=true:=rfl;have e8:Nat.ble a.length (a.length+1)=true:=by rw[bY]; exact oT (by omega)
   have e9:Nat.blt 0 (a.length+1)=true:=by rw[bE]; exact oT (by omega)
   have e10:(a++[x]).take a.length=a:=by simp
   simp only[dU,hlen,e1,e2,oN,e3,e4,e5,e6,e7,e8,e9,oC,Nat.sub_zero,e10,bT,Bool.not_false]
   by_cases hx:x=0
   ·subst hx;rw[vF];grind
   ·simp only[hx,decide_false,oD];rw[xS a hx]
theorem uT {l}(hl:l.length<=4000000) A:bD l () A=some (kR l,A):=by
 have h:=JU (by omega) A l.length (oM _) (2^64-l.length-1);rw[show l.length+1+(2^64-l.length-1)=2^64 by omega]at h;show (aC (aO dU (2^64) (l,A,())) _)=_;rw[h,aD]
theorem KA {n:Int}:lQ ([n],())=some (kR [n],()):=by
 have h1:iQ ([n],())=if n=0 then some (.inl ([],())) else some (.inr ([n],())):=by
  show (bif eqI n 0 then _ else _)=_;rw[bT,aN];rfl
 show (aC (aO iQ (2^64) ([n],())) _)=_;rw[show 2^64=18446744073709551614+1+1 by rfl,aV,h1]
 by_cases h:n=0
 ·subst h;rfl
 ·rw[if_neg h];have:=xS [] h;show some ([n],())=some (kR [n],());grind
theorem I3 {x:Int} (h:0<=x):x.tmod 1000000000=x%1000000000:=Int.tmod_eq_emod_of_nonneg h
theorem I4 {x:Int}(h:0<=x):x.tdiv 1000000000=x/1000000000:=Int.tdiv_eq_ediv_of_nonneg h
theorem I5 {p q}{n:Int}{at'}(hp:Pc p)(hq:Pc q)(hn:0<=n/\n<1000000000)(hl:at'+q.length<p.length)(hpl:p.length<=4000000) :
  EW (t:=.int .u64) fB p (q,n,(at':Int),())=some ((decide (0<(tkS q n at' p (q.length+1)).2.1),()),(tkS q n at' p (q.length+1)).1):=by
 have key:=aQ (step:=cL) (N:=2^64) (λt=>((0,0,p.length),q,n,(at':Int),(tkS q n at' p t).2.1,(tkS q n at' p t).2.2,(t:Int),[(tkS q n at' p t).1],())) (q.length+1)
  ((tkS q n at' p (q.length+1)).2.1,[(tkS q n at' p (q.length+1)).1],()) (by omega) (λt ht=>?_) ?_
 ·have key:aO cL (2^64) ((0,0,p.length),q,n,(at':Int),0,0,0,[p],())=_:=key;have hlen:=(tkI hp hq hn hl (q.length+1) (oM _)).len;unfold EW fB;simp only[lU,key,aD,hlen,BC,oC,aE]
 ·have hI:=tkI hp hq hn hl t (by omega);rw[tkS];generalize tkS q n at' p t=s at hI;obtain⟨l,bo,ca⟩:=s;obtain⟨h1,h2,h3,h4,h5,h6,h7⟩:=hI;dsimp only at h1 h2 h3 h4 h5 h6 h7 ⊢;have hx:=h1.get (at'+t);have hqt:=hq.get t;have hm:=rW hn hqt;have e1:ltI (q.length:Int) (t:Int)=false:=by rw[aE]; exact oF (by omega)
  have e2:aB .i64 ((at':Int)+(t:Int))=((at'+t:Nat):Int):=by rw[wrap64 (by omega) (by omega)]; omega
  have e3:aF ((at'+t:Nat):Int) p.length=true:=by rw[aG]; exact oT (by omega)
  have e4:Nat.blt (at'+t) l.length=true:=by rw[bE]; exact oT (by omega)
  have e5:(0+(at'+t))*1=at'+t:=by omega
  have e6:=aT t (by omega);have main:∀ c:Int,0<=c->c<1000000000000000000 ->
    (bif ltI (aB .i64 (aB .i64 (IntKind.wrap .i64 (l.getD (at'+t) 0)-IntKind.wrap .i64 (c.tmod 1000000000))-bo)) 0 then
     (some (Sum.inl ((0,0,p.length),q,n,(at':Int),1,aB .u64 (c.tdiv 1000000000),((t+1:Nat):Int),[l.set (at'+t) (IntKind.wrap .u64 (aB .i64 (aB .i64 (aB .i64 (IntKind.wrap .i64 (l.getD (at'+t) 0)-IntKind.wrap .i64 (c.tmod 1000000000))-bo)+1000000000)))],())):Option (Shape.den fG⊕fR jD))
    else some (Sum.inl ((0,0,p.length),q,n,(at':Int),0,aB .u64 (c.tdiv 1000000000),((t+1:Nat):Int),[l.set (at'+t) (IntKind.wrap .u64 (aB .i64 (aB .i64 (IntKind.wrap .i64 (l.getD (at'+t) 0)-IntKind.wrap .i64 (c.tmod 1000000000))-bo)))],()))) =
    some (Sum.inl ((0,0,p.length),q,n,(at':Int),(if l.getD (at'+t) 0-c%1000000000-bo<0 then 1 else 0),c/1000000000,((t+1:Nat):Int),[l.set (at'+t) (if l.getD (at'+t) 0-c%1000000000-bo<0 then l.getD (at'+t) 0-c%1000000000-bo+1000000000 else l.getD (at'+t) 0-c%1000000000-bo)],())):=by
   intro c c0 c1;have hd1:0<=c%1000000000/\c%1000000000<1000000000:=by omega
   have hd2:0<=c/1000000000/\c/1000000000<1000000000:=by omega
   rw[I3 c0,I4 c0];generalize c%1000000000=cr at *;generalize c/1000000000=cq at *;rw[uO (x:=l.getD (at'+t) 0) (by omega) (by omega),uO (x:=cr) (by omega) (by omega),wrap64 (x:=l.getD (at'+t) 0-cr) (by omega) (by omega),wrap64 (x:=l.getD (at'+t) 0-cr-bo) (by omega) (by omega),fQ (x:=cq) (by omega) (by omega),aE,aN]
   by_cases h:l.getD (at'+t) 0-cr-bo<0
   ·rw[if_pos h,if_pos h,if_pos h,wrap64 (by omega) (by omega),HR (by omega) (by omega)]
   ·rw[if_neg h,if_neg h,if_neg h,HR (by omega) (by omega)]
  by_cases hqt':t<q.length
  ·have e7:ltI (t:Int) (q.length:Int)=true:=by rw[aE]; exact oT (by omega)
   have e8:aF (t:Int) q.length=true:=by rw[aG]; exact oT (by omega)
   have e9:aB .u64 (ca+aB .u64 (n*q.getD t 0))=ca+n*q.getD t 0:=by rw[fQ (x:=n*q.getD t 0) (by omega) (by omega),fQ (by omega) (by omega)]
   rw[if_pos hqt',<- main (ca+n*q.getD t 0) (by omega) (by omega)];simp only[cL,e1,e2,e3,e4,e5,e6,e7,e8,e9,oC,Bool.not_false,oN,tH,sX,tE]
  ·have e7:ltI (t:Int) (q.length:Int)=false:=by rw[aE]; exact oF (by omega)
   rw[if_neg hqt',<- main ca (by omega) (by omega)];simp only[cL,e1,e2,e3,e4,e5,e6,e7,oC,oD,Bool.not_false,oN,tH,sX,tE]
 ·have e1:ltI (q.length:Int) ((q.length+1:Nat):Int)=true:=by rw[aE]; exact oT (by omega)
  simp only[cL,e1,Bool.not_true,oD]
theorem back_eq {p q at'} (hp:Pc p) (hq:Pc q) (hl:at'+q.length<p.length) (hpl:p.length<=4000000) :
  CF (t:=.int .u64) cZ p (q,(at':Int),())=some (bkS q at' p (q.length+1)).1:=by
 have key:=aQ (step:=cK) (N:=2^64) (λt=>((0,0,p.length),q,(at':Int),(bkS q at' p t).2,(t:Int),[(bkS q at' p t).1],())) (q.length+1)
  ([(bkS q at' p (q.length+1)).1],()) (by omega) (λt ht=>?_) ?_
 ·have key:aO cK (2^64) ((0,0,p.length),q,(at':Int),0,0,[p],())=_:=key;have hlen:=(bkI hp hq hl (q.length+1) (oM _)).len;unfold CF cZ;simp only[lT,key,aD,hlen,BC,oC]
 ·have hI:=bkI hp hq hl t (by omega);rw[bkS];generalize bkS q at' p t=s at hI;obtain⟨l,ca⟩:=s;obtain⟨h1,h2,h3,h5,h6⟩:=hI;dsimp only at h1 h2 h3 h5 h6 ⊢;have hx:=h1.get (at'+t);have hqt:=hq.get t;have e1:ltI (q.length:Int) (t:Int)=false:=by rw[aE]; exact oF (by omega)
  have e2:aB .i64 ((at':Int)+(t:Int))=((at'+t:Nat):Int):=by rw[wrap64 (by omega) (by omega)]; omega
  have e3:aF ((at'+t:Nat):Int) p.length=true:=by rw[aG]; exact oT (by omega)
  have e4:Nat.blt (at'+t) l.length=true:=by rw[bE]; exact oT (by omega)
  have e5:(0+(at'+t))*1=at'+t:=by omega
  have e6:=aT t (by omega);have e10:aB .u64 (ca+l.getD (at'+t) 0)=ca+l.getD (at'+t) 0:=fQ (by omega) (by omega)
  by_cases hqt':t<q.length
  ·have e7:ltI (t:Int) (q.length:Int)=true:=by rw[aE]; exact oT (by omega)
   have e8:aF (t:Int) q.length=true:=by rw[aG]; exact oT (by omega)
   have e9:aB .u64 (ca+l.getD (at'+t) 0+q.getD t 0)=ca+l.getD (at'+t) 0+q.getD t 0:=fQ (by omega) (by omega);have e11:aB .u64 ((ca+l.getD (at'+t) 0+q.getD t 0)/1000000000)=(ca+l.getD (at'+t) 0+q.getD t 0)/1000000000:=fQ (by omega) (by omega);rw[if_pos hqt'];simp only[cK,e1,e2,e3,e4,e5,e6,e7,e8,e9,e10,oC,Bool.not_false,oN,tH,sX,tE,I4 (show 0<=ca+l.getD (at'+t) 0+q.getD t 0 by omega),I3 (show 0<=ca+l.getD (at'+t) 0+q.getD t 0 by omega),e11]
  ·have e7:ltI (t:Int) (q.length:Int)=false:=by rw[aE]; exact oF (by omega)
   have e11:aB .u64 ((ca+l.getD (at'+t) 0)/1000000000)=(ca+l.getD (at'+t) 0)/1000000000:=fQ (by omega) (by omega);rw[if_neg hqt'];simp only[cK,e1,e2,e3,e4,e5,e6,e7,e10,oC,oD,Bool.not_false,oN,tH,sX,tE,I4 (show 0<=ca+l.getD (at'+t) 0 by omega),I3 (show 0<=ca+l.getD (at'+t) 0 by omega),e11]
 ·have e1:ltI (q.length:Int) ((q.length+1:Nat):Int)=true:=by rw[aE]; exact oT (by omega)
  simp only[cK,e1,Bool.not_true,oD]
theorem LJ {q o}{a:Int}{i}(ho:Pc o)(hq:Pc q)(ha:0<=a/\a<1000000000)(hl:i+q.length<=o.length)(hol:o.length<=4000000)(v17:List Int)(v18 v19:Int)(A:List (List Int)) :
  kU (q,o,(i:Int),a,0,v17,v18,v19,q,(q.length:Int),0,A,())=some (q,(tmI q a i o q.length).1,(i:Int),(tmI q a i o q.length).2,v17,v18,v19,A,()):=by
 refine aQ (step:=dS) (N:=2^64) (λt=>(q,(tmI q a i o t).1,(i:Int),a,(tmI q a i o t).2,v17,v18,v19,q,(q.length:Int),(t:Int),A,())) q.length _ (by omega) (λt ht=>?_) ?_
 ·have hI:=D9 ho hq ha hl t (by omega);rw[tmI];generalize tmI q a i o t=s at hI;obtain⟨l,ca⟩:=s;obtain⟨h1,h2,h3,h5,h6⟩:=hI;dsimp only at h1 h2 h3 h5 h6 ⊢;have hx:=h1.get (i+t);have hm:=rW ha (hq.get t);have e1:ltI (t:Int) (q.length:Int)=true:=by rw[aE]; exact oT (by omega)
  have e2:aB .i64 ((i:Int)+(t:Int))=((i+t:Nat):Int):=by rw[wrap64 (by omega) (by omega)]; omega
  have e3:aF ((i+t:Nat):Int) l.length=true:=by rw[aG]; exact oT (by omega)
  have e4:Nat.blt (i+t) l.length=true:=by rw[bE]; exact oT (by omega)
  have e5:aF (t:Int) q.length=true:=by rw[aG]; exact oT (by omega)
  have e6:=aT t (by omega);have e7:aB .u64 (a*q.getD t 0)=a*q.getD t 0:=fQ (by omega) (by omega);have e8:aB .u64 (l.getD (i+t) 0+a*q.getD t 0)=l.getD (i+t) 0+a*q.getD t 0:=fQ (by omega) (by omega);have e9:aB .u64 (ca+(l.getD (i+t) 0+a*q.getD t 0))=ca+(l.getD (i+t) 0+a*q.getD t 0):=fQ (by omega) (by omega);have e10:aB .u64 ((ca+(l.getD (i+t) 0+a*q.getD t 0))/1000000000)=(ca+(l.getD (i+t) 0+a*q.getD t 0))/1000000000:=fQ (by omega) (by omega)
  simp only[dS,e1,e2,e3,e4,e5,e6,e7,e8,e9,oC,oN,I4 (show 0<=ca+(l.getD (i+t) 0+a*q.getD t 0)by omega),I3 (show 0<=ca+(l.getD (i+t) 0+a*q.getD t 0)by omega),e10]
 ·have e1:ltI (q.length:Int) (q.length:Int)=false:=by rw[aE]; exact oF (by omega)
  simp only[dS,e1,oD]
theorem E6 a b (hl:(pcs a).length+(pcs b).length<=1048576) A:fV () (pcs a,pcs b,()) A=some (pcs (a*b),A):=by
 obtain⟨a1,a2,a3⟩:=cT a;obtain⟨b1,b2,b3⟩:=cT b;have htm:=JJ a b;generalize pcs a=p at *;generalize pcs b=q at *;have key:=aQ (step:=dV) (N:=2^64) (λt=>(q,tmO p q (List.replicate (p.length+q.length) 0) t,p,(p.length:Int),(t:Int),A,())) p.length
  (tmO p q (List.replicate (p.length+q.length) 0) p.length,A,()) (by omega) (λt ht=>?_) ?_
 ·have key:kS (q,List.replicate (p.length+q.length) 0,p,(p.length:Int),0,A,())=_:=key;have e2:aB .i64 ((p.length:Int)+(q.length:Int))=((p.length+q.length:Nat):Int):=by rw[wrap64 (by omega) (by omega)]; omega
  have e3:ltI ((p.length+q.length:Nat):Int) 0=false:=by rw[aE]; exact oF (by omega)
  have e4:ltI ((p.length+q.length:Nat):Int) ((p.length+q.length:Nat):Int)=false:=by rw[aE]; exact oF (by omega)
  have e5:ltI 1048576 ((p.length+q.length:Nat):Int)=false:=by rw[aE]; exact oF (by omega)
  have hlen:=(DI a1 b1 p.length (oM _)).2.1;unfold fV;simp only[e2,e3,e4,e5,Bool.not_false,oC,oN,key,aD,uT (show (tmO p q (List.replicate (p.length+q.length) 0) p.length).length<=4000000 by omega),htm]
 ·obtain⟨h1,h2,h3,h4⟩:=DI a1 b1 t (by omega);have hi:=LJ (q:=q) (o:=tmO p q (List.replicate (p.length+q.length) 0) t) (a:=p.getD t 0) (i:=t) h1 b1 (a1.get t) (by omega) (by omega) p (p.length:Int) (t:Int) A;have hI:=(D9 h1 b1 (a1.get t) (i:=t) (by omega) q.length (oM _)).len;rw[tmO];generalize tmO p q (List.replicate (p.length+q.length) 0) t=o at *;have e1:ltI (t:Int) (p.length:Int)=true:=by rw[aE]; exact oT (by omega)
  have e2:aF (t:Int) p.length=true:=by rw[aG]; exact oT (by omega)
  have e3:aB .i64 ((t:Int)+(q.length:Int))=((t+q.length:Nat):Int):=by rw[wrap64 (by omega) (by omega)]; omega
  have e4:aF ((t+q.length:Nat):Int) (tmI q (p.getD t 0) t o q.length).1.length=true:=by rw[aG]; exact oT (by omega)
  have e5:Nat.blt (t+q.length) (tmI q (p.getD t 0) t o q.length).1.length=true:=by rw[bE]; exact oT (by omega)
  have e6:=aT t (by omega);simp only[dV,e1,e2,oC,oN,hi,aD,e3,e4,e5,e6]
 ·have e1:ltI (p.length:Int) (p.length:Int)=false:=by rw[aE]; exact oF (by omega)
  simp only[dV,e1,oD]
theorem E8 {n:Nat}(h:n<1000000000):kR [n]=pcs n:=pM (λx hx=>by grind) (by rfl)
theorem JL {n}(h:n<1000000000):(pcs n).length<=1:=uM (by omega)
theorem CJ a {n:Nat}(hn:n<1000000000)(hl:(pcs a).length+1<=1048576) A:jF () (pcs a,(n:Int),()) A=some (pcs (a*n),A):=by
 have:=JL hn;show (aC (lQ ([n],())) _)=_;rw[KA,aD,E8 hn];rw[E6 a n (by omega),aD]
theorem FO a {n:Nat}(hn:0<n/\n<1000000000)(hl:(pcs a).length<=1048576) A:gK () (pcs a,(n:Int),()) A=some ((pcs (a/n),((a%n:Nat):Int),()),A):=by
 obtain⟨a1,a2,a3⟩:=cT a;obtain⟨s1,s2⟩:=JT a hn;generalize pcs a=p at *;have hn':0<(n:Int)/\(n:Int)<1000000000:=by omega
 have key:=aQ (step:=eC) (N:=2^64) (λt=>(p,(n:Int),(smS p n t).1,(smS p n t).2,(p.length:Int)-1-(t:Int),A,())) p.length
  ((smS p n p.length).1,(smS p n p.length).2,A,()) (by omega) (λt ht=>?_) ?_
 ·rw[show (p.length:Int)-1-((0:Nat):Int)=(p.length:Int)-1 by omega]at key;have key:lG (p,(n:Int),List.replicate p.length 0,0,(p.length:Int)-1,A,())=_:=key;have e2:aB .i64 ((p.length:Int)-1)=(p.length:Int)-1:=wrap64 (by omega) (by omega);have e3:ltI (p.length:Int) 0=false:=by rw[aE]; exact oF (by omega)
  have e4:ltI (p.length:Int) (p.length:Int)=false:=by rw[aE]; exact oF (by omega)
  have e5:ltI 1048576 (p.length:Int)=false:=by rw[aE]; exact oF (by omega)
  have hlen:=(smI a1 hn' p.length (oM _)).len;unfold gK;simp only[e2,e3,e4,e5,Bool.not_false,oC,oN,key,aD,uT (show (smS p n p.length).1.length<=4000000 by omega),s1,s2]
 ·have hI:=smI a1 hn' t (by omega);rw[smS];generalize smS p n t=s at hI;obtain⟨l,r⟩:=s;obtain⟨h1,h2,h3,h4,h5⟩:=hI;dsimp only at h1 h2 h3 h4 h5 ⊢;obtain⟨i,hi⟩:∃ i,p.length-1-t=i:=⟨_,rfl⟩;have ei:(p.length:Int)-1-(t:Int)=(i:Int):=by omega
  have ei':(p.length:Int)-1-((t+1:Nat):Int)=(i:Int)-1:=by omega
  rw[hi,ei,ei'];have hx:=a1.get i;have e1:ltI (i:Int) 0=false:=by rw[aE]; exact oF (by omega)
  have e2:aF (i:Int) p.length=true:=by rw[aG]; exact oT (by omega)
  have e3:eqI (n:Int) 0=false:=by rw[bT]; exact oF (by omega)
  have e4:aF (i:Int) l.length=true:=by rw[aG]; exact oT (by omega)
  have e5:Nat.blt i l.length=true:=by rw[bE]; exact oT (by omega)
  have e6:aB .i64 ((i:Int)-1)=(i:Int)-1:=wrap64 (by omega) (by omega);have e7:aB .u64 (r*1000000000)=r*1000000000:=fQ (by omega) (by omega);have e8:aB .u64 (r*1000000000+p.getD i 0)=r*1000000000+p.getD i 0:=fQ (by omega) (by omega);have e9:(r*1000000000+p.getD i 0).tdiv n=(r*1000000000+p.getD i 0)/n:=Int.tdiv_eq_ediv_of_nonneg (by omega);have e10:(r*1000000000+p.getD i 0).tmod n=(r*1000000000+p.getD i 0)%n:=Int.tmod_eq_emod_of_nonneg (by omega)
  have q0:0<=(r*1000000000+p.getD i 0)/n:=Int.ediv_nonneg (by omega) (by omega);have q1:(r*1000000000+p.getD i 0)/n<=r*1000000000+p.getD i 0:=Int.ediv_le_self _ (by omega);have e11:aB .u64 ((r*1000000000+p.getD i 0)/n)=(r*1000000000+p.getD i 0)/n:=fQ q0 (by omega);simp only[eC,e1,e2,e3,e4,e5,e6,e7,e8,e9,e10,e11,oC,oD,Bool.not_false,oN]
 ·have e1:ltI ((p.length:Int)-1-(p.length:Int)) 0=true:=by rw[aE]; exact oT (by omega)
  simp only[eC,e1,Bool.not_true,oD]
theorem GL {p q} (hp:Pc p) (hq:Pc q) {i} (hl:p.length=q.length) (hi:i<p.length) (he:p.drop (i+1)=q.drop (i+1)) (hlt:p.getD i 0<q.getD i 0):vl p<vl q:=by
 have e1:=tG p (i+1) (by omega);have e2:=tG q (i+1) (by omega);have e3:=mX p i hi;have e4:=mX q i (by omega);have n1:=rZ (hp.wZ i);have n2:=fL (hq.wZ i);rw[List.length_take,Nat.min_eq_left (by omega)]at n1;have hm:(p.getD i 0+1)*pw i<=q.getD i 0*pw i:=Int.mul_le_mul_of_nonneg_right (by omega) (Int.le_of_lt (sE i));grind
theorem K1 {p q}(hp:Pc p)(hq:Pc q)(hl:p.length=q.length)(hpl:p.length<=4000000):∀ n,n<=p.length->p.drop n=q.drop n->∀ k,
  aO eD (n+1+k) (p,q,(n:Int)-1,())=some (if vl p<vl q then .inl (-1,()) else if vl q<vl p then .inl (1,()) else .inr ()):=by
 intro n
 induction n with
 | zero =>
  intro _ he k;have hpq:p=q:=he;subst hpq;rw[show 0+1+k=k+1 by omega,aV,if_neg (Int.lt_irrefl _),if_neg (Int.lt_irrefl _)];rfl
 | succ n ih =>
  intro h he k;rw[show n+1+1+k=(n+1+k)+1 by omega,aV];have e0:((n+1:Nat):Int)-1=(n:Int):=by omega
  rw[e0];have e1:ltI (n:Int) 0=false:=by rw[aE]; exact oF (by omega)
  have e2:aF (n:Int) p.length=true:=by rw[aG]; exact oT (by omega)
  have e3:aF (n:Int) q.length=true:=by rw[aG]; exact oT (by omega)
  have e4:aB .i64 ((n:Int)-1)=(n:Int)-1:=wrap64 (by omega) (by omega);simp only[eD,e1,e2,e3,e4,oC,Bool.not_false,oN,aE,aN]
  by_cases h1:p.getD n 0<q.getD n 0
  ·have:=GL hp hq hl (by omega) he h1;rw[if_pos h1,if_pos this]
  ·rw[if_neg h1]
   by_cases h2:q.getD n 0<p.getD n 0
   ·have:=GL hq hp hl.symm (by omega) he.symm h2;rw[if_pos h2,if_neg (by omega),if_pos this]
   ·rw[if_neg h2];refine ih (by omega) ?_ k;have hg:p.getD n 0=q.getD n 0:=by omega
    rw[oQ,List.getElem?_eq_getElem (show n<p.length by omega),oQ,List.getElem?_eq_getElem (show n<q.length by omega)]at hg;rw[List.drop_eq_getElem_cons (show n<p.length by omega),List.drop_eq_getElem_cons (show n<q.length by omega),he];have hg:p[n]=q[n]:=hg;rw[hg]
theorem HW a b (ha:(pcs a).length<=1048576)(hb:(pcs b).length<=1048576):kD (pcs a,pcs b,())=some (if a<b then -1 else if b<a then 1 else 0,()):=by
 obtain⟨a1,a2,a3⟩:=cT a;obtain⟨b1,b2,b3⟩:=cT b;have len:∀ {x y:Nat},(pcs x).length<(pcs y).length->x<y:=λ{x y} h=>by
  rcases oG x y with h1|h1
  ·exact h1
  ·have h2:(pcs y).length<=(pcs x).length:=by
    obtain⟨x1,x2,x3⟩:=cT x;have:=rZ x1;rw[x3]at this;refine uM (k:=(pcs x).length) ?_;have e:((1000000000^(pcs x).length:Nat):Int)=pw (pcs x).length:=by unfold pw; rw[Int.natCast_pow]; rfl
    omega
   omega
 unfold kD;dsimp only;rw[bT]
 by_cases hl:((pcs a).length:Int)=(pcs b).length
 ·have hl':(pcs a).length=(pcs b).length:=by omega
  have h:=K1 a1 b1 hl' (by omega) (pcs a).length (oM _) (by rw[List.drop_of_length_le (oM _),List.drop_of_length_le (by omega)]) (2^64-(pcs a).length-1);rw[show (pcs a).length+1+(2^64-(pcs a).length-1)=2^64 by omega,a3,b3]at h;have e2:aB .i64 (((pcs a).length:Int)-1)=((pcs a).length:Int)-1:=wrap64 (by omega) (by omega);rw[oT hl,e2];show (aC (aO eD (2^64) (pcs a,pcs b,((pcs a).length:Int)-1,())) _)=_
  rw[h,aD]
  by_cases h1:a<b
  ·rw[if_pos (show ((a:Nat):Int)<b by omega),if_pos h1]; rfl
  ·rw[if_neg (show ¬ ((a:Nat):Int)<b by omega),if_neg h1]
   by_cases h2:b<a
   ·rw[if_pos (show ((b:Nat):Int)<a by omega),if_pos h2]; rfl
   ·rw[if_neg (show ¬ ((b:Nat):Int)<a by omega),if_neg h2]; rfl
 ·have e2:aB .i64 (((pcs a).length:Int)-((pcs b).length:Int))=((pcs a).length:Int)-((pcs b).length:Int):=wrap64 (by omega) (by omega);rw[oF hl,e2];rcases Nat.lt_or_gt_of_ne (show (pcs a).length≠(pcs b).length by omega)with h|h
  ·have:=len h;rw[if_pos this];show some ((if (if (-1:Int)<((pcs a).length:Int)-((pcs b).length:Int) then ((pcs a).length:Int)-((pcs b).length:Int) else -1)<1 then (if (-1:Int)<((pcs a).length:Int)-((pcs b).length:Int) then ((pcs a).length:Int)-((pcs b).length:Int) else -1) else 1),())=_;rw[if_neg (show ¬ (-1:Int)<((pcs a).length:Int)-((pcs b).length:Int)by omega),if_pos (by decide)]
  ·have:=len h;have e3:(if a<b then (-1:Int) else if b<a then 1 else 0)=1:=by rw[if_neg (by omega),if_pos this]
   rw[e3];show some ((if (if (-1:Int)<((pcs a).length:Int)-((pcs b).length:Int) then ((pcs a).length:Int)-((pcs b).length:Int) else -1)<1 then (if (-1:Int)<((pcs a).length:Int)-((pcs b).length:Int) then ((pcs a).length:Int)-((pcs b).length:Int) else -1) else 1),())=_;rw[if_pos (show (-1:Int)<((pcs a).length:Int)-((pcs b).length:Int)by omega),if_neg (by omega)]
theorem MC u m j:10*(u/10^(m+1)%10^j)+u/10^m%10=u/10^m%10^(j+1):=by
 have e:u/10^(m+1)=u/10^m/10:=by rw[Nat.pow_succ,Nat.div_div_eq_div_mul]
 rw[e,Nat.pow_succ,Nat.mul_comm (10^j) 10,Nat.mod_mul];omega
theorem PF u t:((Lib.dg u t).toNat)=48+((u/10^t%10:Nat):Int):=by
 unfold Lib.dg;rw[UInt8.toNat_ofNat'];omega
theorem J3 u lo hi (h1:lo<=hi)(h2:hi<=Lib.nDigits u):xP ((Dn u).extract lo hi)=(List.range (hi-lo)).map λj=>48+((u/10^(Lib.nDigits u-1-(lo+j))%10:Nat):Int):=by
 have e:((Dn u).extract lo hi).data.toList=((Lib.decDigits u).drop lo).take (hi-lo):=by rw[ByteArray.data_extract,Array.toList_extract,List.extract_eq_take_drop,jW]
 unfold xP;rw[e,Lib.decDigits_eq];refine List.ext_getElem (by grind) λi h3 h4=>?_
 simp only[List.getElem_map,List.getElem_take,List.getElem_drop,List.getElem_range];exact PF u _
theorem JZ u {lo hi}(h1:lo<=hi)(h2:hi<=Lib.nDigits u)(h9:hi-lo<=9)(v0:ByteArray)(v3:List Int)(v4:Int)(A:List (List Int)) :
  rR (v0,v3,v4,0,xP ((Dn u).extract lo hi),((xP ((Dn u).extract lo hi)).length:Int),0,A,())=some (v0,v3,v4,((u/10^(Lib.nDigits u-hi)%10^(hi-lo):Nat):Int),A,()):=by
 rw[J3 u lo hi h1 h2];have hlen:((List.range (hi-lo)).map λj=>48+((u/10^(Lib.nDigits u-1-(lo+j))%10:Nat):Int)).length=hi-lo:=by simp
 rw[hlen];have key:=aQ (step:=jO) (N:=2^64) (λt=>(v0,v3,v4,((u/10^(Lib.nDigits u-lo-t)%10^t:Nat):Int),((List.range (hi-lo)).map λj=>48+((u/10^(Lib.nDigits u-1-(lo+j))%10:Nat):Int)),((hi-lo:Nat):Int),(t:Int),A,())) (hi-lo)
  (v0,v3,v4,((u/10^(Lib.nDigits u-hi)%10^(hi-lo):Nat):Int),A,()) (by omega) (λt ht=>?_) ?_
 ·have e0:((u/10^(Lib.nDigits u-lo-0)%10^0:Nat):Int)=0:=by simp[Nat.mod_one]
  rw[e0]at key;exact key
 ·have e1:ltI (t:Int) ((hi-lo:Nat):Int)=true:=by rw[aE]; exact oT (by omega)
  have e2:aF (t:Int) (hi-lo)=true:=by rw[aG]; exact oT (by omega)
  have e3:((List.range (hi-lo)).map λj=>48+((u/10^(Lib.nDigits u-1-(lo+j))%10:Nat):Int)).getD t 0=48+((u/10^(Lib.nDigits u-1-(lo+t))%10:Nat):Int):=by grind
  obtain⟨m,hm⟩:∃ m,Lib.nDigits u-1-(lo+t)=m:=⟨_,rfl⟩;have hm1:Lib.nDigits u-lo-t=m+1:=by omega
  have hm2:Lib.nDigits u-lo-(t+1)=m:=by omega
  rw[hm]at e3;rw[hm1,hm2,<- MC u m t];have hd:u/10^m%10<10:=Nat.mod_lt _ (by decide);have ha:u/10^(m+1)%10^t<10^9:=by
   have h4:10^t<=10^9:=Nat.pow_le_pow_right (by decide) (by omega);omega
  have h109:(10:Nat)^9=1000000000:=by decide
  generalize u/10^m%10=d at *;generalize u/10^(m+1)%10^t=a at *;have e4:aB .u8 (48+(d:Int)-48)=(d:Int):=by rw[MA (by omega) (by omega)]; omega
  have e5:IntKind.wrap .u64 (d:Int)=(d:Int):=HR (by omega) (by omega);have e6:aB .u64 (10*(a:Int))=10*(a:Int):=fQ (by omega) (by omega);have e7:aB .u64 (10*(a:Int)+(d:Int))=((10*a+d:Nat):Int):=by rw[fQ (by omega) (by omega)]; omega
  have e8:=aT t (by omega);simp only[jO,e1,e2,e3,e4,e5,e6,e7,e8,hlen,oC,oN]
 ·have e1:ltI ((hi-lo:Nat):Int) ((hi-lo:Nat):Int)=false:=by rw[aE]; exact oF (by omega)
  have e2:Lib.nDigits u-lo-(hi-lo)=Lib.nDigits u-hi:=by omega
  simp only[jO,e1,e2,oD]
theorem NP t:10^(9*t)=1000000000^t:=by rw[Nat.pow_mul]
theorem DC u:∀ t,vl ((List.range t).map λj=>((u/1000000000^j%1000000000:Nat)))=((u%1000000000^t:Nat))
 | 0=>by simp[vl,Nat.mod_one]
 | t+1=>by
  rw[List.range_succ,List.map_append,pK,DC u t,List.length_map,List.length_range,Nat.pow_succ,Nat.mod_mul];have e:pw t=((1000000000^t:Nat):Int):=by unfold pw; rw[Int.natCast_pow]; rfl
  rw[e];simp only[List.map_cons,List.map_nil,vl,Int.mul_zero,Int.add_zero];rw[Int.natCast_add,Int.natCast_mul]
theorem wK u (hu:Lib.nDigits u<=1000000) A:c8 () (Dn u,()) A=some (pcs u,A):=by
 have hsz:=lX u;generalize hnd:Lib.nDigits u=nd at *;obtain⟨T,hT⟩:∃ T,T=(nd+8)/9:=⟨_,rfl⟩;have key:=aQ (step:=jX) (N:=2^64) (λt=>(Dn u,((List.range t).map λj=>((u/1000000000^j%1000000000:Nat):Int)),(nd:Int)-9*(t:Int),A,())) T
  ((List.range T).map λj=>((u/1000000000^j%1000000000:Nat):Int),A,()) (by omega) (λt ht=>?_) ?_
 ·have key:rV (Dn u,List.replicate 0 0,(nd:Int),A,())=some ((List.range T).map (λj=>((u/1000000000^j%1000000000:Nat):Int)),A,()):=by
   exact key
  have e1:((nd:Nat):Int).tdiv 9=((nd/9:Nat):Int):=rfl;have e2:aB .i64 ((nd/9:Nat):Int)=((nd/9:Nat):Int):=wrap64 (by omega) (by omega);have e3:=aT (nd/9) (by omega);have e4:ltI ((nd/9+1:Nat):Int) 0=false:=by rw[aE]; exact oF (by omega)
  have e5:ltI 1048576 ((nd/9+1:Nat):Int)=false:=by rw[aE]; exact oF (by omega)
  have ht:kR ((List.range T).map λj=>((u/1000000000^j%1000000000:Nat):Int))=pcs u:=by
   refine pM (λx hx=>?_) ?_
   ·grind
   ·rw[DC,Nat.mod_eq_of_lt];have h1:=Lib.lt_pow_nDigits u;have h2:(10:Nat)^nd<=10^(9*T):=Nat.pow_le_pow_right (by decide) (by omega);rw[NP]at h2;grind
  unfold c8;simp only[hsz,e1,e2,e3,e4,e5,Bool.not_false,oC,key,aD,uT (show ((List.range T).map λj=>((u/1000000000^j%1000000000:Nat):Int)).length<=4000000 by simp; omega),ht]
 ·obtain⟨hi,hhi⟩:∃ hi:Nat,hi=nd-9*t:=⟨_,rfl⟩;obtain⟨lo,hlo⟩:∃ lo:Nat,lo=hi-9:=⟨_,rfl⟩;have ehi:(nd:Int)-9*(t:Int)=(hi:Int):=by omega
  have ehi':(nd:Int)-9*((t+1:Nat):Int)=(hi:Int)-9:=by omega
  rw[ehi,ehi'];have e1:ltI 0 (hi:Int)=true:=by rw[aE]; exact oT (by omega)
  have e2:aB .i64 ((hi:Int)-9)=(hi:Int)-9:=wrap64 (by omega) (by omega);have e3:(if 0<(hi:Int)-9 then (hi:Int)-9 else 0)=(lo:Int):=by
   by_cases h:0<(hi:Int)-9
   ·rw[if_pos h]; omega
   ·rw[if_neg h]; omega
  have e4:ltI (lo:Int) 0=false:=by rw[aE]; exact oF (by omega)
  have e5:ltI (hi:Int) 0=false:=by rw[aE]; exact oF (by omega)
  have e6:Nat.ble lo hi=true:=by rw[bY]; exact oT (by omega)
  have e7:Nat.ble hi nd=true:=by rw[bY]; exact oT (by omega)
  have hin:=JZ u (lo:=lo) (hi:=hi) (by omega) (by omega) (by omega) (Dn u) ((List.range t).map λj=>((u/1000000000^j%1000000000:Nat):Int)) (hi:Int) A;have hval:u/10^(Lib.nDigits u-hi)%10^(hi-lo)=u/1000000000^t%1000000000:=by
   rw[hnd,show nd-hi=9*t by omega,NP]
   by_cases h:9<=hi
   ·rw[show hi-lo=9 by omega]
   ·have h1:=Lib.lt_pow_nDigits u;rw[hnd]at h1;have h2:u/1000000000^t<10^hi:=by
     rw[Nat.div_lt_iff_lt_mul (Nat.pow_pos (by decide)),<- NP,<- Nat.pow_add,show hi+9*t=nd by omega];exact h1
    have h3:(10:Nat)^hi<=10^9:=Nat.pow_le_pow_right (by decide) (by omega);have h4:(10:Nat)^9=1000000000:=by decide
    rw[show hi-lo=hi by omega,Nat.mod_eq_of_lt h2,Nat.mod_eq_of_lt (by omega)]
  rw[hval]at hin;have e8:Nat.ble [((u/1000000000^t%1000000000:Nat):Int)].length 1048576=true:=rfl;have e9:Nat.ble ((List.range t).map λj=>((u/1000000000^j%1000000000:Nat):Int)).length 1048576=true:=by rw[bY]; simp; omega
  simp only[jX,hsz,e1,e2,e3,e4,e5,e6,e7,e8,e9,oC,Bool.not_false,oN,hin,aD];rw[List.range_succ,List.map_append];rfl
 ·have e1:ltI 0 ((nd:Int)-9*(T:Int))=false:=by rw[aE]; exact oF (by omega)
  simp only[jX,e1,oD]
def wT(u:Nat):List Int:=(Lib.decDigits u).reverse.map λb=>(b.toNat:Int)
theorem HK {u}(h:u<10):wT u=[48+(u:Int)]:=by
 unfold wT;rw[Lib.decDigits,dif_pos h];simp;omega
theorem FH {u}(h:¬ u<10):wT u=(48+((u%10:Nat):Int))::wT (u/10):=by
 unfold wT;rw[Lib.decDigits,dif_neg h];simp only[List.reverse_append,List.reverse_cons,List.reverse_nil,List.nil_append,List.cons_append,List.map_cons,List.cons.injEq,and_true];rw[UInt8.toNat_ofNat'];omega
theorem vP u:(wT u).length=Lib.nDigits u:=by simp[wT,Lib.decDigits_length]
def tV(x:Nat):Nat->List Int
 | 0=>[]
 | k+1=>tV x k++[48+((x/10^k%10:Nat):Int)]
theorem zX x:∀ k,(tV x k).length=k
 | 0=>rfl
 | k+1=>by rw[tV,oH,zX x k]; rfl
theorem CZ x:∀ k,tV x (k+1)=(48+((x%10:Nat):Int))::tV (x/10) k
 | 0=>by simp[tV]
 | k+1=>by rw[tV,CZ x k,tV,List.cons_append,Nat.pow_succ,Nat.mul_comm,<- Nat.div_div_eq_div_mul]
theorem GN:∀ k u,10^k<=u->wT u=tV u k++wT (u/10^k)
 | 0,u,_=>by simp[tV]
 | k+1,u,h=>by
  have h1:10^k<=u/10:=by grind
  have hp:1<=10^k:=Nat.one_le_pow _ _ (by simp);rw[FH (by omega),CZ,GN k (u/10) h1,List.cons_append,Nat.pow_succ,Nat.mul_comm,<- Nat.div_div_eq_div_mul]
theorem E3 x y:∀ k,k<=9->x%1000000000=y%1000000000->tV x k=tV y k
 | 0,_,_=>rfl
 | k+1,hk,h=>by
  rw[tV,tV,E3 x y k (by omega) h];have key:∀ z ,z/10^k%10=z%1000000000/10^k%10:=λz=>by
   have e:1000000000=10^k*(10*10^(8-k)):=by rw[<- Nat.mul_assoc,<- Nat.pow_succ,<- Nat.pow_add,show k.succ+(8-k)=9 by omega]
   rw[e,Nat.mod_mul_right_div_self,Nat.mod_mul_right_mod]
  simp_all
theorem JX(p:List Int) (v3:List Int) {i x:Nat} (hi:i+1<p.length) (hp:p.length<=4000000) (hx:x<1000000000) (hv:v3.length<=1000100) (v14:List Int) (v15 v16:Int) :
  jI (p,v3,(i:Int),(x:Int),0,v14,v15,v16,())=some (p,v3++tV x 9,v14,v15,v16,()):=by
 have key:=aQ (step:=cD) (N:=2^64) (λt=>(p,v3++tV x t,(i:Int),((x/10^t:Nat):Int),(t:Int),v14,v15,v16,())) 9
  (p,v3++tV x 9,v14,v15,v16,()) (by omega) (λt ht=>?_) ?_
 ·have hp0:tV x 0=[]:=rfl;rw[hp0,List.append_nil,Nat.pow_zero,Nat.div_one]at key;exact key
 ·have e1:ltI (t:Int) 9=true:=by rw[aE]; exact oT (by omega)
  have e2:=aT i (by omega);have e3:ltI ((i+1:Nat):Int) (p.length:Int)=true:=by rw[aE]; exact oT (by omega)
  have hy:x/10^t<=x:=Nat.div_le_self _ _;have e9:x/10^(t+1)=x/10^t/10:=by rw[Nat.pow_succ,Nat.div_div_eq_div_mul]
  rw[e9,tV,<- List.append_assoc];generalize x/10^t=y at *;have e4:((y:Nat):Int).tmod 10=((y%10:Nat):Int):=rfl;have e5:((y:Nat):Int).tdiv 10=((y/10:Nat):Int):=rfl;have e6:IntKind.wrap .u8 (aB .u64 (48+((y%10:Nat):Int)))=48+((y%10:Nat):Int):=by rw[fQ (by omega) (by omega),IV (by omega) (by omega)]
  have e7:aB .u64 ((y/10:Nat):Int)=((y/10:Nat):Int):=fQ (by omega) (by omega);have e8:=aT t (by omega);have e10:Nat.ble [48+((y%10:Nat):Int)].length 1048576=true:=rfl;have e11:Nat.ble (v3++tV x t).length 1048576=true:=by rw[bY,oH,zX]; exact oT (by omega)
  simp only[cD,e1,e2,e3,e4,e5,e6,e7,e8,e10,e11,oC]
 ·rfl
theorem CS(p:List Int){i}(hi:p.length=i+1)(hp:p.length<=4000000)(v14:List Int)(v15 v16:Int):∀ (k x:Nat) (v3:List Int),0<x->x<10^k->k<=9->v3.length+k<=1000100->∀ N,
  aO cD (k+1+N) (p,v3,(i:Int),(x:Int),((9-k:Nat):Int),v14,v15,v16,())=some (p,v3++wT x,v14,v15,v16,())
 | 0,x,v3,h0,h1,_,_,N=>by grind
 | k+1,x,v3,h0,h1,h9,hv,N=>by
  rw[show k+1+1+N=(k+1+N)+1 by omega,aV];have e1:ltI ((9-(k+1):Nat):Int) 9=true:=by rw[aE]; exact oT (by omega)
  have e2:=aT i (by omega);have e3:ltI ((i+1:Nat):Int) (p.length:Int)=false:=by rw[aE]; exact oF (by omega)
  have e0:ltI 0 (x:Int)=true:=by rw[aE]; exact oT (by omega)
  have hxB:x<10^9:=Nat.lt_of_lt_of_le h1 (Nat.pow_le_pow_right (by decide) h9);have e4:((x:Nat):Int).tmod 10=((x%10:Nat):Int):=rfl;have e5:((x:Nat):Int).tdiv 10=((x/10:Nat):Int):=rfl;have e6:IntKind.wrap .u8 (aB .u64 (48+((x%10:Nat):Int)))=48+((x%10:Nat):Int):=by rw[fQ (by omega) (by omega),IV (by omega) (by omega)]
  have e7:aB .u64 ((x/10:Nat):Int)=((x/10:Nat):Int):=fQ (by omega) (by omega);have e8:aB .i64 (((9-(k+1):Nat):Int)+1)=((9-k:Nat):Int):=by rw[wrap64 (by omega) (by omega)]; omega
  have e10:Nat.ble [48+((x%10:Nat):Int)].length 1048576=true:=rfl;have e11:Nat.ble v3.length 1048576=true:=by rw[bY]; exact oT (by omega)
  simp only[cD,e1,e2,e3,e0,e4,e5,e6,e7,e8,e10,e11,oC,oD]
  by_cases hx:x<10
  ·have hz:x/10=0:=by omega
   have hm:x%10=x:=Nat.mod_eq_of_lt hx;rw[hz,hm,HK hx,show k+1+N=(k+N)+1 by omega,aV];have e12:ltI 0 ((0:Nat):Int)=false:=rfl;cases hk:ltI ((9-k:Nat):Int) 9 with
   | true=>simp only[cD,hk,e2,e3,e12,oC,oD]
   | false=>simp only[cD,hk,oD]
  ·rw[FH hx,CS p hi hp v14 v15 v16 k (x/10) (v3++[48+((x%10:Nat):Int)]) (by omega) (by rw[Nat.pow_succ]at h1; omega) (by omega) (by rw[oH,List.length_singleton]; omega) N,List.append_assoc];rfl
theorem B2 u i:(pcs u).getD i 0=((u/1000000000^i%1000000000:Nat)):=by
 induction i generalizing u with
 | zero =>
  by_cases h:u=0
  ·subst h; rw[vM]; rfl
  ·rw[yD h]; simp
 | succ i ih =>
  by_cases h:u=0
  ·subst h; rw[vM]; simp
  ·rw[yD h,List.getD_cons_succ,ih,Nat.pow_succ,Nat.mul_comm,<- Nat.div_div_eq_div_mul]
theorem AE {u i}(h:i<(pcs u).length):0<u/1000000000^i:=by
 have:=O9 h;exact Nat.div_pos this (Nat.pow_pos (by simp))
theorem DY {u i}(h:(pcs u).length<=i):u/1000000000^i=0:=by
 refine Nat.div_eq_of_lt ?_;obtain⟨a,b,c⟩:=cT u;have h1:=rZ a;have h2:=ED h;grind
def yG(u:Nat):Nat->List Int
 | 0=>[]
 | i+1=>if i+1<(pcs u).length then yG u i++tV (u/1000000000^i%1000000000) 9 else yG u i++wT (u/1000000000^i)
theorem A5 u:∀ i,i<(pcs u).length->yG u i++wT (u/1000000000^i)=wT u
 | 0,_=>by simp[yG]
 | i+1,h=>by
  have ih:=A5 u i (by omega);have hp:=AE h;have e:u/1000000000^(i+1)=u/1000000000^i/1000000000:=by rw[Nat.pow_succ,Nat.div_div_eq_div_mul]
  have h109:(10:Nat)^9=1000000000:=by decide
  have hr:=GN 9 (u/1000000000^i) (by omega);rw[h109,<- e,<- E3 (u/1000000000^i%1000000000) (u/1000000000^i) 9 (by decide) (by rw[Nat.mod_mod])]at hr;rw[yG,if_pos h,List.append_assoc,<- hr];exact ih
theorem LK {u}(h:0<(pcs u).length):yG u (pcs u).length=wT u:=by
 obtain⟨k,hk⟩:∃ k,(pcs u).length=k+1:=⟨(pcs u).length-1,by omega⟩;rw[hk,yG,if_neg (by omega)];exact A5 u k (by omega)
theorem LL u {i}(h:i<(pcs u).length):(yG u i).length<=Lib.nDigits u:=by
 have:=oZ List.length (A5 u i h);rw[oH,vP,vP]at this;omega
theorem xQ {u}(hu:Lib.nDigits u<=1000000):(pcs u).length*9<=1000008:=by
 have h1:=Lib.lt_pow_nDigits u;have h2:10^Lib.nDigits u<=10^(9*((Lib.nDigits u+8)/9)):=Nat.pow_le_pow_right (by simp) (by omega);rw[NP]at h2;have:=uM (n:=u) (k:=(Lib.nDigits u+8)/9) (by omega);omega
theorem JD u (hu:Lib.nDigits u<=1000000)(h0:0<(pcs u).length):nB (pcs u,List.replicate 0 0,pcs u,((pcs u).length:Int),0,())=some (wT u,()):=by
 have hlen:=xQ hu;have key:=aQ (step:=dQ) (N:=2^64) (λt=>(pcs u,yG u t,pcs u,((pcs u).length:Int),(t:Int),())) (pcs u).length (yG u (pcs u).length,()) (by omega) (λt ht=>?_) ?_
 ·rw[LK h0]at key;exact key
 ·have e1:ltI (t:Int) ((pcs u).length:Int)=true:=by rw[aE]; exact oT (by omega)
  have e2:aF (t:Int) (pcs u).length=true:=by rw[aG]; exact oT (by omega)
  have e3:=aT t (by omega);have hol:=LL u ht;have hx:u/1000000000^t%1000000000<1000000000:=Nat.mod_lt _ (by decide);rw[yG]
  by_cases h:t+1<(pcs u).length
  ·have hi:=JX (pcs u) (yG u t) (i:=t) (x:=u/1000000000^t%1000000000) h (by omega) hx (by omega) (pcs u) ((pcs u).length:Int) (t:Int);rw[if_pos h];simp only[dQ,e1,e2,e3,oC,oN,B2,hi,aD]
  ·have hz:u/1000000000^(t+1)=0:=DY (by omega);have hp:=AE ht;have hm:u/1000000000^t%1000000000=u/1000000000^t:=by
    rw[Nat.pow_succ,<- Nat.div_div_eq_div_mul]at hz;grind
   rw[hm]at hx;have h109:(10:Nat)^9=1000000000:=by decide
   have hi:=CS (pcs u) (i:=t) (by omega) (by omega) (pcs u) ((pcs u).length:Int) (t:Int) 9 (u/1000000000^t) (yG u t) hp (by rw[h109]; exact hx) (oM _) (by omega) (2^64-10);have hi:jI (pcs u,yG u t,(t:Int),((u/1000000000^t:Nat):Int),0,pcs u,((pcs u).length:Int),(t:Int),())=_:=hi;rw[if_neg h];simp only[dQ,e1,e2,e3,oC,oN,B2,hm,hi,aD]
 ·have e1:ltI ((pcs u).length:Int) ((pcs u).length:Int)=false:=by rw[aE]; exact oF (by omega)
  simp only[dQ,e1,oD]
def D6(l:List Int):Nat->List Int
 | 0=>l
 | t+1=>((D6 l t).set t (l.getD (l.length-1-t) 0)).set (l.length-1-t) (l.getD t 0)
theorem yZ l:∀ t,2*t<=l.length->(D6 l t).length=l.length/\∀ x,x<l.length->(D6 l t).getD x 0=if x<t\/l.length-1-t<x then l.getD (l.length-1-x) 0 else l.getD x 0
 | 0,_=>⟨rfl,λx hx=>by rw[if_neg (by omega)]; rfl⟩
 | t+1,h=>by
  obtain⟨h1,h2⟩:=yZ l t (by omega);refine⟨by rw[D6,List.length_set,List.length_set,h1],λx hx=>?_⟩;rw[D6];grind
theorem LD l:D6 l (l.length/2)=l.reverse:=by
 obtain⟨h1,h2⟩:=yZ l (l.length/2) (by omega);refine List.ext_getElem (by grind) λx hx hy=>?_
 grind
theorem HF {l:List Int}(hl:l.length<=4000000):CF (t:=.int .u8) hX l ()=some l.reverse:=by
 have key:=aQ (step:=dH) (N:=2^64) (λt=>((0,0,l.length),(t:Int),(l.length:Int)-1-(t:Int),[D6 l t],())) (l.length/2) ([l.reverse],()) (by omega) (λt ht=>?_) ?_
 ·have key:jN ((0,0,l.length),0,(l.length:Int)-1,[l],())=some ([l.reverse],()):=by
   rw[show (l.length:Int)-1-((0:Nat):Int)=(l.length:Int)-1 by omega]at key;exact key
  have e2:aB .i64 (((l.length:Nat):Int)-1)=(l.length:Int)-1:=wrap64 (by omega) (by omega);unfold CF hX;simp only[e2,key,aD,List.length_reverse,BC,oC]
 ·obtain⟨h1,h2⟩:=yZ l t (by omega);obtain⟨j,hj⟩:∃ j:Nat,l.length-1-t=j:=⟨_,rfl⟩;have ej:(l.length:Int)-1-(t:Int)=(j:Int):=by omega
  have ej':(l.length:Int)-1-((t+1:Nat):Int)=(j:Int)-1:=by omega
  have g1:=h2 t (by omega);have g2:=h2 j (by omega);rw[if_neg (by omega)]at g1 g2;rw[D6,ej,ej',hj];generalize D6 l t=r at *;have e1:ltI (t:Int) (j:Int)=true:=by rw[aE]; exact oT (by omega)
  have e2:aF (t:Int) l.length=true:=by rw[aG]; exact oT (by omega)
  have e3:aF (j:Int) l.length=true:=by rw[aG]; exact oT (by omega)
  have e4:Nat.blt t r.length=true:=by rw[bE]; exact oT (by omega)
  have e5:Nat.blt j r.length=true:=by rw[bE]; exact oT (by omega)
  have e6:(0+t)*1=t:=by omega
  have e7:(0+j)*1=j:=by omega
  have e8:=aT t (by omega);have e9:aB .i64 ((j:Int)-1)=(j:Int)-1:=wrap64 (by omega) (by omega);simp only[dH,e1,e2,e3,e4,e5,e6,e7,e8,e9,oC,oN,tH,sX,tE,List.length_set,g1,g2]
 ·have e1:ltI ((l.length/2:Nat):Int) ((l.length:Int)-1-((l.length/2:Nat):Int))=false:=by rw[aE]; exact oF (by omega)
  simp only[dH,e1,oD,LD]
theorem G5(L:List UInt8):DR (L.map λb=>b.toNat)=⟨L.toArray⟩:=by
 have key:∀ (L:List UInt8) (r:ByteArray),(L.map λb=>(b.toNat:Int)).foldl (λr n=>r.push (UInt8.ofNat n.toNat)) r=⟨r.data++L.toArray⟩:=by
  intro L
  induction L with
  | nil=>simp
  | cons b L ih =>
   simp_all
 unfold DR
 simp_all
theorem yH u (hu:Lib.nDigits u<=1000000):bJ (pcs u,())=some (Dn u,()):=by
 have hlen:=xQ hu;unfold bJ;dsimp only;rw[bT]
 by_cases h0:u=0
 ·subst h0;rw[vM,oT (by rfl),oC,PH]
 ·have hp:0<(pcs u).length:=by rw[yD h0]; simp
  have e1:aB .i64 (9*((pcs u).length:Int))=((9*(pcs u).length:Nat):Int):=by rw[wrap64 (by omega) (by omega)]; omega
  have e2:ltI ((9*(pcs u).length:Nat):Int) 0=false:=by rfl
  have e3:ltI 1048576 ((9*(pcs u).length:Nat):Int)=false:=by rw[aE]; grind
  rw[oF (by omega),oD,e1,e2,e3];rw[JD u hu hp,aD];rw[HF (by rw[vP]; omega),aD];unfold wT;rw[<- List.map_reverse,List.reverse_reverse,G5];rfl
theorem KL k:pw k=((1000000000^k:Nat)):=by rfl
theorem BP u:u<1000000000^(pcs u).length:=by
 obtain⟨a,b,c⟩:=cT u;have:=rZ a;grind
theorem uJ {x y}(h:x<=y):(pcs x).length<=(pcs y).length:=uM (Nat.lt_of_le_of_lt h (BP y))
theorem IT {u k}(h:(pcs u).length=k+1):0<(pcs u).getD k 0:=by
 obtain⟨a,b,c⟩:=cT u;have hne:pcs u≠[]:=λh0=>by grind
 have h1:=b _ (List.getLast?_eq_some_getLast hne);have h2:=a.get k;grind
theorem GU {acur b1 out:List Int} {f n i2:Int} {i m:Nat} (A:List (List Int)) (ha:Pc acur) (hb:Pc b1) (hbl:b1.length=m+2) (hn:n=((m+2:Nat):Int)) (hi2:i2=(i:Int)) (hl:i+m+2<acur.length) (hal:acur.length<=4000000)
  {g0 r0 bt:Int} (hbt:bt=b1.getD (m+1) 0) (hbt0:0<bt) {high:Int} (h0:0<=high/\high<1000000000000000000) (hg0:g0=high/bt) (hr0:r0=high%bt) {mm:Nat} (hmm:(mm:Int)<=g0)
  (hc:∀ t:Nat,t<mm->tD bt (b1.getD m 0) (acur.getD (i+m) 0) (g0-t) (r0+t*bt)) (hs:¬ tD bt (b1.getD m 0) (acur.getD (i+m) 0) (g0-mm) (r0+mm*bt)) :
  kO (f,acur,b1,n,out,i2,g0,r0,A,())=some (f,acur,b1,n,out,i2,g0-mm,A,()):=by
 subst hn; subst hi2;have hg2:g0<1000000000000000000:=by rw[hg0]; exact Int.lt_of_le_of_lt (Int.ediv_le_self _ h0.1) h0.2
 have hr1:0<=r0:=by rw[hr0]; exact Int.emod_nonneg _ (by omega)
 have hdm:r0+bt*g0=high:=by rw[hg0,hr0]; exact Int.emod_add_mul_ediv high bt
 have hrt:∀ t:Nat,(t:Int)<=g0->0<=r0+t*bt/\r0+t*bt<=high:=λt ht=>by
  have h1:0<=(t:Int)*bt:=Int.mul_nonneg (by omega) (by omega);have h2:(t:Int)*bt<=g0*bt:=Int.mul_le_mul_of_nonneg_right ht (by omega);grind
 have e1:aB .i64 (((m+2:Nat):Int)-1)=((m+1:Nat):Int):=by rw[wrap64 (by omega) (by omega)]; omega
 have e2:aB .i64 (((m+2:Nat):Int)-2)=((m:Nat):Int):=by rw[wrap64 (by omega) (by omega)]; omega
 have e3:aF ((m+1:Nat):Int) b1.length=true:=by rw[aG]; exact oT (by omega)
 have e4:aF ((m:Nat):Int) b1.length=true:=by rw[aG]; exact oT (by omega)
 have e5:aB .i64 (aB .i64 ((i:Int)+((m+2:Nat):Int))-2)=((i+m:Nat):Int):=by rw[wrap64 (x:=(i:Int)+((m+2:Nat):Int)) (by omega) (by omega),wrap64 (by omega) (by omega)]; omega
 have e6:aF ((i+m:Nat):Int) acur.length=true:=by rw[aG]; exact oT (by omega)
 have e7:Nat.blt (i+m) acur.length=true:=by rw[bE]; exact oT (by omega)
 have ha2:=ha.get (i+m);have hb2:=hb.get m;have stepE:∀ g r:Int,0<=g->g<=g0->0<=r->r<=high->dW (f,acur,b1,((m+2:Nat):Int),out,(i:Int),g,r,A,()) =
   if tD bt (b1.getD m 0) (acur.getD (i+m) 0) g r then some (.inl (f,acur,b1,((m+2:Nat):Int),out,(i:Int),aB .u64 (g-1),aB .u64 (r+bt),A,())) else some (.inr (f,acur,b1,((m+2:Nat):Int),out,(i:Int),g,A,())):=by
  intro g r g1 g2 r1 r2;simp only[dW,e1,e2,e3,e4,e5,e6,e7,oC,oN,aE,<- hbt,eV,aN]
  by_cases c1:1000000000<=g
  ·rw[if_pos (show ¬ g<1000000000 by omega),if_pos (.inl c1)]
  ·rw[if_neg (show ¬ ¬ g<1000000000 by omega)]
   by_cases c2:r<1000000000
   ·have hm:=rW (n:=g) (x:=b1.getD m 0) (by omega) hb2;have w1:aB .u64 (r*1000000000)=r*1000000000:=fQ (by omega) (by omega);have w2:aB .u64 (r*1000000000+acur.getD (i+m) 0)=r*1000000000+acur.getD (i+m) 0:=fQ (by omega) (by omega);have w3:aB .u64 (g*b1.getD m 0)=g*b1.getD m 0:=fQ (by omega) (by omega);rw[if_pos c2,w1,w2,w3]
    by_cases c3:r*1000000000+acur.getD (i+m) 0<g*b1.getD m 0
    ·rw[if_pos c3,if_pos (.inr ⟨c2,c3⟩)]
    ·rw[if_neg c3,if_neg (λh=>by rcases h with h|h; exact c1 h; exact c3 h.2)]
   ·rw[if_neg c2,if_neg (λh=>by rcases h with h|h; exact c1 h; exact c2 h.1)]
 have key:=aQ (step:=dW) (N:=2^64) (λt=>(f,acur,b1,((m+2:Nat):Int),out,(i:Int),g0-(t:Int),r0+(t:Int)*bt,A,())) mm (f,acur,b1,((m+2:Nat):Int),out,(i:Int),g0-mm,A,()) (by omega) (λt ht=>?_) ?_
 ·rw[show g0-((0:Nat):Int)=g0 by omega,show r0+((0:Nat):Int)*bt=r0 by simp]at key;exact key
 ·obtain⟨q1,q2⟩:=hrt t (by omega);obtain⟨q3,q4⟩:=hrt (t+1) (by omega);have e9:r0+((t+1:Nat):Int)*bt=r0+(t:Int)*bt+bt:=by rw[Int.natCast_add,Int.add_mul]; simp[Int.add_assoc]
  rw[stepE _ _ (by omega) (by omega) q1 q2,if_pos (hc t ht),e9];rw[e9]at q3 q4;rw[fQ (x:=g0-(t:Int)-1) (by omega) (by omega),fQ (x:=r0+(t:Int)*bt+bt) q3 (by omega),show g0-(t:Int)-1=g0-((t+1:Nat):Int)by omega]
 ·obtain⟨q1,q2⟩:=hrt mm (by omega);rw[stepE _ _ (by omega) (by omega) q1 q2,if_neg hs]
theorem DX {acur b1 out:List Int} {f:Int} {i m L:Nat} (A:List (List Int)) (ha:Pc acur) (hb:Pc b1) (hbl:b1.length=m+2) (htop:0<b1.getD (m+1) 0) (hal:acur.length=L) (hl:i+m+2<L) (hL:L<=4000000)
  (hol:out.length=L-(m+2)) (hoi:out.getD i 0=0) (ho:Pc out) (hz:vl acur<pw (i+1)*vl b1) :
  ∃ acur' out',cB (f,acur,b1,((m+2:Nat):Int),out,(i:Int),A,())=some (.inl (f,acur',b1,((m+2:Nat):Int),out',(i:Int)-1,A,())) /\
   Pc acur'/\acur'.length=L/\Pc out'/\out'.length=out.length/\vl acur'<pw i*vl b1/\vl out'*vl b1+vl acur'=vl out*vl b1+vl acur/\∀ j,j<i->out'.getD j 0=out.getD j 0:=by
 have hV0:=rZ hb;rw[hbl]at hV0;have pP:=sE i;have hV1:0<vl b1:=by
  have:=(IH hb (k:=m) (λj hj=>pH hb hV0 (by omega)) (by omega)).1;have h1:0<(b1.getD (m+1) 0*1000000000+b1.getD m 0)*pw m:=Int.mul_pos (by have:=hb.get m; omega) (sE m);omega
 have hzz:vl acur<pw (i+m+3):=by
  have h1:pw (i+1)*vl b1<=pw (i+1)*pw (m+2):=Int.mul_le_mul_of_nonneg_left (Int.le_of_lt hV0) (Int.le_of_lt (sE _));rw[<- xL,show i+1+(m+2)=i+m+3 by omega]at h1;omega
 have gs:=QR ha hb hbl htop (i:=i) (by omega) hzz;have hn:=fL ha;have hVP:0<vl b1*pw i:=Int.mul_pos hV1 pP;obtain⟨qh,hqh⟩:∃ qh,qh=vl acur/(vl b1*pw i):=⟨_,rfl⟩;have q0:0<=qh:=by rw[hqh]; exact Int.ediv_nonneg hn (Int.le_of_lt hVP)
 have q1:qh*(vl b1*pw i)<=vl acur:=by rw[hqh]; exact Int.ediv_mul_le _ (by omega)
 have q2:vl acur<(qh+1)*(vl b1*pw i):=by rw[hqh]; exact Int.lt_ediv_add_one_mul_self _ hVP
 have qB:qh<1000000000:=by
  rw[hqh];refine Int.ediv_lt_of_lt_mul hVP ?_;rw[qA]at hz;have:1000000000*pw i*vl b1=1000000000*(vl b1*pw i):=by grind
  omega
 have hx1:=ha.get (i+m+2);have hx2:=ha.get (i+m+1);obtain⟨high,hhigh⟩:∃ high,high=acur.getD (i+m+2) 0*1000000000+acur.getD (i+m+1) 0:=⟨_,rfl⟩;rw[<- hhigh]at gs;have hb0:0<=high/\high<1000000000000000000:=by omega
 obtain⟨mm,m1,m2,m3,m4,m5⟩:=gs.OP q0 q1 q2 qB;have gl:=GU (f:=f) (n:=((m+2:Nat):Int)) (i2:=(i:Int)) (out:=out) A ha hb hbl rfl rfl (by omega) (by omega) rfl htop hb0 rfl rfl m1 m2 m3;have hg:0<=high/b1.getD (m+1) 0-(mm:Int)/\high/b1.getD (m+1) 0-(mm:Int)<1000000000:=⟨by omega,by
  rcases Int.lt_or_le (high/b1.getD (m+1) 0-(mm:Int)) 1000000000 with h|h
  ·exact h
  ·exact absurd (.inl h) m3⟩
 obtain⟨g,hgd⟩:∃ g,g=high/b1.getD (m+1) 0-(mm:Int):=⟨_,rfl⟩;rw[<- hgd]at gl m4 m5 hg;have tr:=HG (i:=i) (n:=m+2) ha hb hbl (by omega) (by rw[show i+(m+2)+1=i+m+3 by omega]; exact hzz) hg q1 q2 m4 m5;have te:=I5 (n:=g) (at':=i) ha hb hg (by omega) (by omega);rw[hbl]at te
 -- the operations
 have e1:ltI (i:Int) 0=false:=by rw[aE]; exact oF (by omega)
 have e2:aB .i64 ((i:Int)+((m+2:Nat):Int))=((i+m+2:Nat):Int):=by rw[wrap64 (by omega) (by omega)]; omega
 have e3:aF ((i+m+2:Nat):Int) acur.length=true:=by rw[aG]; exact oT (by omega)
 have e4:Nat.blt (i+m+2) acur.length=true:=by rw[bE]; exact oT (by omega)
 have e5:aB .i64 (((i+m+2:Nat):Int)-1)=((i+m+1:Nat):Int):=by rw[wrap64 (by omega) (by omega)]; omega
 have e6:aF ((i+m+1:Nat):Int) acur.length=true:=by rw[aG]; exact oT (by omega)
 have e7:Nat.blt (i+m+1) acur.length=true:=by rw[bE]; exact oT (by omega)
 have e8:aB .i64 (((m+2:Nat):Int)-1)=((m+1:Nat):Int):=by rw[wrap64 (by omega) (by omega)]; omega
 have e9:aF ((m+1:Nat):Int) b1.length=true:=by rw[aG]; exact oT (by omega)
 have e10:eqI (b1.getD (m+1) 0) 0=false:=by rw[bT]; exact oF (by omega)
 have e11:aB .u64 (acur.getD (i+m+2) 0*1000000000)=acur.getD (i+m+2) 0*1000000000:=fQ (by omega) (by omega);have e12:aB .u64 (acur.getD (i+m+2) 0*1000000000+acur.getD (i+m+1) 0)=high:=by rw[fQ (by omega) (by omega),hhigh]
 have e13:high.tdiv (b1.getD (m+1) 0)=high/b1.getD (m+1) 0:=Int.tdiv_eq_ediv_of_nonneg hb0.1;have e14:high.tmod (b1.getD (m+1) 0)=high%b1.getD (m+1) 0:=Int.tmod_eq_emod_of_nonneg hb0.1;have hq0:0<=high/b1.getD (m+1) 0:=Int.ediv_nonneg hb0.1 (by omega);have hq1:high/b1.getD (m+1) 0<=high:=Int.ediv_le_self _ hb0.1;have e15:aB .u64 (high/b1.getD (m+1) 0)=high/b1.getD (m+1) 0:=fQ hq0 (by omega);have e16:aF (i:Int) out.length=true:=by rw[aG]; exact oT (by omega)
 have e17:Nat.blt i out.length=true:=by rw[bE]; exact oT (by omega)
 have e18:aB .i64 ((i:Int)-1)=(i:Int)-1:=wrap64 (by omega) (by omega);have hpwi:pw i*vl b1=vl b1*pw i:=Int.mul_comm _ _;have fin:∀ a':List Int,Pc a'->a'.length=acur.length->vl a'=vl acur-qh*(vl b1*pw i) ->
   Pc a'/\a'.length=L/\Pc (out.set i qh)/\(out.set i qh).length=out.length/\vl a'<pw i*vl b1/\vl (out.set i qh)*vl b1+vl a'=vl out*vl b1+vl acur/\∀ j,j<i->(out.set i qh).getD j 0=out.getD j 0:=by
  intro a' p1 p2 p3;refine⟨p1,p2.trans hal,ho.set ⟨q0,qB⟩ _,List.length_set,?_,?_,λj hj=>Go.De.getD_set_ne _ _ (by omega)⟩
  ·rw[p3,hpwi];have:(qh+1)*(vl b1*pw i)=qh*(vl b1*pw i)+vl b1*pw i:=by grind
   omega
  ·rw[xW out i qh (by omega),hoi,p3];grind
 rcases tr with ⟨t1,t2,t3,t4,t5⟩|⟨t1,t2,t3,t4,t5,t6,t7⟩
 ·refine⟨(tkS b1 g i acur (m+2+1)).1,out.set i qh,?_,fin _ t3 t4 t5⟩;rw[t1]at te;have d0:decide ((0:Int)<0)=false:=rfl;rw[d0,t2]at te;rw[t2]at gl ⊢;simp only[cB,e1,e2,e3,e4,e5,e6,e7,e8,e9,e10,e11,e12,e13,e14,e15,oC,oD,Bool.not_false,oN,gl,aD,te,e16,e17,e18]
 ·refine⟨(bkS b1 i (tkS b1 g i acur (m+2+1)).1 (m+2+1)).1,out.set i qh,?_,fin _ t5 t6 t7⟩;have be:=back_eq (at':=i) t3 hb (by omega) (by omega);rw[hbl]at be;rw[t1]at te;have d0:decide ((0:Int)<1)=true:=rfl;rw[d0]at te;have e19:aB .u64 (g-1)=qh:=by rw[fQ (by omega) (by omega)]; omega
  simp only[cB,e1,e2,e3,e4,e5,e6,e7,e8,e9,e10,e11,e12,e13,e14,e15,oC,oD,Bool.not_false,oN,gl,aD,te,be,e16,e17,e18,e19]
theorem JA(a b:Nat)(hb2:2<=(pcs b).length)(hab:b<=a)(hl:(pcs a).length<=500000)(A:List (List Int)):j7 () (pcs a,pcs b,()) A=some ((pcs (a/b),pcs (a%b),()),A):=by
 obtain⟨m,hm⟩:∃ m,(pcs b).length=m+2:=⟨(pcs b).length-2,by omega⟩;have hba:=uJ hab;have htop:=IT (u:=b) (k:=m+1) hm;have hb0:0<b:=by
  rcases Nat.eq_zero_or_pos b with h|h
  ·subst h; rw[vM]at hm; cases hm
  ·exact h
 have htB:=((cT b).1.get (m+1)).2;obtain⟨top,htop'⟩:∃ top:Nat,(pcs b).getD (m+1) 0=top:=⟨((pcs b).getD (m+1) 0).toNat,by omega⟩;rw[htop']at htop htB;obtain⟨f,hf⟩:∃ f:Nat,f=1000000000/(top+1):=⟨_,rfl⟩;have hf1:1<=f:=by rw[hf]; exact Nat.div_pos (by omega) (by omega)
 have hf2:(top+1)*f<=1000000000:=by rw[hf]; exact Nat.mul_div_le _ _
 have hfB:f<1000000000:=by
  have:2*f<=(top+1)*f:=Nat.mul_le_mul_right _ (by omega);omega
 -- the divisor keeps its length
 have hbf:(pcs (b*f)).length=m+2:=by
  have h1:b<(top+1)*1000000000^(m+1):=by
   have:=(MN (cT b).1 (k:=m+1) (λj hj=>pH (cT b).1 (k:=m+2) (by have:=rZ (cT b).1; rw[hm]at this; exact this) (by omega)) (by omega)).2;rw[(cT b).2.2,htop',KL]at this;have e:((top:Int)+1)*((1000000000^(m+1):Nat):Int)=(((top+1)*1000000000^(m+1):Nat):Int):=by rw[Int.natCast_mul]; rfl
   omega
  have h2:b*f<1000000000^(m+2):=by
   have h3:b*f<(top+1)*1000000000^(m+1)*f:=Nat.mul_lt_mul_of_pos_right h1 hf1;have h4:(top+1)*1000000000^(m+1)*f=(top+1)*f*1000000000^(m+1):=by rw[Nat.mul_right_comm]
   have h5:(top+1)*f*1000000000^(m+1)<=1000000000*1000000000^(m+1):=Nat.mul_le_mul_right _ hf2;have h6:1000000000^(m+2)=1000000000*1000000000^(m+1):=by rw[Nat.pow_succ,Nat.mul_comm]
   omega
  have h3:=uM h2;have h4:=uJ (show b<=b*f from Nat.le_mul_of_pos_right b hf1);omega
 have haf:=uJ (show a<=a*f from Nat.le_mul_of_pos_right a hf1);have habf:=uJ (show b*f<=a*f from Nat.mul_le_mul_right f hab);have hafl:(pcs (a*f)).length<=(pcs a).length+1:=by
  refine uM ?_;rw[Nat.pow_succ];exact Nat.mul_lt_mul'' (BP a) hfB
 obtain⟨x1,x2,x3⟩:=cT (a*f);obtain⟨y1,y2,y3⟩:=cT (b*f);obtain⟨L,hL⟩:∃ L,L=(pcs (a*f)).length+1:=⟨_,rfl⟩;have ha1:Pc (pcs (a*f)++[0]):=x1.append (λx hx=>by rw[List.mem_singleton.1 hx]; decide);have ha2:(pcs (a*f)++[0]).length=L:=by simp[hL]
 have ha3:vl (pcs (a*f)++[0])=((a*f:Nat):Int):=by rw[pK,x3]; simp[vl]
 have hbtop:=IT (u:=b*f) (k:=m+1) hbf;have hbfpos:0<vl (pcs (b*f)):=by rw[y3]; have:=Nat.mul_pos hb0 hf1; omega
 -- the rounds
 have rounds:=QM (step:=cB) (N:=2^64)
  (Z:=λz=>∃ acur out,z=((f:Int),acur,out,A,())/\Pc acur/\acur.length=L/\Pc out/\out.length=L-(m+2)/\vl acur<vl (pcs (b*f))/\vl out*vl (pcs (b*f))+vl acur=((a*f:Nat):Int))
  (λt y=>∃ acur out,y=((f:Int),acur,pcs (b*f),((m+2:Nat):Int),out,((L-(m+2):Nat):Int)-1-(t:Int),A,())/\Pc acur/\acur.length=L/\Pc out/\out.length=L-(m+2)/\vl acur<pw (L-(m+2)-t)*vl (pcs (b*f))/\vl out*vl (pcs (b*f))+vl acur=((a*f:Nat):Int)/\∀ j,j<L-(m+2)-t->out.getD j 0=0)
  (L-(m+2)) ((f:Int),pcs (a*f)++[0],pcs (b*f),((m+2:Nat):Int),List.replicate (L-(m+2)) 0,((L-(m+2):Nat):Int)-1,A,()) (by omega) ?_ ?_ ?_
 ·obtain⟨z,z1,acur,out,rfl,c1,c2,c3,c4,c5,c6⟩:=rounds;have z1:kQ ((f:Int),pcs (a*f)++[0],pcs (b*f),((m+2:Nat):Int),List.replicate (L-(m+2)) 0,((L-(m+2):Nat):Int)-1,A,())=_:=z1;obtain⟨r,hr⟩:∃ r:Nat,vl acur=r:=⟨(vl acur).toNat,by have:=fL c1; omega⟩;obtain⟨q,hq⟩:∃ q:Nat,vl out=q:=⟨(vl out).toNat,by have:=fL c3; omega⟩;rw[hr,hq,y3]at c6;rw[hr,y3]at c5;have e:q*(b*f)+r=a*f:=by
   have:((q*(b*f)+r:Nat):Int)=((a*f:Nat):Int):=by rw[Int.natCast_add,Int.natCast_mul]; exact c6
   exact Int.ofNat_inj.1 this
  have hrlt:r<b*f:=by omega
  have hbf0:0<b*f:=Nat.mul_pos hb0 hf1;have hq':q=a/b:=by
   have:a*f/(b*f)=q:=by rw[<- e,Nat.mul_comm q,Nat.mul_add_div hbf0,Nat.div_eq_of_lt hrlt,Nat.add_zero]
   rw[<- this,Nat.mul_div_mul_right _ _ hf1]
  have hr':r=a%b*f:=by
   have:a*f%(b*f)=r:=by rw[<- e,Nat.mul_comm q,Nat.mul_add_mod,Nat.mod_eq_of_lt hrlt]
   rw[<- this,Nat.mul_mod_mul_right]
  have t1:kR acur=pcs r:=pM c1 hr;have t2:kR out=pcs q:=pM c3 hq;have hrl:(pcs r).length<=1048576:=by
   have:=uJ (show r<=a*f by omega);omega
  have sm:=FO r (n:=f) ⟨hf1,hfB⟩ hrl A;have hrf:r/f=a%b:=by rw[hr',Nat.mul_div_cancel _ hf1]
  rw[hrf]at sm
  -- the first operations
  have w1:aB .i64 (((m+2:Nat):Int)-1)=((m+1:Nat):Int):=by rw[wrap64 (by omega) (by omega)]; omega
  have w2:aF ((m+1:Nat):Int) (m+2)=true:=by rw[aG]; exact oT (by omega)
  have w3:aB .u64 ((top:Int)+1)=((top+1:Nat):Int):=by rw[fQ (by omega) (by omega)]; omega
  have w4:eqI ((top+1:Nat):Int) 0=false:=by rw[bT]; exact oF (by omega)
  have w5:(1000000000:Int).tdiv ((top+1:Nat):Int)=(f:Int):=by rw[hf]; rfl
  have w6:aB .u64 (f:Int)=(f:Int):=fQ (by omega) (by omega);have s1:=CJ a (n:=f) hfB (by omega) A;have s2:=CJ b (n:=f) hfB (by omega) A;have w7:Nat.ble [(0:Int)].length 1048576=true:=rfl;have w8:Nat.ble (pcs (a*f)).length 1048576=true:=by rw[bY]; exact oT (by omega)
  have w9:kP (pcs a,(f:Int),pcs (a*f)++[0],pcs (b*f),((m+2:Nat):Int),A,())=some ((f:Int),pcs (a*f)++[0],pcs (b*f),((m+2:Nat):Int),A,()):=by
   show aO gB (2^64) _=_;rw[show (2:Nat)^64=18446744073709551615+1 by rfl,aV];have:ltI ((pcs a).length:Int) (L:Int)=true:=by rw[aE]; exact oT (by omega)
   simp only[gB,ha2,this,Bool.not_true,oD]
  have w10:aB .i64 ((L:Int)-((m+2:Nat):Int))=((L-(m+2):Nat):Int):=by rw[wrap64 (by omega) (by omega)]; omega
  have w11:ltI ((L-(m+2):Nat):Int) 0=false:=by rw[aE]; exact oF (by omega)
  have w12:ltI ((L-(m+2):Nat):Int) ((L-(m+2):Nat):Int)=false:=by rw[aE]; exact oF (by omega)
  have w13:ltI 1048576 ((L-(m+2):Nat):Int)=false:=by rw[aE]; exact oF (by omega)
  have w14:aB .i64 (((L-(m+2):Nat):Int)-1)=((L-(m+2):Nat):Int)-1:=wrap64 (by omega) (by omega);unfold j7;simp only[hm,w1,w2,oN,htop',w3,w4,w5,w6,oC,oD,s1,aD,w7,w8,s2,hbf,w9,ha2,w10,w11,w12,w13,w14,Bool.not_false,z1,uT (show acur.length<=4000000 by omega),t1,sm,uT (show out.length<=4000000 by omega),t2,hq'];rfl
 ·refine⟨_,_,by rw[show ((L-(m+2):Nat):Int)-1-((0:Nat):Int)=((L-(m+2):Nat):Int)-1 by omega],ha1,ha2,Pc.rep _,by simp,?_,by rw[u9,ha3]; simp,λj hj=>by simp[oQ,List.getElem?_replicate]; split <;> rfl⟩;rw[ha3,<- x3,Nat.sub_zero];have h1:=rZ x1;have h2:=(MN y1 (k:=m+1) (λj hj=>pH y1 (k:=m+2) (by have:=rZ y1; rw[hbf]at this; exact this) (by omega)) (by omega)).1;have h3:pw (m+1)<=vl (pcs (b*f)):=by
   have:1*pw (m+1)<=(pcs (b*f)).getD (m+1) 0*pw (m+1):=Int.mul_le_mul_of_nonneg_right (by omega) (Int.le_of_lt (sE _));omega
  have h4:pw (L-(m+2))*pw (m+1)<=pw (L-(m+2))*vl (pcs (b*f)):=Int.mul_le_mul_of_nonneg_left h3 (Int.le_of_lt (sE _));rw[<- xL,show L-(m+2)+(m+1)=(pcs (a*f)).length by omega]at h4;omega
 ·rintro t y ht ⟨acur,out,rfl,c1,c2,c3,c4,c5,c6,c7⟩;obtain⟨i,hi⟩:∃ i,i=L-(m+2)-t-1:=⟨_,rfl⟩;have ei:((L-(m+2):Nat):Int)-1-(t:Int)=(i:Int):=by omega
  have ei':((L-(m+2):Nat):Int)-1-((t+1:Nat):Int)=(i:Int)-1:=by omega
  rw[show L-(m+2)-t=i+1 by omega]at c5 c7;obtain⟨acur',out',s,d1,d2,d3,d4,d5,d6,d7⟩:=DX (f:=(f:Int)) A c1 y1 hbf hbtop c2 (i:=i) (by omega) (by omega) c4 (c7 i (by omega)) c3 c5;rw[ei];refine⟨_,s,acur',out',by rw[ei'],d1,d2,d3,d4.trans c4,?_,d6.trans c6,λj hj=>?_⟩
  ·rw[show L-(m+2)-(t+1)=i by omega]; exact d5
  ·rw[d7 j (by omega)]; exact c7 j (by omega)
 ·rintro y ⟨acur,out,rfl,c1,c2,c3,c4,c5,c6,c7⟩;rw[Nat.sub_self,DO,Int.one_mul]at c5;have e1:ltI (((L-(m+2):Nat):Int)-1-((L-(m+2):Nat):Int)) 0=true:=by rw[aE]; exact oT (by omega)
  exact⟨_,by simp only[cB,e1,Bool.not_true,oD],acur,out,rfl,c1,c2,c3,c4,c5,c6⟩
theorem tL a b:Lib.nDigits (a+b)<=max (Lib.nDigits a) (Lib.nDigits b)+1:=by
 have h1:=dC a;have h2:=dC b;have h3:10^Lib.nDigits a<=10^max (Lib.nDigits a) (Lib.nDigits b):=Nat.pow_le_pow_right (by simp) (by omega);have h4:10^Lib.nDigits b<=10^max (Lib.nDigits a) (Lib.nDigits b):=Nat.pow_le_pow_right (by simp) (by omega);refine gM ?_;grind
theorem yQ a b:Lib.nDigits (a*b)<=Lib.nDigits a+Lib.nDigits b:=by
 have p1:=nDigits_pos a;obtain⟨k,hk⟩:∃ k,Lib.nDigits a+Lib.nDigits b=k+1:=⟨Lib.nDigits a+Lib.nDigits b-1,by omega⟩;rw[hk];refine gM ?_;rw[<- hk,Nat.pow_add];exact Nat.mul_lt_mul'' (dC a) (dC b)
theorem yU {a b}(h:18<Lib.nDigits a\/18<Lib.nDigits b):iD (Dn a,Dn b,())=some (0,0,false,()):=by
 unfold iD;simp only[lX,aE];grind
theorem xU {u}(hu:Lib.nDigits u<=1000000):(pcs u).length<=111112:=by
 have:=xQ hu;omega
theorem GH u:vl (pcs u++[0])=u:=by rw[pK,(cT u).2.2]; rfl
theorem GO u:Pc (pcs u++[0]):=(cT u).1.append (λx hx=>by grind)
theorem K9 u k:vl (pcs u++List.replicate k 0)=u:=by rw[pK,(cT u).2.2,u9]; rfl
theorem MG u k:Pc (pcs u++List.replicate k 0):=(cT u).1.append (Pc.rep k)
theorem LA {a b k:Nat} (h:(pcs b).length+k=(pcs a).length) (hl:(pcs a).length<=1048576) :
  ∃ l,CF (t:=.int .u64) cZ (pcs a++[0]) (pcs b++List.replicate k 0,0,())=some l/\l.length<=1048577/\kR l=pcs (a+b):=by
 have hq:=MG b k;have hp:=GO a;have hql:(pcs b++List.replicate k (0:Int)).length=(pcs a).length:=by simp; omega
 have hpl:(pcs a++[(0:Int)]).length=(pcs a).length+1:=by simp
 have be:=back_eq (at':=0) hp hq (by omega) (by omega);have bi:=bkI hp hq (at':=0) (by omega) ((pcs b++List.replicate k 0).length+1) (oM _);refine⟨_,be,by rw[bi.len]; omega,pM bi.pc ?_⟩;have hv:=bi.val;rw[List.take_of_length_le (by omega),GH,K9,hql,DO,Int.one_mul]at hv;have hn:=rZ bi.pc;have n0:=fL bi.pc;have ha:=BP a;have hb:=BP b;have hb2:1000000000^(pcs b).length<=1000000000^(pcs a).length:=Nat.pow_le_pow_right (by decide) (by omega)
 have e2:pw (0+((pcs a).length+1))=1000000000*((1000000000^(pcs a).length:Nat):Int):=by rw[Nat.zero_add,qA,KL]
 rw[hql]at n0 hn ⊢;rcases bi.ca with hc|hc
 ·grind
 ·grind
theorem sK a b (ha:Lib.nDigits a<=900000)(hb:Lib.nDigits b<=900000):cP (Dn a,Dn b,())=some (Dn (a+b),()):=by
 by_cases hs:Lib.nDigits a<=18/\Lib.nDigits b<=18
 ·exact E7 a b hs.1 hs.2
 ·have hba:=yU (a:=a) (b:=b) (by omega);have ca:=wK a (by omega) [];have cb:=wK b (by omega) [];have la:=xU (u:=a) (by omega);have lb:=xU (u:=b) (by omega);have hsum:=tL a b;have tx:=yH (a+b) (by omega);have long:∀ x y:Nat,(pcs y).length<=(pcs x).length->(pcs x).length<=111112->x+y=a+b->(bif Nat.ble [0].length 1048576 then bif Nat.ble (pcs x).length 1048576 then bif !(ltI (aB .i64 ((aB .i64 (((pcs x++[0]).length:Int)-1))-((pcs y).length:Int))) 0) then bif !(ltI 1048576 (aB .i64 ((aB .i64 (((pcs x++[0]).length:Int)-1))-((pcs y).length:Int)))) then bif Nat.ble (pcs y).length 1048576 then aC (CF (t:=(.int .u64)) cZ (pcs x++[0]) ((pcs y++List.replicate (aB .i64 ((aB .i64 (((pcs x++[0]).length:Int)-1))-((pcs y).length:Int))).toNat (0:Ty.den (.int .u64))),0,())) λy8 =>
    aC (bD y8 (()) []) λy9 =>
    aC (bJ (y9.1,())) λy10 =>
    some (y10.1,()) else none else none else none else none else none)=some (Dn (a+b),()):=by
   intro x y h1 h2 h3;obtain⟨k,hk⟩:∃ k,(pcs y).length+k=(pcs x).length:=⟨(pcs x).length-(pcs y).length,by omega⟩;obtain⟨l,l1,l2,l3⟩:=LA hk (by omega);have e0:((pcs x++[0]).length:Int)=((pcs x).length:Int)+1:=by simp
   have e1:aB .i64 (aB .i64 (((pcs x).length:Int)+1-1)-((pcs y).length:Int))=(k:Int):=by rw[wrap64 (x:=((pcs x).length:Int)+1-1) (by omega) (by omega),wrap64 (by omega) (by omega)]; omega
   have e2:ltI (k:Int) 0=false:=by rw[aE]; exact oF (by omega)
   have e3:ltI 1048576 (k:Int)=false:=by rw[aE]; exact oF (by omega)
   have e4:Nat.ble (pcs x).length 1048576=true:=by rw[bY]; exact oT (by omega)
   have e5:Nat.ble (pcs y).length 1048576=true:=by rw[bY]; exact oT (by omega)
   rw[h3]at l3;rw[e0,e1,e2,e3,e4,e5,oN];rw[l1,aD,uT (by omega),l3,aD];show (aC (bJ (pcs (a+b),())) _)=_;rw[tx,aD]
  unfold cP;simp only[hba,aD,oD,ca,cb,aE (((pcs a).length:Nat):Int) ((pcs b).length:Int)];grind
theorem KS {a b k}(hab:b<=a)(h:(pcs b).length+k=(pcs a).length)(hl:(pcs a).length<=1048576) :
  ∃ c l,EW (t:=.int .u64) fB (pcs a++[0]) (pcs b++List.replicate k 0,1,0,())=some (c,l)/\l.length<=1048577/\kR l=pcs (a-b):=by
 have hq:=MG b k;have hp:=GO a;have hql:(pcs b++List.replicate k (0:Int)).length=(pcs a).length:=by simp; omega
 have hpl:(pcs a++[(0:Int)]).length=(pcs a).length+1:=by simp
 have te:=I5 (n:=1) (at':=0) hp hq (by omega) (by omega) (by omega);have ti:=tkI hp hq (n:=1) (at':=0) (by omega) (by omega) ((pcs b++List.replicate k 0).length+1) (oM _);refine⟨_,_,te,by rw[ti.len]; omega,pM ti.pc ?_⟩;have hv:=ti.val;have hfin:=ti.fin (by omega);rw[List.take_of_length_le (by omega),GH,K9,hfin,Int.add_zero,hql,DO]at hv;have hn:=rZ ti.pc;rw[ti.len,hpl]at hn;have n0:=fL ti.pc;rw[hql]at n0 hn ⊢
 rcases ti.bo with hc|hc
 ·grind
 ·grind
theorem mV a b (ha:Lib.nDigits a<=900000)(hb:Lib.nDigits b<=900000)(h:b<=a):bM (Dn a,Dn b,())=some (Dn (a-b),0,()):=by
 by_cases hs:Lib.nDigits a<=18/\Lib.nDigits b<=18
 ·exact GK a b hs.1 hs.2 h
 ·have hba:=yU (a:=a) (b:=b) (by omega);have ca:=wK a (by omega) [];have cb:=wK b (by omega) [];have la:=xU (u:=a) (by omega);have hd:=jZ (show a-b<=a by omega);have tx:=yH (a-b) (by omega);have hmono:=uJ h;have e:ltI (wS a b) 0=false:=by
   rw[aE]; unfold wS;grind
  obtain⟨k,hk⟩:∃ k,(pcs b).length+k=(pcs a).length:=⟨(pcs a).length-(pcs b).length,by omega⟩;obtain⟨c,l,l1,l2,l3⟩:=KS h hk (by omega);have e0:((pcs a++[0]).length:Int)=((pcs a).length:Int)+1:=by simp
  have e1:aB .i64 (aB .i64 (((pcs a).length:Int)+1-1)-((pcs b).length:Int))=(k:Int):=by rw[wrap64 (x:=((pcs a).length:Int)+1-1) (by omega) (by omega),wrap64 (by omega) (by omega)]; omega
  have e2:ltI (k:Int) 0=false:=by rw[aE]; exact oF (by omega)
  have e3:ltI 1048576 (k:Int)=false:=by rw[aE]; exact oF (by omega)
  have e4:Nat.ble (pcs a).length 1048576=true:=by rw[bY]; exact oT (by omega)
  have e5:Nat.ble (pcs b).length 1048576=true:=by rw[bY]; exact oT (by omega)
  unfold bM;simp only[jL a b (by omega) (by omega),e,hba,aD,oD,ca,cb];rw[e0,e1,e2,e3,e4,e5,oN];rw[l1,aD];show (aC (bD l () []) _)=_;rw[uT (by omega),l3,aD];rw[tx,aD]
theorem DP a b (h:Lib.nDigits a+Lib.nDigits b<=900000):cQ (Dn a,Dn b,())=some (Dn (a*b),()):=by
 by_cases hs:Lib.nDigits a+Lib.nDigits b<=18
 ·exact FB a b hs
 ·have ca:=wK a (by omega) [];have cb:=wK b (by omega) [];have la:=xU (u:=a) (by omega);have lb:=xU (u:=b) (by omega);have hm:=yQ a b;have tx:=yH (a*b) (by omega);have tm:=E6 a b (by omega) [];have e1:aB .i64 ((Lib.nDigits a:Int)+(Lib.nDigits b:Int))=(Lib.nDigits a:Int)+(Lib.nDigits b:Int):=wrap64 (by omega) (by omega);have e2:ltI 18 ((Lib.nDigits a)+(Lib.nDigits b:Int))=true:=by rw[aE]; grind
  unfold cQ;simp only[lX,e1,e2,Bool.not_true,oD,ca,cb,aD,tm,tx]
theorem AJ a b (ha:Lib.nDigits a<=900000)(hb:Lib.nDigits b<=900000)(h:b≠0):gN (Dn a,Dn b,())=some (Dn (a/b),Dn (a%b),0,()):=by
 by_cases hs:Lib.nDigits a<=18/\Lib.nDigits b<=18
 ·exact AZ a b hs.1 hs.2 h
 ·have hba:=yU (a:=a) (b:=b) (by omega);have ca:=wK a (by omega) [];have cb:=wK b (by omega) [];have la:=xU (u:=a) (by omega);have lb:=xU (u:=b) (by omega);have cp:=HW a b (by omega) (by omega);have nq:=jZ (Nat.div_le_self a b);have nr:=jZ (Nat.mod_le a b);have tq:=yH (a/b) (by omega);have tr:=yH (a%b) (by omega);have hd0:eqS (Dn b) (ByteArray.mk #[48])=false:=by rw[AT]; exact oF h
  unfold gN;simp only[hd0,oD,hba,aD,ca,cb,cp]
  by_cases hlt:a<b
  ·rw[if_pos hlt];have:ltI (-1) 0=true:=rfl;rw[this,Nat.div_eq_of_lt hlt,Nat.mod_eq_of_lt hlt,<- PH];rfl
  ·rw[if_neg hlt];have e1:ltI (if b<a then (1:Int) else 0) 0=false:=by
    rw[aE]; refine oF ?_;grind
   rw[e1,oD]
   by_cases h1:(pcs b).length=1
   ·have hbB:b<1000000000:=by have:=BP b; rw[h1]at this; simpa using this
    have e2:eqI ((pcs b).length:Int) 1=true:=by rw[bT]; exact oT (by omega)
    have e3:aF 0 (pcs b).length=true:=by rw[aG]; exact oT (by omega)
    have e4:Nat.blt 0 (pcs b).length=true:=by rw[bE]; exact oT (by omega)
    have e5:(pcs b).getD 0 0=(b:Int):=by rw[B2]; simp; omega
    have sm:=FO a (n:=b) ⟨by omega,hbB⟩ (by omega) [];have hr:a%b<b:=Nat.mod_lt _ (by omega);rw[e2,e3,e4,e5];rw[sm,aD];rw[tq,aD];show (aC (jV (((a%b:Nat):Int),())) _)=_;rw[rK _ (by omega),aD]
   ·have h0:0<(pcs b).length:=by rw[yD h]; simp
    have e2:eqI ((pcs b).length:Int) 1=false:=by rw[bT]; exact oF (by omega)
    have dv:=JA a b (by omega) (by omega) (by omega) [];rw[e2];rw[dv,aD];rw[tq,aD];show (aC (bJ (pcs (a%b),())) _)=_;rw[tr,aD]
theorem A9(x y:Int) (hx:Lib.nDigits x.natAbs<=400000) (hy:Lib.nDigits y.natAbs<=400000):vB (Zn x,Zn y,())=some (Zn (x+y),()):=by
 have slow:(aC (bF (Zn x,())) λy4=>aC (bF (Zn y,())) λy5 =>
   bif y4.1 then
    bif y5.1 then
     aC (cP (y4.2.1,y5.2.1,())) λy6 =>
     aC (aA (y4.1,y6.1,())) λy7 =>
     some (y7.1,())
    else aC (cR (y4.2.1,y5.2.1,())) λy8 =>
    bif ltI y8.1 0 then
     aC (bM (y5.2.1,y4.2.1,())) λy9 =>
     aC (aA (y5.1,y9.1,())) λy10 =>
     some (y10.1,())
    else aC (bM (y4.2.1,y5.2.1,())) λy11 =>
    aC (aA (y4.1,y11.1,())) λy12 =>
    some (y12.1,())
   else bif y5.1 then
    aC (cR (y4.2.1,y5.2.1,())) λy13 =>
    bif ltI y13.1 0 then
     aC (bM (y5.2.1,y4.2.1,())) λy14 =>
     aC (aA (y5.1,y14.1,())) λy15 =>
     some (y15.1,())
    else aC (bM (y4.2.1,y5.2.1,())) λy16 =>
    aC (aA (y4.1,y16.1,())) λy17 =>
    some (y17.1,())
   else aC (cP (y4.2.1,y5.2.1,())) λy18 =>
   aC (aA (y4.1,y18.1,())) λy19 =>
   some (y19.1,()))=some (Zn (x+y),()):=by
  simp only[hZ x,hZ y,aD];have dg:∀ u:Nat,u<=x.natAbs+y.natAbs->Lib.nDigits u<2^32:=λu hu=>by
   have h1:=jZ hu;have h2:=tL x.natAbs y.natAbs;omega
  have cm:∀ a b:Nat,ltI (wS a b) 0=decide (a<b):=λa b=>by
   rw[aE]; unfold wS;grind
  rcases(by omega:x<0\/0<=x)with gx|gx
  ·rcases(by omega:y<0\/0<=y)with gy|gy
   ·simp only[gx,gy,decide_true,oC,sK _ _ (oR hx (by decide)) (oR hy (by decide)),aD,eJ (x.natAbs+y.natAbs) (dg _ (by omega))];grind
   ·have gy':¬ y<0:=by omega
    simp only[gx,gy',decide_true,decide_false,oC,oD,jL x.natAbs y.natAbs (by omega) (by omega),aD,cm]
    by_cases g:x.natAbs<y.natAbs
    ·simp only[g,decide_true,oC,mV _ _ (oR hy (by decide)) (oR hx (by decide)) (Nat.le_of_lt g),aD,fX (y.natAbs-x.natAbs) (dg _ (by omega))];have:((y.natAbs-x.natAbs:Nat):Int)=x+y:=by omega
     rw[this]
    ·simp only[g,decide_false,oD,mV _ _ (oR hx (by decide)) (oR hy (by decide)) (Nat.not_lt.1 g),aD,eJ (x.natAbs-y.natAbs) (dg _ (by omega))];have : -((x.natAbs-y.natAbs:Nat):Int)=x+y:=by omega
     rw[this]
  ·have gx':¬ x<0:=by omega
   rcases(by omega:y<0\/0<=y)with gy|gy
   ·simp only[gx',gy,decide_true,decide_false,oC,oD,jL x.natAbs y.natAbs (by omega) (by omega),aD,cm]
    by_cases g:x.natAbs<y.natAbs
    ·simp only[g,decide_true,oC,mV _ _ (oR hy (by decide)) (oR hx (by decide)) (Nat.le_of_lt g),aD,eJ (y.natAbs-x.natAbs) (dg _ (by omega))];have : -((y.natAbs-x.natAbs:Nat):Int)=x+y:=by omega
     rw[this]
    ·simp only[g,decide_false,oD,mV _ _ (oR hx (by decide)) (oR hy (by decide)) (Nat.not_lt.1 g),aD,fX (x.natAbs-y.natAbs) (dg _ (by omega))];have:((x.natAbs-y.natAbs:Nat):Int)=x+y:=by omega
     rw[this]
   ·have gy':¬ y<0:=by omega
    simp only[gx',gy',decide_false,oD,sK _ _ (oR hx (by decide)) (oR hy (by decide)),aD,fX (x.natAbs+y.natAbs) (dg _ (by omega))];have:((x.natAbs+y.natAbs:Nat):Int)=x+y:=by omega
    rw[this]
 unfold vB;simp only[mW x 18 (by decide),mW y 18 (by decide),aD]
 by_cases g1:((Zn x).size:Int)<=18
 ·simp only[g1,if_true,aD,oC]
  by_cases g2:((Zn y).size:Int)<=18
  ·have h1:=zW (rH (k:=18) g1);have h2:=zW (rH (k:=18) g2);simp only[g2,if_true,aD,oC];rw[wrap64 (by omega) (by omega),iP _ (by omega) (by omega)];rfl
  ·simp only[g2,if_false,aD,oD];exact slow
 ·simp only[g1,if_false,aD,oD];exact slow
theorem HU x y (hx:Lib.nDigits x.natAbs<=400000)(hy:Lib.nDigits y.natAbs<=400000):xM (Zn x,Zn y,())=some (Zn (x-y),()):=by
 unfold xM;simp only[CL y (by omega),aD];rw[A9 x (-y) hx (by grind)];rfl
theorem BD(x y:Int) (h:Lib.nDigits x.natAbs+Lib.nDigits y.natAbs<=400000):uS (Zn x,Zn y,())=some (Zn (x*y),()):=by
 have hab:(x*y).natAbs=x.natAbs*y.natAbs:=Int.natAbs_mul _ _;have slow:(aC (bF ((Zn x),())) λy14 =>
  aC (bF ((Zn y),())) λy15 =>
  bif y14.1 then
   bif y15.1 then
    aC (cQ (y14.2.1,y15.2.1,())) λy16 =>
    aC (aA (false,y16.1,())) λy17 =>
    some (y17.1,())
   else aC (cQ (y14.2.1,y15.2.1,())) λy18 =>
   aC (aA (true,y18.1,())) λy19 =>
   some (y19.1,())
  else bif y15.1 then
   aC (cQ (y14.2.1,y15.2.1,())) λy20 =>
   aC (aA (true,y20.1,())) λy21 =>
   some (y21.1,())
  else aC (cQ (y14.2.1,y15.2.1,())) λy22 =>
  aC (aA (false,y22.1,())) λy23 =>
  some (y23.1,()))=some (Zn (x*y),()):=by
  have dg:Lib.nDigits (x.natAbs*y.natAbs)<2^32:=by
   have:=yQ x.natAbs y.natAbs;omega
  have dm:=DP _ _ (oR h (by decide));simp only[hZ x,hZ y,aD,dm];rcases(by omega:x<0\/0<=x)with gx|gx
  ·rcases(by omega:y<0\/0<=y)with gy|gy
   ·have:((x.natAbs*y.natAbs:Nat):Int)=x*y:=by
     grind
    simp only[gx,gy,decide_true,oC,fX _ dg,aD,this]
   ·have gy':¬ y<0:=by omega
    have : -((x.natAbs*y.natAbs:Nat):Int)=x*y:=by grind
    simp only[gx,gy',decide_true,decide_false,oC,oD,eJ _ dg,aD,this]
  ·have gx':¬ x<0:=by omega
   rcases(by omega:y<0\/0<=y)with gy|gy
   ·have : -((x.natAbs*y.natAbs:Nat):Int)=x*y:=by
     grind
    simp only[gx',gy,decide_true,decide_false,oC,oD,eJ _ dg,aD,this]
   ·have gy':¬ y<0:=by omega
    have:((x.natAbs*y.natAbs:Nat):Int)=x*y:=by grind
    simp only[gx',gy',decide_false,oD,fX _ dg,aD,this]
 unfold uS;simp only[mW x 9 (by decide),mW y 9 (by decide),aD]
 by_cases g1:((Zn x).size:Int)<=9
 ·simp only[g1,if_true,aD,oC]
  by_cases g2:((Zn y).size:Int)<=9
  ·have h1:=dC x.natAbs;have h2:=dC y.natAbs;have h3:=rH (k:=9) g1;have h4:=rH (k:=9) g2;have hb:x.natAbs*y.natAbs<1000000000000000000:=by
    have h5:x.natAbs*y.natAbs<10^Lib.nDigits x.natAbs*10^Lib.nDigits y.natAbs:=Nat.mul_lt_mul'' h1 h2;rw[<- Nat.pow_add]at h5;have h6:10^(Lib.nDigits x.natAbs+Lib.nDigits y.natAbs)<=10^18:=Nat.pow_le_pow_right (by decide) (by omega);have h7:(10:Nat)^18=1000000000000000000:=by decide
    omega
   simp only[g2,if_true,aD,oC];rw[wrap64 (by omega) (by omega),iP _ (by omega) (by omega)];rfl
  ·simp only[g2,if_false,aD,oD];exact slow
 ·simp only[g1,if_false,aD,oD];exact slow
theorem wX(x y:Int) (hx:Lib.nDigits x.natAbs<=400000) (hy:Lib.nDigits y.natAbs<=400000) (h0:y≠0):rO (Zn x,Zn y,())=some (Zn (x.fdiv y),Zn (x.fmod y),0,()):=by
 have slow:(aC (bF ((Zn x),())) λy68 =>
  aC (bF ((Zn y),())) λy69 =>
  aC (gN (y68.2.1,y69.2.1,())) λy70 =>
  bif !(eqI y70.2.2.1 0) then
   some ((ByteArray.mk #[]),(ByteArray.mk #[]),y70.2.2.1,())
  else bif y68.1 then
   bif y69.1 then
    bif y68.1 then
     bif y69.1 then
      aC (aA (false,y70.1,())) λy71 =>
      aC (aA (y69.1,y70.2.1,())) λy72 =>
      some (y71.1,y72.1,0,())
     else aC (aA (true,y70.1,())) λy73 =>
     aC (aA (y69.1,y70.2.1,())) λy74 =>
     some (y73.1,y74.1,0,())
    else bif y69.1 then
     aC (aA (true,y70.1,())) λy75 =>
     aC (aA (y69.1,y70.2.1,())) λy76 =>
     some (y75.1,y76.1,0,())
    else aC (aA (false,y70.1,())) λy77 =>
    aC (aA (y69.1,y70.2.1,())) λy78 =>
    some (y77.1,y78.1,0,())
   else bif !(eqS y70.2.1 (ByteArray.mk #[48])) then
    aC (cP (y70.1,(ByteArray.mk #[49]),())) λy79 =>
    aC (bM (y69.2.1,y70.2.1,())) λy80 =>
    bif y68.1 then
     bif y69.1 then
      aC (aA (false,y79.1,())) λy81 =>
      aC (aA (y69.1,y80.1,())) λy82 =>
      some (y81.1,y82.1,0,())
     else aC (aA (true,y79.1,())) λy83 =>
     aC (aA (y69.1,y80.1,())) λy84 =>
     some (y83.1,y84.1,0,())
    else bif y69.1 then
     aC (aA (true,y79.1,())) λy85 =>
     aC (aA (y69.1,y80.1,())) λy86 =>
     some (y85.1,y86.1,0,())
    else aC (aA (false,y79.1,())) λy87 =>
    aC (aA (y69.1,y80.1,())) λy88 =>
    some (y87.1,y88.1,0,())
   else bif y68.1 then
    bif y69.1 then
     aC (aA (false,y70.1,())) λy89 =>
     aC (aA (y69.1,y70.2.1,())) λy90 =>
     some (y89.1,y90.1,0,())
    else aC (aA (true,y70.1,())) λy91 =>
    aC (aA (y69.1,y70.2.1,())) λy92 =>
    some (y91.1,y92.1,0,())
   else bif y69.1 then
    aC (aA (true,y70.1,())) λy93 =>
    aC (aA (y69.1,y70.2.1,())) λy94 =>
    some (y93.1,y94.1,0,())
   else aC (aA (false,y70.1,())) λy95 =>
   aC (aA (y69.1,y70.2.1,())) λy96 =>
   some (y95.1,y96.1,0,())
  else bif y69.1 then
   bif !(eqS y70.2.1 (ByteArray.mk #[48])) then
    aC (cP (y70.1,(ByteArray.mk #[49]),())) λy97 =>
    aC (bM (y69.2.1,y70.2.1,())) λy98 =>
    bif y68.1 then
     bif y69.1 then
      aC (aA (false,y97.1,())) λy99 =>
      aC (aA (y69.1,y98.1,())) λy100 =>
      some (y99.1,y100.1,0,())
     else aC (aA (true,y97.1,())) λy101 =>
     aC (aA (y69.1,y98.1,())) λy102 =>
     some (y101.1,y102.1,0,())
    else bif y69.1 then
     aC (aA (true,y97.1,())) λy103 =>
     aC (aA (y69.1,y98.1,())) λy104 =>
     some (y103.1,y104.1,0,())
    else aC (aA (false,y97.1,())) λy105 =>
    aC (aA (y69.1,y98.1,())) λy106 =>
    some (y105.1,y106.1,0,())
   else bif y68.1 then
    bif y69.1 then
     aC (aA (false,y70.1,())) λy107 =>
     aC (aA (y69.1,y70.2.1,())) λy108 =>
     some (y107.1,y108.1,0,())
    else aC (aA (true,y70.1,())) λy109 =>
    aC (aA (y69.1,y70.2.1,())) λy110 =>
    some (y109.1,y110.1,0,())
   else bif y69.1 then
    aC (aA (true,y70.1,())) λy111 =>
    aC (aA (y69.1,y70.2.1,())) λy112 =>
    some (y111.1,y112.1,0,())
   else aC (aA (false,y70.1,())) λy113 =>
   aC (aA (y69.1,y70.2.1,())) λy114 =>
   some (y113.1,y114.1,0,())
  else bif y68.1 then
   bif y69.1 then
    aC (aA (false,y70.1,())) λy115 =>
    aC (aA (y69.1,y70.2.1,())) λy116 =>
    some (y115.1,y116.1,0,())
   else aC (aA (true,y70.1,())) λy117 =>
   aC (aA (y69.1,y70.2.1,())) λy118 =>
   some (y117.1,y118.1,0,())
  else bif y69.1 then
   aC (aA (true,y70.1,())) λy119 =>
   aC (aA (y69.1,y70.2.1,())) λy120 =>
   some (y119.1,y120.1,0,())
  else aC (aA (false,y70.1,())) λy121 =>
  aC (aA (y69.1,y70.2.1,())) λy122 =>
  some (y121.1,y122.1,0,()))=some (Zn (x.fdiv y),Zn (x.fmod y),0,()):=by
  have dm:=AJ _ _ (oR hx (by decide)) (oR hy (by decide)) (show y.natAbs≠0 by omega);have ed:x.natAbs=y.natAbs*(x.natAbs/y.natAbs)+x.natAbs%y.natAbs:=(Nat.div_add_mod _ _).symm;have lm:x.natAbs%y.natAbs<y.natAbs:=Nat.mod_lt _ (by omega);have lq:x.natAbs/y.natAbs<=x.natAbs:=Nat.div_le_self _ _;have e00:eqI 0 0=true:=by decide
  simp only[hZ x,hZ y,aD,dm,e00,Bool.not_true,oD,AT,RN];generalize x.natAbs/y.natAbs=q at *;generalize x.natAbs%y.natAbs=r at *;have dg:∀ u:Nat,u<=x.natAbs+y.natAbs+1->Lib.nDigits u<2^32:=λu hu=>by
   have h1:=jZ hu;have h2:=tL x.natAbs y.natAbs;have h3:=tL (x.natAbs+y.natAbs) 1;have h4:Lib.nDigits 1=1:=Lib.nDigits_small (by decide);omega
  have d18:∀ u:Nat,u<=x.natAbs\/u<=y.natAbs->Lib.nDigits u<=900000:=λu hu=>by
   rcases hu with h|h
   ·have:=jZ h; omega
   ·have:=jZ h; omega
  have edI:(x.natAbs:Int)=(y.natAbs:Int)*(q:Int)+(r:Int):=by rw[ed]; simp
  rcases(by omega:x<0\/0<=x)with gx|gx
  ·rcases(by omega:y<0\/0<=y)with gy|gy
   ·simp only[gx,gy,decide_true,oC,fX q (dg _ (by omega)),eJ r (dg _ (by omega)),aD];have ex:x=y*(q:Int) + -(r:Int):=by
     have a1:(x.natAbs:Int) = -x:=by omega
     have a2:(y.natAbs:Int) = -y:=by omega
     rw[a1,a2]at edI;grind
    obtain⟨u1,u2⟩:=eY ex (by omega) (by omega) h0;rw[u1,u2]
   ·have gy':¬ y<0:=by omega
    by_cases hr:r=0
    ·simp only[gx,gy',hr,decide_true,decide_false,Bool.not_true,oC,oD,eJ q (dg _ (by omega)),fX 0 (dg _ (by omega)),aD];have ex:x=y * -(q:Int)+((0:Nat):Int):=by
      have a1:(x.natAbs:Int) = -x:=by omega
      have a2:(y.natAbs:Int)=y:=by omega
      rw[a1,a2,hr]at edI;grind
     obtain⟨u1,u2⟩:=eY ex (by omega) (by omega) h0;rw[u1,u2]
    ·simp only[gx,gy',hr,decide_true,decide_false,Bool.not_false,Bool.not_true,oC,oD,sK q 1 (d18 _ (by omega)) (d18 _ (by omega)),mV y.natAbs r (oR hy (by decide)) (d18 _ (by omega)) (Nat.le_of_lt lm),eJ (q+1) (dg _ (by omega)),fX (y.natAbs-r) (dg _ (by omega)),aD];have ex:x=y * -((q+1:Nat):Int)+((y.natAbs-r:Nat):Int):=by
      have a1:(x.natAbs:Int) = -x:=by omega
      have a2:(y.natAbs:Int)=y:=by omega
      have a3:((y.natAbs-r:Nat):Int)=y-r:=by omega
      have a4:((q+1:Nat):Int)=(q:Int)+1:=by omega
      rw[a1,a2]at edI;rw[a3,a4];grind
     obtain⟨u1,u2⟩:=eY ex (by omega) (by omega) h0;rw[u1,u2]
  ·have gx':¬ x<0:=by omega
   rcases(by omega:y<0\/0<=y)with gy|gy
   ·by_cases hr:r=0
    ·simp only[gx',gy,hr,decide_true,decide_false,Bool.not_true,oC,oD,eJ q (dg _ (by omega)),eJ 0 (dg _ (by omega)),aD];have ex:x=y * -(q:Int) + -((0:Nat):Int):=by
      have a1:(x.natAbs:Int)=x:=by omega
      have a2:(y.natAbs:Int) = -y:=by omega
      rw[a1,a2,hr]at edI;grind
     obtain⟨u1,u2⟩:=eY ex (by omega) (by omega) h0;rw[u1,u2]
    ·simp only[gx',gy,hr,decide_true,decide_false,Bool.not_false,Bool.not_true,oC,oD,sK q 1 (d18 _ (by omega)) (d18 _ (by omega)),mV y.natAbs r (oR hy (by decide)) (d18 _ (by omega)) (Nat.le_of_lt lm),eJ (q+1) (dg _ (by omega)),eJ (y.natAbs-r) (dg _ (by omega)),aD];have ex:x=y * -((q+1:Nat):Int) + -((y.natAbs-r:Nat):Int):=by
      have a1:(x.natAbs:Int)=x:=by omega
      have a2:(y.natAbs:Int) = -y:=by omega
      have a3:((y.natAbs-r:Nat):Int) = -y-r:=by omega
      have a4:((q+1:Nat):Int)=(q:Int)+1:=by omega
      rw[a1,a2]at edI;rw[a3,a4];grind
     obtain⟨u1,u2⟩:=eY ex (by omega) (by omega) h0;rw[u1,u2]
   ·have gy':¬ y<0:=by omega
    simp only[gx',gy',decide_true,decide_false,oD,fX q (dg _ (by omega)),fX r (dg _ (by omega)),aD];have ex:x=y*(q:Int)+(r:Int):=by
     have a1:(x.natAbs:Int)=x:=by omega
     have a2:(y.natAbs:Int)=y:=by omega
     rw[a1,a2]at edI;exact edI
    obtain⟨u1,u2⟩:=eY ex (by omega) (by omega) h0;rw[u1,u2]
 unfold rO;simp only[mW x 18 (by decide),mW y 18 (by decide),aD,tJ,h0,decide_false,oD]
 by_cases g1:((Zn x).size:Int)<=18
 ·simp only[g1,if_true,aD,oC]
  by_cases g2:((Zn y).size:Int)<=18
  ·have b1:=zW (rH (k:=18) g1);have b2:=zW (rH (k:=18) g2);simp only[g2,if_true,aD,oC];have e1:eqI y 0=false:=by rw[bT]; simp[h0]
   have t1:x=y*x.tdiv y+x.tmod y:=(Int.mul_tdiv_add_tmod x y).symm;have t2:(x.tmod y).natAbs<y.natAbs:=by rw[Int.natAbs_tmod]; exact Nat.mod_lt _ (by omega)
   have t3:(x.tdiv y).natAbs<=x.natAbs:=by rw[Int.natAbs_tdiv]; exact Nat.div_le_self _ _
   have t4:0<=x->0<=x.tmod y:=λh=>Int.tmod_nonneg y h
   have t5:x<=0->x.tmod y<=0:=λh=>by
    have:=Int.tmod_nonneg (a:=-x) y (by omega);rw[Int.neg_tmod]at this;omega
   simp only[e1,oD,bT,aE];generalize x.tdiv y=q at *;generalize x.tmod y=r at *
   by_cases hr:r=0
   ·obtain⟨u1,u2⟩:=eY (x:=x) (y:=y) (f:=q) (g:=r) t1 (by omega) (by omega) h0;simp only[hr,decide_true,Bool.not_true,oD];rw[wrap64 (by omega) (by omega),iP _ (by omega) (by omega),aD,iP _ (by omega) (by omega),aD,u1,u2,hr]
   ·simp only[hr,decide_false,Bool.not_false,oC]
    by_cases r1:r<0
    ·by_cases y1:y<0
     ·obtain⟨u1,u2⟩:=eY (x:=x) (y:=y) (f:=q) (g:=r) t1 (by omega) (by omega) h0;simp only[r1,y1,decide_true,oC];rw[wrap64 (by omega) (by omega),iP _ (by omega) (by omega),aD,iP _ (by omega) (by omega),aD,u1,u2]
     ·obtain⟨u1,u2⟩:=eY (x:=x) (y:=y) (f:=q-1) (g:=r+y) (by grind) (by omega) (by omega) h0;simp only[r1,y1,decide_true,decide_false,oC,oD];rw[wrap64 (x:=q) (by omega) (by omega),wrap64 (by omega) (by omega),iP _ (by omega) (by omega),aD,wrap64 (by omega) (by omega),iP _ (by omega) (by omega),aD,u1,u2]
    ·by_cases y1:y<0
     ·obtain⟨u1,u2⟩:=eY (x:=x) (y:=y) (f:=q-1) (g:=r+y) (by grind) (by omega) (by omega) h0;simp only[r1,y1,decide_true,decide_false,oC,oD];rw[wrap64 (x:=q) (by omega) (by omega),wrap64 (by omega) (by omega),iP _ (by omega) (by omega),aD,wrap64 (by omega) (by omega),iP _ (by omega) (by omega),aD,u1,u2]
     ·obtain⟨u1,u2⟩:=eY (x:=x) (y:=y) (f:=q) (g:=r) t1 (by omega) (by omega) h0;simp only[r1,y1,decide_false,oD];rw[wrap64 (by omega) (by omega),iP _ (by omega) (by omega),aD,iP _ (by omega) (by omega),aD,u1,u2]
  ·simp only[g2,if_false,aD,oD];exact slow
 ·simp only[g1,if_false,aD,oD];exact slow
end Go.PM
namespace Go.Lz
abbrev V:=Nat->Int
inductive Sp (k:Nat) (M:Nat->V):V->Prop
 | zero:Sp k M (λ_=>0)
 | add {v:V} (j:Nat) (t:Int):j<k->Sp k M v->Sp k M (λi=>v i+t*M j i)
theorem Sp.mem {k M j}(h:j<k):Sp k M (M j):=by
 have:=Sp.add j 1 h (Sp.zero (M:=M));grind
theorem Sp.comb {k M u v} t (hu:Sp k M u)(hv:Sp k M v):Sp k M (λi=>u i+t*v i):=by
 induction hv with
 | zero=>grind
 | add j s hj _ ih =>
  have:=Sp.add j (t*s) hj ih;grind
theorem Sp.smul {k M v} t (hv:Sp k M v):Sp k M (λi=>t*v i):=by
 have:=Sp.comb t Sp.zero hv;grind
theorem Sp.sub {k M u v}(hu:Sp k M u)(hv:Sp k M v):Sp k M (λi=>u i-v i):=by
 have:=Sp.comb (-1) hu hv;grind
theorem Sp.trans {k k' M M'}(h:∀ j,j<k->Sp k' M' (M j)){v}(hv:Sp k M v):Sp k' M' v:=by
 induction hv with
 | zero=>exact .zero
 | add j t hj _ ih=>exact Sp.comb t ih (h j hj)
theorem Sp.wJ {k M x}(h:∀ j,j<k->M j x=0){v}(hv:Sp k M v):v x=0:=by
 induction hv with
 | zero=>rfl
 | add j t hj _ ih=>grind
def Same(k:Nat) (M:Nat->V) (k':Nat) (M':Nat->V):Prop:=∀ v,Sp k M v↔Sp k' M' v
theorem Same.refl k M:Same k M k M:=λ_=>Iff.rfl
theorem Same.symm {k k' M M'}(h:Same k M k' M'):Same k' M' k M:=λv=>(h v).symm
theorem Same.trans {k k' k'' M M' M''}(h:Same k M k' M')(g:Same k' M' k'' M''):Same k M k'' M'':=λv=>(h v).trans (g v)
theorem Same.of {k k' M M'}(h:∀ j,j<k->Sp k' M' (M j))(g:∀ j,j<k'->Sp k M (M' j)):Same k M k' M':=λ_=>⟨Sp.trans h,Sp.trans g⟩
theorem Sp.first {k:Nat} {M:Nat->V} {v:V} (h:Sp (k+1) M v):∃ t u,Sp k (λi=>M (i+1)) u/\v=λi=>u i+t*M 0 i:=by
 induction h with
 | zero=>exact⟨0,λ_=>0,.zero,by funext i; simp⟩
 | add j s hj _ ih =>
  obtain⟨t,u,hu,rfl⟩:=ih;cases j with
  | zero=>exact⟨t+s,u,hu,by funext i; grind⟩
  | succ j=>exact⟨t,_,Sp.add j s (by omega) hu,by funext i; grind⟩
theorem Sp.behind {k M u}(h:Sp k (λi=>M (i+1)) u):Sp (k+1) M u :=
 Sp.trans (λj hj=>Sp.mem (by omega)) h
structure Hn (k:Nat) (M:Nat->V) (c:Nat->Nat):Prop where
 inc:∀ i j,i<j->j<k->c i<c j
 low:∀ i,i<k->∀ x,x<c i->M i x=0
 pos:∀ i,i<k->0<M i (c i)
 red:∀ i j,i<j->j<k->0<=M i (c j)/\M i (c j)<M j (c j)
theorem Hn.tail {k M c}(h:Hn (k+1) M c):Hn k (λi=>M (i+1)) (λi=>c (i+1)) where
 inc:=λi j hij hj=>h.inc _ _ (by omega) (by omega)
 low:=λi hi=>h.low _ (by omega)
 pos:=λi hi=>h.pos _ (by omega)
 red:=λi j hij hj=>h.red _ _ (by omega) (by omega)
theorem Hn.AH {k M c}(h:Hn (k+1) M c){u}(hu:Sp k (λi=>M (i+1)) u){x}(hx:x<=c 0):u x=0 :=
 Sp.wJ (λj hj=>h.low (j+1) (by omega) x (by have:=h.inc 0 (j+1) (by simp) (by omega); omega)) hu
theorem Hn.small:∀ {k:Nat} {M:Nat->V} {c:Nat->Nat},Hn k M c->∀ {v:V},Sp k M v->(∀ i,i<k->-(M i (c i))<v (c i)/\v (c i)<M i (c i))->v=λ_=>0
 | 0,M,c,h,v,hv,_=>by
  cases hv with
  | zero=>rfl
  | add j t hj _=>omega
 | k+1,M,c,h,v,hv,hs=>by
  obtain⟨t,u,hu,rfl⟩:=hv.first;have h0:=h.AH hu (Nat.le_refl _);have hs0:=hs 0 (by omega);simp only[h0,Int.zero_add]at hs0;have ht:t=0:=by
   rcases Int.lt_trichotomy t 0 with h1|h1|h1
   ·have:t*M 0 (c 0)<=(-1)*M 0 (c 0):=Int.mul_le_mul_of_nonneg_right (by omega) (by omega);omega
   ·exact h1
   ·have:1*M 0 (c 0)<=t*M 0 (c 0):=Int.mul_le_mul_of_nonneg_right (by omega) (by omega);omega
  subst ht;have e:(λi=>u i+0*M 0 i)=u:=by funext i; simp
  rw[e]at hs ⊢;exact Hn.small h.tail hu λi hi=>hs (i+1) (by omega)
theorem Hn.unique:∀ {k k':Nat} {M M':Nat->V} {c c':Nat->Nat},Hn k M c->Hn k' M' c'->Same k M k' M'->k=k'/\(∀ i,i<k->c i=c' i)/\∀ i,i<k->M i=M' i
 | 0,0,_,_,_,_,_,_,_=>⟨rfl,λi hi=>by omega,λi hi=>by omega⟩
 | 0,k'+1,M,M',c,c',h,h',e=>by
  have:=Hn.small h ((e _).2 (Sp.mem (M:=M') (Nat.succ_pos k'))) (λi hi=>by omega);have hp:=h'.pos 0 (by omega);grind
 | k+1,0,M,M',c,c',h,h',e=>by
  have:=Hn.small h' ((e _).1 (Sp.mem (M:=M) (Nat.succ_pos k))) (λi hi=>by omega);have hp:=h.pos 0 (by omega);grind
 | k+1,k'+1,M,M',c,c',h,h',e=>by
  have hp:=h.pos 0 (by omega);have hp':=h'.pos 0 (by omega);obtain⟨t,u,hu,ht⟩:=Sp.first ((e _).1 (Sp.mem (M:=M) (Nat.succ_pos k)));obtain⟨t',u',hu',ht'⟩:=Sp.first ((e _).2 (Sp.mem (M:=M') (Nat.succ_pos k')));have hc:c 0=c' 0:=by
   rcases Nat.lt_trichotomy (c 0) (c' 0)with h1|h1|h1
   ·exfalso;have a1:=congrFun ht (c 0);have a2:=h'.AH hu (x:=c 0) (by omega);have a3:=h'.low 0 (by omega) _ h1;grind
   ·exact h1
   ·exfalso;have a1:=congrFun ht' (c' 0);have a2:=h.AH hu' (x:=c' 0) (by omega);have a3:=h.low 0 (by omega) _ h1;grind
  have e1:M 0 (c 0)=t*M' 0 (c 0):=by
   have a1:=congrFun ht (c 0);have a2:=h'.AH hu (x:=c 0) (by omega);grind
  have e2:M' 0 (c 0)=t'*M 0 (c 0):=by
   have a1:=congrFun ht' (c 0);have a2:=h.AH hu' (x:=c 0) (by omega);grind
  rw[<- hc]at hp';have e3:M 0 (c 0)=M' 0 (c 0):=Int.le_antisymm (Int.le_of_dvd hp' ⟨t',by rw[e2]; exact Int.mul_comm _ _⟩) (Int.le_of_dvd hp ⟨t,by rw[e1]; exact Int.mul_comm _ _⟩);have tails:Same k (λi=>M (i+1)) k' (λi=>M' (i+1)):=by
   intro v;constructor
   ·intro hv;obtain⟨s,w,hw,rfl⟩:=Sp.first ((e _).1 hv.behind);have a1:=h.AH hv (Nat.le_refl _);have a2:=h'.AH hw (x:=c 0) (by omega);simp only[a2,Int.zero_add]at a1;have:s=0:=by
     rcases Int.mul_eq_zero.1 a1 with h1|h1
     ·exact h1
     ·omega
    subst this;grind
   ·intro hv;obtain⟨s,w,hw,rfl⟩:=Sp.first ((e _).2 hv.behind);have a1:=h'.AH hv (x:=c 0) (by omega);have a2:=h.AH hw (x:=c 0) (by omega);simp only[a2,Int.zero_add]at a1;have:s=0:=by
     rcases Int.mul_eq_zero.1 a1 with h1|h1
     ·exact h1
     ·omega
    subst this;have e:(λi=>w i+0*M 0 i)=w:=by funext i; simp
    rw[e]; exact hw
  obtain⟨q1,q2,q3⟩:=Hn.unique h.tail h'.tail tails;subst q1;have hd:Sp k (λi=>M (i+1)) (λx=>M 0 x-M' 0 x):=by
   obtain⟨s,w,hw,hs⟩:=Sp.first (Sp.sub (Sp.mem (M:=M) (Nat.succ_pos k)) ((e _).2 (Sp.mem (M:=M') (Nat.succ_pos k))));have a1:=congrFun hs (c 0);have a2:=h.AH hw (Nat.le_refl _);simp only[a2,e3,Int.zero_add,Int.sub_self]at a1;have:s=0:=by
    rcases Int.mul_eq_zero.1 a1.symm with h1|h1
    ·exact h1
    ·omega
   subst this;have e:(λi=>w i+0*M 0 i)=w:=by funext i; simp
   rw[hs,e]; exact hw
  have hz:=Hn.small h.tail hd (λi hi=>by
   have r1:=h.red 0 (i+1) (by omega) (by omega);have r2:=h'.red 0 (i+1) (by omega) (by omega);have r3:=q2 i hi;have r4:=congrFun (q3 i hi) (c (i+1));rw[<- r3]at r2;rw[<- r4]at r2;constructor <;> omega)
  refine⟨rfl,λi hi=>?_,λi hi=>?_⟩
  ·cases i with
   | zero=>exact hc
   | succ i=>exact q2 i (by omega)
  ·cases i with
   | zero =>
    funext x
    have:=congrFun hz x;omega
   | succ i=>exact q3 i (by omega)
def up(M:Nat->V) (i:Nat) (r:V):Nat->V:=λj=>if j=i then r else M j
theorem tR M i r:up M i r i=r:=by simp[up]
theorem qK M {i j} r (h:j≠i):up M i r j=M j:=by simp[up,h]
def swp(M:Nat->V)(a b:Nat):Nat->V:=λj=>if j=a then M b else if j=b then M a else M j
theorem KT {k a b} M (ha:a<k)(hb:b<k):Same k M k (swp M a b):=by
 refine Same.of (λj hj=>?_) (λj hj=>?_)
 ·by_cases h1:j=a
  ·subst h1
   by_cases h2:b=j
   ·have:=Sp.mem (M:=swp M j b) ha;simp only[swp,h2]at this ⊢;exact this
   ·have:=Sp.mem (M:=swp M j b) hb;simp only[swp,h2]at this ⊢;exact this
  ·by_cases h2:j=b
   ·subst h2;have:=Sp.mem (M:=swp M a j) ha;simp only[swp]at this ⊢;grind
   ·have:=Sp.mem (M:=swp M a b) hj;simp only[swp]at this ⊢;grind
 ·unfold swp;split
  ·exact Sp.mem hb
  ·split
   ·exact Sp.mem ha
   ·exact Sp.mem hj
theorem DA {k i d} M q (hi:i<k)(hd:d<k)(hne:i≠d):Same k M k (up M i λx=>M i x-q*M d x):=by
 refine Same.of (λj hj=>?_) (λj hj=>?_)
 ·by_cases h:j=i
  ·subst h;have h1:=Sp.mem (M:=up M j λx=>M j x-q*M d x) hj;have h2:=Sp.mem (M:=up M j λx=>M j x-q*M d x) hd;rw[tR]at h1;rw[qK _ _ (Ne.symm hne)]at h2;have:=Sp.comb q h1 h2;grind
  ·have:=Sp.mem (M:=up M i λx=>M i x-q*M d x) hj;rwa[qK _ _ h]at this
 ·by_cases h:j=i
  ·subst h;rw[tR];have:=Sp.comb (-q) (Sp.mem hj) (Sp.mem (M:=M) hd);grind
  ·rw[qK _ _ h]; exact Sp.mem hj
theorem LU {k i} M (hi:i<k):Same k M k (up M i λx=>-(M i x)):=by
 refine Same.of (λj hj=>?_) (λj hj=>?_)
 ·by_cases h:j=i
  ·subst h;have h1:=Sp.mem (M:=up M j λx=>-(M j x)) hj;rw[tR]at h1;have:=Sp.smul (-1) h1;grind
  ·have:=Sp.mem (M:=up M i λx=>-(M i x)) hj;rwa[qK _ _ h]at this
 ·by_cases h:j=i
  ·subst h;rw[tR];have:=Sp.smul (-1) (Sp.mem (M:=M) hj);grind
  ·rw[qK _ _ h]; exact Sp.mem hj
theorem LZ {k d:Nat} (M:Nat->V) (hd:d<=k) (h:∀ i,d<=i->i<k->M i=λ_=>0):Same k M d M:=by
 refine Same.of (λj hj=>?_) (λj hj=>Sp.mem (by omega));rcases Nat.lt_or_ge j d with h1|h1
 ·exact Sp.mem h1
 ·rw[h j h1 hj]; exact .zero
structure Fo (k:Nat) (M0 M:Nat->V) (d c:Nat) (p:Nat->Nat):Prop where
 le:d<=k
 same:Same k M0 k M
 inc:∀ i j,i<j->j<d->p i<p j
 lt:∀ i,i<d->p i<c
 low:∀ i,i<d->∀ x,x<p i->M i x=0
 pos:∀ i,i<d->0<M i (p i)
 red:∀ i j,i<j->j<d->0<=M i (p j)/\M i (p j)<M j (p j)
 rest:∀ i,d<=i->i<k->∀ x,x<c->M i x=0
theorem Fo.start k M:Fo k M M 0 0 (λ_=>0) where
 le:=Nat.zero_le _
 same:=Same.refl _ _
 inc:=λi j _ h=>by omega
 lt:=λi h=>by omega
 low:=λi h=>by simp
 pos:=λi h=>by omega
 red:=λi j _ h=>by omega
 rest:=λi _ _ x h=>by omega
section
variable {k d c:Nat} {M0 M:Nat->V} {p:Nat->Nat}
theorem Fo.DL (h:Fo k M0 M d c p) {M':Nat->V} (hs:Same k M k M') (h1:∀ i,i<d->M' i=M i) (h2:∀ i,d<=i->i<k->∀ x,x<c->M' i x=0):Fo k M0 M' d c p where
 le:=h.le
 same:=h.same.trans hs
 inc:=h.inc
 lt:=h.lt
 low:=λi hi=>by rw[h1 i hi]; exact h.low i hi
 pos:=λi hi=>by rw[h1 i hi]; exact h.pos i hi
 red:=λi j hij hj=>by rw[h1 i (by omega),h1 j hj]; exact h.red i j hij hj
 rest:=h2
theorem Fo.swap (h:Fo k M0 M d c p){a}(ha:d<=a)(hk:a<k):Fo k M0 (swp M d a) d c p:=by
 refine h.DL (KT M (by omega) hk) (λi hi=>?_) (λi h1 h2 x hx=>?_)
 ·have e1:¬ i=d:=by omega
  have e2:¬ i=a:=by omega
  simp only[swp,e1,e2,if_false]
 ·unfold swp;split
  ·exact h.rest a ha hk x hx
  ·split
   ·exact h.rest d (Nat.le_refl _) (by omega) x hx
   ·exact h.rest i h1 h2 x hx
theorem Fo.less (h:Fo k M0 M d c p){i} q (hi:d<i)(hk:i<k):Fo k M0 (up M i λx=>M i x-q*M d x) d c p:=by
 refine h.DL (DA M q hk (by omega) (by omega)) (λj hj=>qK _ _ (by omega)) (λj h1 h2 x hx=>?_)
 by_cases e:j=i
 ·subst e;rw[tR,h.rest j h1 h2 x hx,h.rest d (Nat.le_refl _) (by omega) x hx];simp
 ·rw[qK _ _ e]; exact h.rest j h1 h2 x hx
theorem Fo.neg (h:Fo k M0 M d c p)(hk:d<k):Fo k M0 (up M d λx=>-(M d x)) d c p:=by
 refine h.DL (LU M hk) (λj hj=>qK _ _ (by omega)) (λj h1 h2 x hx=>?_)
 by_cases e:j=d
 ·subst e;rw[tR,h.rest j h1 h2 x hx];rfl
 ·rw[qK _ _ e]; exact h.rest j h1 h2 x hx
theorem Fo.skip (h:Fo k M0 M d c p) (hz:∀ i,d<=i->i<k->M i c=0):Fo k M0 M d (c+1) p where
 le:=h.le
 same:=h.same
 inc:=h.inc
 lt:=λi hi=>by have:=h.lt i hi; omega
 low:=h.low
 pos:=h.pos
 red:=h.red
 rest:=λi h1 h2 x hx=>by
  rcases Nat.lt_or_ge x c with h3|h3
  ·exact h.rest i h1 h2 x h3
  ·grind
structure Fp (k:Nat) (M0 M:Nat->V) (d c:Nat) (p:Nat->Nat) (m:Nat):Prop extends Fo k M0 M d c p where
 dk:d<k
 piv:0<M d c
 below:∀ i,d<i->i<k->M i c=0
 up:∀ i,i<m->0<=M i c/\M i c<M d c
theorem Fp.less {m}(h:Fp k M0 M d c p m)(hm:m<d):Fp k M0 (Lz.up M m λx=>M m x-(M m c).fdiv (M d c)*M d x) d c p (m+1):=by
 have hd0:∀ x,x<c->M d x=0:=h.rest d (Nat.le_refl _) h.dk;have hr:∀ x,x<c->∀ i,Lz.up M m (λx=>M m x-(M m c).fdiv (M d c)*M d x) i x=M i x:=by
  intro x hx i
  by_cases e:i=m
  ·subst e;rw[tR,hd0 x hx]; simp
  ·rw[qK _ _ e]
 have hne:∀ i,i≠m->Lz.up M m (λx=>M m x-(M m c).fdiv (M d c)*M d x) i=M i:=λi e=>qK _ _ e
 refine { le:=h.le,same:=h.same.trans (DA M _ (by have:=h.le; omega) h.dk (by omega)),inc:=h.inc,lt:=h.lt,low:=λi hi x hx=>?_,pos:=λi hi=>?_,red:=λi j hij hj=>?_,rest:=λi h1 h2 x hx=>?_,dk:=h.dk,piv:=?_,below:=λi h1 h2=>?_,up:=λi hi=>?_ }
 ·rw[hr x (by have:=h.lt i hi; omega)]; exact h.low i hi x hx
 ·rw[hr _ (h.lt i hi)]; exact h.pos i hi
 ·rw[hr _ (h.lt j hj),hr _ (h.lt j hj)]; exact h.red i j hij hj
 ·rw[hr x hx]; exact h.rest i h1 h2 x hx
 ·rw[hne d (by omega)]; exact h.piv
 ·rw[hne i (by omega)]; exact h.below i h1 h2
 ·rw[hne d (by omega)]
  by_cases e:i=m
  ·subst e;rw[tR];have h1:=Int.fmod_def (M i c) (M d c);have h2:=Int.fmod_nonneg_of_pos (M i c) h.piv;have h3:=Int.fmod_lt_of_pos (M i c) h.piv;grind
  ·rw[hne i e]; exact h.up i (by omega)
theorem Fp.done (h:Fp k M0 M d c p d):Fo k M0 M (d+1) (c+1) (λi=>if i=d then c else p i):=by
 have hp:∀ i,i<d->(if i=d then c else p i)=p i:=λi hi=>by rw[if_neg (by omega)]
 refine { le:=h.dk,same:=h.same,inc:=λi j hij hj=>?_,lt:=λi hi=>?_,low:=λi hi x hx=>?_,pos:=λi hi=>?_,red:=λi j hij hj=>?_,rest:=λi h1 h2 x hx=>?_ }
 ·rw[hp i (by omega)]
  by_cases e:j=d
  ·subst e; rw[if_pos rfl]; exact h.lt i hij
  ·rw[if_neg e]; exact h.inc i j hij (by omega)
 ·by_cases e:i=d
  ·grind
  ·rw[if_neg e]; have:=h.lt i (by omega); omega
 ·by_cases e:i=d
  ·subst e; rw[if_pos rfl]at hx; exact h.rest i (Nat.le_refl _) h.dk x hx
  ·rw[if_neg e]at hx; exact h.low i (by omega) x hx
 ·by_cases e:i=d
  ·subst e; rw[if_pos rfl]; exact h.piv
  ·rw[if_neg e]; exact h.pos i (by omega)
 ·by_cases e:j=d
  ·subst e; rw[if_pos rfl]; exact h.up i hij
  ·rw[if_neg e]; exact h.red i j hij (by omega)
 ·rcases Nat.lt_or_ge x c with h3|h3
  ·exact h.rest i (by omega) h2 x h3
  ·have:x=c:=by omega
   subst this;exact h.below i (by omega) h2
theorem Fo.hn (h:Fo k M0 M d c p) (hz:d=k\/∀ i,i<k->∀ x,c<=x->M i x=0):Hn d M p/\Same k M0 d M:=by
 refine⟨⟨h.inc,h.low,h.pos,h.red⟩,h.same.trans ?_⟩;rcases hz with rfl|hz
 ·exact Same.refl _ _
 ·refine LZ M h.le λi h1 h2=>?_
  funext x
  rcases Nat.lt_or_ge x c with h3|h3
  ·exact h.rest i h1 h2 x h3
  ·grind
end
def dot:Nat->V->V->Int
 | 0,_,_=>0
 | n+1,a,b=>dot n a b+a n*b n
theorem p5 a b:∀ n,dot n a b=dot n b a
 | 0=>rfl
 | n+1=>by rw[dot,dot,p5 a b n,Int.mul_comm]
theorem wA u v b t:∀ n,dot n (λi=>u i+t*v i) b=dot n u b+t*dot n v b
 | 0=>by simp[dot]
 | n+1=>by
  rw[dot,dot,dot,wA u v b t n];grind
theorem yF b:∀ n,dot n (λ_=>0) b=0
 | 0=>rfl
 | n+1=>by rw[dot,yF b n]; simp
def Ker(n m:Nat) (A:Nat->V) (y:V):Prop:=(∀ c,n<=c->y c=0)/\∀ x,x<m->dot n y (A x)=0
theorem Ker.span {n m A y}(h:Ker n m A y){v}(hv:Sp m A v):dot n y v=0:=by
 induction hv with
 | zero=>rw[p5]; exact yF _ _
 | add j t hj _ ih=>rw[p5,wA,p5 _ y,ih,p5 _ y,h.2 j hj]; simp
theorem Ker.IZ {n m A y}(h1:∀ c,n<=c->y c=0)(h2:∀ v,Sp m A v->dot n y v=0):Ker n m A y:=⟨h1,λx hx=>h2 _ (Sp.mem hx)⟩
theorem Ker.same {n m m' A A'}(h:Same m A m' A'){y}:Ker n m A y↔Ker n m' A' y :=
 ⟨λg=>.IZ g.1 λv hv=>g.span ((h v).2 hv),λg=>.IZ g.1 λv hv=>g.span ((h v).1 hv)⟩
def jU(n m:Nat) (A:Nat->V) (k:Nat) (K:Nat->V):Prop:=∀ y,Sp k K y↔Ker n m A y
theorem jU.width {n m k A K}(h:jU n m A k K){i}(hi:i<k):∀ c,n<=c->K i c=0:=((h _).1 (Sp.mem hi)).1
def wide(n m:Nat) (A:Nat->V):Nat->V:=λc x=>if x<m then A x c else if x=m+c then 1 else 0
theorem FT {n m A} y:∀ j,j<=n->Sp n (wide n m A) (λx=>if x<m then dot j y (A x) else if x<m+j then y (x-m) else 0)
 | 0,_=>by
  refine cast (congrArg _ ?_) Sp.zero
  funext x
  split
  ·rfl
  grind
 | j+1,h=>by
  have:=Sp.comb (y j) (FT y j (by omega)) (Sp.mem (M:=wide n m A) (show j<n by omega));refine cast (congrArg _ ?_) this
  funext x
  simp only[wide];split
  ·rfl
  ·grind
theorem NF {n m A v}(h:Sp n (wide n m A) v):(∀ x,x<m->v x=dot n (λc=>v (m+c)) (A x))/\∀ c,n<=c->v (m+c)=0:=by
 have unit:∀ (j:Nat) (b:V),∀ n,dot n (λc=>if m+c=m+j then (1:Int) else 0) b=if j<n then b j else 0:=by
  intro j b n
  induction n with
  | zero=>rfl
  | succ n ih =>
   rw[dot,ih];grind
 induction h with
 | zero=>exact⟨λx _=>(yF _ _).symm,λ_ _=>rfl⟩
 | add j t hj _ ih =>
  obtain⟨h1,h2⟩:=ih;refine⟨λx hx=>?_,λc hc=>?_⟩
  ·rw[wA,<- h1 x hx];have e:(λc=>wide n m A j (m+c))=λc=>if m+c=m+j then 1 else 0:=by
    funext c
    have:¬ m+c<m:=by omega
    simp only[wide,this,if_false]
   rw[e,unit,if_pos hj];simp only[wide,hx,if_true]
  ·have h3:=h2 c hc;have e1:¬ m+c<m:=by omega
   have e2:¬ m+c=m+j:=by omega
   simp only[wide,e1,e2,if_false,Int.mul_zero,Int.add_zero,h3]
theorem Hn.drop:∀ {j k:Nat} {M:Nat->V} {p:Nat->Nat} {m:Nat},Hn k M p->j<=k->(∀ i,i<j->p i<m)->∀ {v:V},Sp k M v->(∀ x,x<m->v x=0)->Sp (k-j) (λi=>M (j+i)) v
 | 0,k,M,p,m,h,_,_,v,hv,_=>by grind
 | j+1,0,M,p,m,h,hj,_,v,hv,_=>by omega
 | j+1,k+1,M,p,m,h,hj,hp,v,hv,hz=>by
  obtain⟨t,u,hu,rfl⟩:=hv.first;have h0:=hz (p 0) (hp 0 (by omega));have h1:=h.AH hu (Nat.le_refl _);have h2:=h.pos 0 (by omega);simp only[h1,Int.zero_add]at h0;have ht:t=0:=by
   rcases Int.mul_eq_zero.1 h0 with h3|h3
   ·exact h3
   ·omega
  subst ht;have e:(λi=>u i+0*M 0 i)=u:=by funext i; simp
  rw[e]at hz ⊢;have:=Hn.drop (j:=j) h.tail (by omega) (λi hi=>hp (i+1) (by omega)) hu hz;grind
theorem J9 {n m k j:Nat} {A W:Nat->V} {p:Nat->Nat} (h:Hn k W p) (hs:Same n (wide n m A) k W) (hj:j<=k) (h1:∀ i,i<j->p i<m) (h2:∀ i,j<=i->i<k->m<=p i) :
  jU n m A (k-j) (λi y=>W (j+i) (m+y)):=by
 intro y;constructor
 ·intro hy;have key:∃ v,Sp k W v/\(∀ x,x<m->v x=0)/\y=λc=>v (m+c):=by
   induction hy with
   | zero=>exact⟨_,.zero,λ_ _=>rfl,rfl⟩
   | add i t hi _ ih =>
    obtain⟨v,g1,g2,rfl⟩:=ih;refine⟨_,Sp.add (j+i) t (by omega) g1,λx hx=>?_,rfl⟩;have:=h.low (j+i) (by omega) x (by have:=h2 (j+i) (by omega) (by omega); omega);grind
  obtain⟨v,g1,g2,rfl⟩:=key;obtain⟨q1,q2⟩:=NF ((hs v).2 g1);exact⟨q2,λx hx=>by rw[<- q1 x hx]; exact g2 x hx⟩
 ·rintro⟨g1,g2⟩;have hv:=FT (A:=A) (n:=n) (m:=m) y n (Nat.le_refl _);have:=Hn.drop h hj h1 ((hs _).1 hv) (λx hx=>by simp only[hx,if_true]; exact g2 x hx);have key:∀ {v:V},Sp (k-j) (λi=>W (j+i)) v->Sp (k-j) (λi y=>W (j+i) (m+y)) (λc=>v (m+c)):=by
   intro v hv
   induction hv with
   | zero=>exact .zero
   | add i t hi _ ih=>exact Sp.add i t hi ih
  have:=key this;refine cast (congrArg _ ?_) this;grind
theorem vZ(a:Int){m}(h:m<0):m<a.fmod m/\a.fmod m<=0:=by
 have h1:=Int.neg_fmod_neg (-a) (-m);rw[Int.neg_neg,Int.neg_neg]at h1;have h2:=Int.fmod_nonneg_of_pos (-a) (show 0 < -m by omega);have h3:=Int.fmod_lt_of_pos (-a) (show 0 < -m by omega);omega
theorem FI(a m:Int)(hm:m≠0):(a.fdiv m).natAbs*m.natAbs<=a.natAbs+m.natAbs:=by
 have h1:=Int.fmod_def a m;have h2:(m*a.fdiv m).natAbs=(a.fdiv m).natAbs*m.natAbs:=by rw[Int.natAbs_mul,Nat.mul_comm]
 rcases Int.lt_or_gt_of_ne hm with h|h
 ·have h3:=vZ a h;omega
 ·have h3:=Int.fmod_nonneg_of_pos a h;have h4:=Int.fmod_lt_of_pos a h;omega
theorem FE(a m:Int)(hm:m≠0):(a.fmod m).natAbs<m.natAbs:=by
 rcases Int.lt_or_gt_of_ne hm with h|h
 ·have h3:=vZ a h;omega
 ·have h3:=Int.fmod_nonneg_of_pos a h;have h4:=Int.fmod_lt_of_pos a h;omega
theorem BE(a m:Int):a-a.fdiv m*m=a.fmod m:=by rw[Int.fmod_def,Int.mul_comm]
theorem MK {a b q:Int} {E Q:Nat} (ha:a.natAbs<=E) (hb:b.natAbs<=E) (hq:q.natAbs<=Q):(a-q*b).natAbs<=E+Q*E:=by
 have h1:(q*b).natAbs=q.natAbs*b.natAbs:=Int.natAbs_mul _ _;have h2:q.natAbs*b.natAbs<=Q*E:=Nat.mul_le_mul hq hb;omega
def Wi(k:Nat) (M:Nat->V) (d c E A:Nat):Prop:=∀ i,d<=i->i<k->(∀ x,(M i x).natAbs<=E)/\(M i c).natAbs<=A
def Rd(k:Nat) (M M':Nat->V) (d c:Nat):Prop:=M' d=M d/\∀ i,d<i->i<k->M' i=λx=>M i x-(M i c).fdiv (M d c)*M d x
theorem Rd.ID {k d c E A:Nat} {M M':Nat->V} (h:Rd k M M' d c) (hw:Wi k M d c E A) (hk:d<k) (hm:M d c≠0) (hA:(M d c).natAbs<=A) :
  ∃ E',Wi k M' d c E' (M d c).natAbs/\E'*(M d c).natAbs<=3*(E*A):=by
 have hmp:0<(M d c).natAbs:=by omega
 refine⟨E+(A/(M d c).natAbs+1)*E,λi h1 h2=>?_,?_⟩
 ·by_cases e:i=d
  ·subst e;rw[h.1];refine⟨λx=>?_,Nat.le_refl _⟩;have:=(hw i h1 h2).1 x;grind
  ·have hr:=h.2 i (by omega) h2;have hq:((M i c).fdiv (M d c)).natAbs<=A/(M d c).natAbs+1:=by
    have h3:=FI (M i c) (M d c) hm;have h4:=(hw i h1 h2).2;have h5:((M i c).fdiv (M d c)).natAbs<=(A+(M d c).natAbs)/(M d c).natAbs:=by
     rw[Nat.le_div_iff_mul_le hmp];omega
    simp_all
   rw[hr];refine⟨λx=>MK ((hw i h1 h2).1 x) ((hw d (Nat.le_refl _) hk).1 x) hq,?_⟩;dsimp only;rw[BE];exact Nat.le_of_lt (FE _ _ hm)
 ·have h1:A/(M d c).natAbs*(M d c).natAbs<=A:=Nat.div_mul_le_self _ _;generalize A/(M d c).natAbs=q at h1;generalize (M d c).natAbs=m at *;have h2:(E+(q+1)*E)*m=2*(E*m)+E*(q*m):=by grind
  have h3:E*(q*m)<=E*A:=Nat.mul_le_mul_left _ h1;have h4:E*m<=E*A:=Nat.mul_le_mul_left _ hA;omega
theorem L5 a b c (h:a+b<=c):4*(a*b)<=c*c:=by
 have h1 :=Nat.mul_le_mul h h;have h2 :=by
  have:(a+b)*(a+b)=4*(a*b)+(a-b)*(a-b)+(b-a)*(b-a):=by
   rcases Nat.le_total a b with g|g
   ·obtain⟨e,rfl⟩:=Nat.exists_eq_add_of_le g;grind
   ·obtain⟨e,rfl⟩:=Nat.exists_eq_add_of_le g;grind
  omega
 omega
structure Bt (k:Nat) (M:Nat->V) (d c C:Nat):Prop where
 dk:d<k
 ex:∃ E,Wi k M d c E (M d c).natAbs/\∃ i,d<i/\i<k/\M i c≠0/\E*(M d c).natAbs^3*(M i c).natAbs<=C
 piv:M d c≠0
 sign:∀ i,d<i->i<k->(M i c).natAbs<(M d c).natAbs/\(0<M d c->0<=M i c)/\(M d c<0->M i c<=0)
theorem Wi.swap {k d c E A a M}(h:Wi k M d c E A)(ha:d<=a)(hk:a<k):Wi k (swp M d a) d c E A:=by
 intro i h1 h2;unfold swp;split
 ·exact h a ha hk
 ·split
  ·exact h d (Nat.le_refl _) (by omega)
  ·exact h i h1 h2
theorem Rd.sign {k d c M M'}(h:Rd k M M' d c)(hm:M d c≠0):∀ i,d<i->i<k->M' i c=(M i c).fmod (M d c)/\(M' i c).natAbs<(M' d c).natAbs/\(0<M' d c->0<=M' i c)/\(M' d c<0->M' i c<=0):=by
 intro i h1 h2;have e:M' i c=(M i c).fmod (M d c):=by
  rw[h.2 i h1 h2];exact BE _ _
 rw[e,h.1];exact⟨rfl,FE _ _ hm,λhp=>Int.fmod_nonneg_of_pos _ hp,λhn=>(vZ _ hn).2⟩
theorem MI {p n:Int} (hs:(0<p/\0<n)\/(p<0/\n<0)) (hl:n.natAbs<p.natAbs):(p.fmod n).natAbs+n.natAbs<=p.natAbs:=by
 have key:∀ p n:Int,0<n->n<p->(p.fmod n).natAbs+n.natAbs<=p.natAbs:=by
  intro p n h1 h2;have h3:=Int.fmod_def p n;have h4:=Int.fmod_nonneg_of_pos p h1;have h5:=Int.fmod_lt_of_pos p h1;have h6:1<=p.fdiv n:=by
   rcases(by omega:p.fdiv n<1\/1<=p.fdiv n)with h|h
   ·have:n*p.fdiv n<=n*0:=Int.mul_le_mul_of_nonneg_left (by omega) (by omega);omega
   ·exact h
  have h7:n*1<=n*p.fdiv n:=Int.mul_le_mul_of_nonneg_left h6 (by omega);omega
 rcases hs with ⟨h1,h2⟩|⟨h1,h2⟩
 ·grind
 ·have:=key (-p) (-n) (by omega) (by omega)
  simp_all
theorem Rd.first {k d c E A:Nat} {M M':Nat->V} (h:Rd k M M' d c) (hw:Wi k M d c E A) (hk:d<k) (hm:M d c≠0) :
  ((∀ i,d<i->i<k->M' i c=0)/\Wi k M' d c (3*(E*A)) A)\/Bt k M' d c (3*(E*A)*A^3):=by
 have hA:=(hw d (Nat.le_refl _) hk).2;have hmp:0<(M d c).natAbs:=by omega
 obtain⟨E',h1,h2⟩:=h.ID hw hk hm hA;have hs:=h.sign hm
 by_cases hz:∀ i,d<i->i<k->M' i c=0
 ·refine .inl ⟨hz,λi g1 g2=>⟨λx=>?_,?_⟩⟩
  ·have a1:=(h1 i g1 g2).1 x;have a2:E'*1<=E'*(M d c).natAbs:=Nat.mul_le_mul_left _ hmp;omega
  ·exact Nat.le_trans (h1 i g1 g2).2 hA
 ·refine .inr ⟨hk,⟨E',by rw[h.1]; exact h1,?_⟩,by rw[h.1]; exact hm,λi g1 g2=>(hs i g1 g2).2⟩;obtain⟨i,hi⟩:=Classical.not_forall.1 hz;obtain⟨g1,hi⟩:=Classical.not_forall.1 hi;obtain⟨g2,g3⟩:=Classical.not_forall.1 hi;refine⟨i,g1,g2,g3,?_⟩;have a1:=(hs i g1 g2).2.1;rw[h.1]at a1 ⊢;have a2:(M d c).natAbs^2*(M' i c).natAbs<=A^2*A:=Nat.mul_le_mul (Nat.pow_le_pow_left hA 2) (by omega);have a3:E'*(M d c).natAbs*((M d c).natAbs^2*(M' i c).natAbs)<=3*(E*A)*(A^2*A):=Nat.mul_le_mul h2 a2
  grind
theorem Bt.left {k d c C a:Nat} {M M':Nat->V} (h:Bt k M d c C) (ha:d<=a) (hk:a<k) (hm:M a c≠0) (hmin:∀ i,d<=i->i<k->M i c≠0->(M a c).natAbs<=(M i c).natAbs) (hr:Rd k (swp M d a) M' d c) (hz:¬ ∀ i,d<i->i<k->M' i c=0):M' d=M a/\(M a c).natAbs<(M d c).natAbs/\∃ i,d<i/\i<k/\M' i c≠0/\(M' i c).natAbs+(M a c).natAbs<=(M d c).natAbs/\(M' i c).natAbs<(M a c).natAbs:=by
 obtain⟨E,h1,i0,g1,g2,g3,g4⟩:=h.ex;have hda:d<a:=by
  rcases Nat.lt_or_ge d a with h9|h9
  ·exact h9
  ·have:a=d:=by omega
   subst this;have:=hmin i0 (by omega) g2 g3;have:=(h.sign i0 g1 g2).1;omega
 have e1:swp M d a d=M a:=by simp[swp]
 have e2:swp M d a a=M d:=by
  have:¬ a=d:=by omega
  simp[swp,this]
 have hsa:=h.sign a hda hk;have hs:=hr.sign (by rw[e1]; exact hm);have hMd:M' d=M a:=by rw[hr.1,e1]
 have main:∃ i,d<i/\i<k/\M' i c≠0/\(M' i c).natAbs+(M a c).natAbs<=(M d c).natAbs:=by
  have ea:=(hs a hda hk).1;rw[e1,e2]at ea
  by_cases hz2:M' a c=0
  ·obtain⟨i,hi⟩:=Classical.not_forall.1 hz;obtain⟨z1,hi⟩:=Classical.not_forall.1 hi;obtain⟨z2,z3⟩:=Classical.not_forall.1 hi;refine⟨i,z1,z2,z3,?_⟩;have a1:=(hs i z1 z2).2.1;rw[hMd]at a1;have a2:(M a c).natAbs ∣ (M d c).natAbs:=by
    have:M a c ∣ M d c:=by
     rw[hz2]at ea;exact Int.dvd_of_fmod_eq_zero ea.symm
    simp_all
   obtain⟨t,ht⟩:=a2;have h2t:2<=t:=by
    rcases Nat.lt_or_ge t 2 with h|h
    ·have:(M a c).natAbs*t<=(M a c).natAbs*1:=Nat.mul_le_mul_left _ (by omega);omega
    ·exact h
   have:(M a c).natAbs*2<=(M a c).natAbs*t:=Nat.mul_le_mul_left _ h2t;omega
  ·refine⟨a,hda,hk,hz2,?_⟩;rw[ea];refine MI ?_ hsa.1;grind
 grind
def Pt(k:Nat) (M:Nat->V) (d c P:Nat):Prop:=∃ i,d<i/\i<k/\M i c≠0/\(M d c).natAbs*(M i c).natAbs<=P
theorem Bt.half {k d c C a M M'}(h:Bt k M d c C)(ha:d<=a)(hk:a<k)(hm:M a c≠0)(hmin:∀ i,d<=i->i<k->M i c≠0->(M a c).natAbs<=(M i c).natAbs)(hr:Rd k (swp M d a) M' d c)(hz:¬ ∀ i,d<i->i<k->M' i c=0){P}(hP:Pt k M d c P):Pt k M' d c (P/2):=by
 obtain⟨q1,q2,i,z1,z2,z3,z4,z5⟩:=h.left ha hk hm hmin hr hz;obtain⟨i0,w1,w2,w3,w4⟩:=hP;have w5:=hmin i0 (by omega) w2 w3;refine⟨i,z1,z2,z3,?_⟩;have a1:(M a c).natAbs*(2*(M' i c).natAbs)<=(M a c).natAbs*(M d c).natAbs:=Nat.mul_le_mul_left _ (by omega);have a2:(M d c).natAbs*(M a c).natAbs<=(M d c).natAbs*(M i0 c).natAbs:=Nat.mul_le_mul_left _ w5;grind
theorem Bt.round {k d c C a:Nat} {M M':Nat->V} (h:Bt k M d c C) (ha:d<=a) (hk:a<k) (hm:M a c≠0) (hmin:∀ i,d<=i->i<k->M i c≠0->(M a c).natAbs<=(M i c).natAbs) (hr:Rd k (swp M d a) M' d c) :
  ((∀ i,d<i->i<k->M' i c=0)/\∃ A,Wi k M' d c (3*C) A)\/(Bt k M' d c C/\(M' d c).natAbs<(M d c).natAbs):=by
 obtain⟨E,h1,i0,g1,g2,g3,g4⟩:=h.ex;have hda:d<a:=by
  rcases Nat.lt_or_ge d a with h9|h9
  ·exact h9
  ·have:a=d:=by omega
   subst this;have:=hmin i0 (by omega) g2 g3;have:=(h.sign i0 g1 g2).1;omega
 have e1:swp M d a d=M a:=by simp[swp]
 have hsa:=h.sign a hda hk;have hA:(swp M d a d c).natAbs<=(M d c).natAbs:=by rw[e1]; omega
 obtain⟨E',q1,q2⟩:=hr.ID (h1.swap ha hk) h.dk (by rw[e1]; exact hm) hA;rw[e1]at q1 q2;have hs:=hr.sign (by rw[e1]; exact hm);have hC:E*(M d c).natAbs^3*(M a c).natAbs<=C:=Nat.le_trans (Nat.mul_le_mul_left _ (hmin i0 (by omega) g2 g3)) g4;have hmp:0<(M a c).natAbs:=by omega
 have hMd:M' d=M a:=by rw[hr.1,e1]
 by_cases hz:∀ i,d<i->i<k->M' i c=0
 ·refine .inl ⟨hz,(M a c).natAbs,λi z1 z2=>⟨λx=>?_,(q1 i z1 z2).2⟩⟩;have a1:=(q1 i z1 z2).1 x;have a2:E'*1<=E'*(M a c).natAbs:=Nat.mul_le_mul_left _ hmp;have a3:E*(M d c).natAbs*1<=E*(M d c).natAbs*((M d c).natAbs^2*(M a c).natAbs):=Nat.mul_le_mul_left _ (Nat.mul_pos (Nat.pow_pos (by omega)) hmp);grind
 ·refine .inr ⟨⟨h.dk,⟨E',by rw[hMd]; exact q1,?_⟩,by rw[hMd]; exact hm,λi z1 z2=>(hs i z1 z2).2⟩,by rw[hMd]; exact hsa.1⟩;obtain⟨_,_,i,z1,z2,z3,z4,_⟩:=h.left ha hk hm hmin hr hz;refine⟨i,z1,z2,z3,?_⟩;rw[hMd];have a1:=L5 _ _ _ z4;generalize (M' i c).natAbs=y at *;generalize (M a c).natAbs=x at *;generalize (M d c).natAbs=m at *;have a2:E'*x*(x^2*y)<=3*(E*m)*(x^2*y):=Nat.mul_le_mul_right _ q2;have a3:(E*m*x)*(4*(y*x))<=(E*m*x)*(m*m):=Nat.mul_le_mul_left _ a1
  grind
theorem Hn.shift {k M p}(h:Hn k M p) j (hj:j<=k):Hn (k-j) (λi=>M (j+i)) (λi=>p (j+i)) where
 inc:=λa b hab hb=>h.inc _ _ (by omega) (by omega)
 low:=λi hi=>h.low _ (by omega)
 pos:=λi hi=>h.pos _ (by omega)
 red:=λa b hab hb=>h.red _ _ (by omega) (by omega)
end Go.Lz
namespace Go.PM
open Go Go.RowKit Go.Proofs Go.Lz
abbrev j3:Nat:=400000
def Zr(n:Nat) (v:V):List ByteArray:=(List.range n).map λi=>Zn (v i)
theorem kL n v:(Zr n v).length=n:=by simp[Zr]
theorem BB {n i} v (h:i<n) d:(Zr n v).getD i d=Zn (v i):=by simp[Zr,h]
theorem vN {n u v}(h:∀ i,i<n->u i=v i):Zr n u=Zr n v:=by
 refine List.map_congr_left λi hi=>?_
 grind
theorem KW {n}(u v:V) t (h:t<n):(Zr n λx=>if x<t then v x else u x).set t (Zn (v t))=Zr n λx=>if x<t+1 then v x else u x:=by
 refine List.ext_getElem? λi=>?_
 simp only[Zr];grind
theorem xD {α:Type}(A:List α) j x d (h:j<A.length):(A.set j x).getD j d=x:=by grind
theorem getD_set_ne {α:Type}(A:List α){j k} x d (h:j≠k):(A.set j x).getD k d=A.getD k d:=by grind
theorem yL {α:Type}{A:List α}{j x} d (h:A[j]?=some x):A.getD j d=x:=by grind
structure DS (n:Nat) (u v:V) (q:Int):Prop where
 mul:∀ i,i<n->Lib.nDigits q.natAbs+Lib.nDigits (v i).natAbs<=j3
 sub:∀ i,i<n->Lib.nDigits (u i).natAbs<=j3
theorem FW a b:Lib.nDigits (a*b)<=Lib.nDigits a+Lib.nDigits b:=by
 have h1:=dC a;have h2:=dC b;have p2:=nDigits_pos b;have h4 :=Nat.mul_lt_mul'' h1 h2;rw[<- Nat.pow_add]at h4;obtain⟨k,hk⟩:∃ k,Lib.nDigits a+Lib.nDigits b=k+1:=⟨Lib.nDigits a+Lib.nDigits b-1,by omega⟩;rw[hk]at h4 ⊢;exact gM h4
theorem vL {α:Type}{pre l:List α}{o t}(h:pre.length=o) d:(pre++l).getD (o+t) d=l.getD t d:=by grind
theorem I1 {α:Type}{pre l:List α}{o t}(h:pre.length=o) x:(pre++l).set (o+t) x=pre++l.set t x:=by grind
theorem KC {A:List (List ByteArray)}{J K o n u v q pre pre'}(hn:n<1048576)(hne:J≠K)(hp:pre.length=o)(hp':pre'.length=o)(hJ:A[J]?=some (pre++Zr n u))(hK:A[K]?=some (pre'++Zr n v))(ok:DS n u v q) :
  nG ((J,o,n),Zn q,(K,o,n),(n:Int),0,A,())=some (A.set J (pre++Zr n λx=>u x-q*v x),()):=by
 have hJl:J<A.length:=(oO.1 hJ).1;have key:=aQ (step:=fH) (N:=2^64)
  (λt=>((J,o,n),Zn q,(K,o,n),(n:Int),(t:Int),A.set J (pre++Zr n λx=>if x<t then u x-q*v x else u x),())) n (A.set J (pre++Zr n λx=>u x-q*v x),()) (by omega) (λt ht=>?_) ?_
 ·have h0:(A.set J (pre++Zr n λx=>if x<0 then u x-q*v x else u x))=A:=by
   have:Zr n (λx=>if x<0 then u x-q*v x else u x)=Zr n u:=vN λi _=>by simp
   rw[this];refine List.ext_getElem? λi=>?_
   grind
  simp only[h0]at key;exact key
 ·have hg:(A.set J (pre++Zr n λx=>if x<t then u x-q*v x else u x)).getD J []=pre++Zr n λx=>if x<t then u x-q*v x else u x:=xD _ _ _ _ hJl
  have hk:(A.set J (pre++Zr n λx=>if x<t then u x-q*v x else u x)).getD K []=pre'++Zr n v:=by rw[getD_set_ne _ _ _ hne]; exact yL _ hK
  have e1:ltI (t:Int) (n:Int)=true:=by rw[aE]; simp; omega
  have e2:aF (t:Int) n=true:=by rw[aG]; simp; omega
  have e3:(o+((t:Nat):Int).toNat)*1=o+t:=by simp
  have e4:bP (A.set J (pre++Zr n λx=>if x<t then u x-q*v x else u x)) J=o+n:=by rw[bP,hg,oH,kL,hp]
  have e5:bP (A.set J (pre++Zr n λx=>if x<t then u x-q*v x else u x)) K=o+n:=by rw[bP,hk,oH,kL,hp']
  have e6:Nat.blt (o+t) (o+n)=true:=by rw[bE]; simpa using ht
  have e7:bR (A.set J (pre++Zr n λx=>if x<t then u x-q*v x else u x)) J (o+t) ByteArray.empty=Zn (u t):=by rw[bR,hg,vL hp,BB _ ht]; simp
  have e8:bR (A.set J (pre++Zr n λx=>if x<t then u x-q*v x else u x)) K (o+t) ByteArray.empty=Zn (v t):=by rw[bR,hk,vL hp',BB _ ht]
  have e9:lL (A.set J (pre++Zr n λx=>if x<t then u x-q*v x else u x)) J (o+t) (Zn (u t-q*v t))=A.set J (pre++Zr n λx=>if x<t+1 then u x-q*v x else u x):=by
   rw[lL,hg,List.set_set,I1 hp];exact oZ (λl=>A.set J (pre++l)) (KW u (λx=>u x-q*v x) t ht)
  have m1:=BD q (v t) (ok.mul t ht);have m2:=HU (u t) (q*v t) (ok.sub t ht) (by rw[Int.natAbs_mul]; exact oR (FW _ _) (ok.mul t ht));have e10:=aT t (by omega);simp only[fH,e1,oC,e2,e3,e5,e6,e4,e7,e8,m1,aD,m2,e9,e10]
 ·have e1:ltI (n:Int) (n:Int)=false:=by rw[aE]; simp
  simp only[fH,e1,oD];have:Zr n (λx=>if x<n then u x-q*v x else u x)=Zr n λx=>u x-q*v x:=vN λi hi=>by simp[hi]
  rw[this]
theorem FU {α:Type}{A:List α}{J x}(h:A[J]?=some x):A.set J x=A:=by
 refine List.ext_getElem? λi=>?_
 grind
theorem OC {A:List (List ByteArray)} {J K o n:Nat} {u v:V} {q:Int} {pre pre':List ByteArray} (hn:n<1048576) (hne:J≠K) (hp:pre.length=o) (hp':pre'.length=o) (hJ:A[J]?=some (pre++Zr n u)) (hK:A[K]?=some (pre'++Zr n v)) (ok:DS n u v q) :
  gA () ((J,o,n),Zn q,(K,o,n),()) A=some ((),A.set J (pre++Zr n λx=>u x-q*v x)):=by
 unfold gA;simp only[tJ]
 by_cases hq:q=0
 ·subst hq;simp only[decide_true,oC];have:Zr n (λx=>u x-0*v x)=Zr n u:=vN λi _=>by simp
  rw[this,FU hJ]
 ·simp only[hq,decide_false,oD,KC hn hne hp hp' hJ hK ok,aD]
theorem negate_eq {A:List (List ByteArray)} {J o n:Nat} {u:V} {pre:List ByteArray} (hn:n<1048576) (hp:pre.length=o) (hJ:A[J]?=some (pre++Zr n u)) (ok:∀ i,i<n->Lib.nDigits (u i).natAbs<=j3) :
  eX () ((J,o,n),()) A=some ((),A.set J (pre++Zr n λx=>-(u x))):=by
 have hJl:J<A.length:=(oO.1 hJ).1;have key:=aQ (step:=eN) (N:=2^64)
  (λt=>((J,o,n),(J,o,n),(n:Int),(t:Int),A.set J (pre++Zr n λx=>if x<t then -(u x) else u x),())) n (A.set J (pre++Zr n λx=>-(u x)),()) (by omega) (λt ht=>?_) ?_
 ·have h0:(A.set J (pre++Zr n λx=>if x<0 then -(u x) else u x))=A:=by
   have:Zr n (λx=>if x<0 then -(u x) else u x)=Zr n u:=vN λi _=>by simp
   rw[this,FU hJ]
  simp only[h0]at key;unfold eX l9;have e0:((0:Nat):Int)=0:=rfl;rw[e0]at key;simp only[key,aD]
 ·have hg:(A.set J (pre++Zr n λx=>if x<t then -(u x) else u x)).getD J []=pre++Zr n λx=>if x<t then -(u x) else u x:=xD _ _ _ _ hJl
  have e1:ltI (t:Int) (n:Int)=true:=by rw[aE]; simp; omega
  have e2:aF (t:Int) n=true:=by rw[aG]; simp; omega
  have e3:(o+((t:Nat):Int).toNat)*1=o+t:=by simp
  have e4:bP (A.set J (pre++Zr n λx=>if x<t then -(u x) else u x)) J=o+n:=by rw[bP,hg,oH,kL,hp]
  have e6:Nat.blt (o+t) (o+n)=true:=by rw[bE]; simpa using ht
  have e7:bR (A.set J (pre++Zr n λx=>if x<t then -(u x) else u x)) J (o+t) ByteArray.empty=Zn (u t):=by rw[bR,hg,vL hp,BB _ ht]; simp
  have e9:lL (A.set J (pre++Zr n λx=>if x<t then -(u x) else u x)) J (o+t) (Zn (-(u t)))=A.set J (pre++Zr n λx=>if x<t+1 then -(u x) else u x):=by
   rw[lL,hg,List.set_set,I1 hp];exact oZ (λl=>A.set J (pre++l)) (KW u (λx=>-(u x)) t ht)
  have m1:=CL (u t) (Nat.lt_of_le_of_lt (ok t ht) (by decide));have e10:=aT t (by omega);simp only[eN,e1,oC,e2,e3,e6,e4,e7,m1,aD,e9,e10]
 ·have e1:ltI (n:Int) (n:Int)=false:=by rw[aE]; simp
  simp only[eN,e1,oD];have:Zr n (λx=>if x<n then -(u x) else u x)=Zr n λx=>-(u x):=vN λi hi=>by simp[hi]
  rw[this]
theorem zM {σ τ:Type} {step:σ->Option (σ⊕τ)} {N:Nat} (m:Nat) (I:Nat->σ->Prop) (Q:τ->Prop) (hN:m<N) (x:σ) (h0:I 0 x) (h:∀ t x,t<m->I t x->∃ y,step x=some (.inl y)/\I (t+1) y) (he:∀ x,I m x->∃ z,step x=some (.inr z)/\Q z) :
  ∃ z,aO step N x=some z/\Q z:=by
 have key:∀ (j t:Nat) (x:σ) (N:Nat),t+j=m->j<N->I t x->∃ z,aO step N x=some z/\Q z:=by
  intro j
  induction j with
  | zero =>
   intro t x N ht hN hI;have:t=m:=by omega
   subst this;obtain⟨N,rfl⟩:∃ M,N=M+1:=⟨N-1,by omega⟩;obtain⟨z,h1,h2⟩:=he x hI;exact⟨z,by rw[aV,h1],h2⟩
  | succ j ih =>
   intro t x N ht hN hI;obtain⟨N,rfl⟩:∃ M,N=M+1:=⟨N-1,by omega⟩;obtain⟨y,h1,h2⟩:=h t x (by omega) hI;obtain⟨z,h3,h4⟩:=ih (t+1) y N (by omega) (by omega) h2;exact⟨z,by rw[aV,h1]; exact h3,h4⟩
 grind
structure dP (o k n:Nat) (m:List (Nat×Nat×Nat)) (A:List (List ByteArray)) (J:Nat->Nat) (M:Nat->V):Prop where
 ml:m=(List.range k).map λi=>(J i,o,n)
 at_:∀ i,i<k->∃ pre:List ByteArray,pre.length=o/\A[J i]?=some (pre++Zr n (M i))
 inj:∀ i j,i<k->j<k->J i=J j->i=j
section
variable {o k n:Nat} {m:List (Nat×Nat×Nat)} {A:List (List ByteArray)} {J:Nat->Nat} {M:Nat->V}
theorem dP.len (h:dP o k n m A J M):m.length=k:=by rw[h.ml]; simp
theorem dP.get (h:dP o k n m A J M){i}(hi:i<k):m.getD i (0,0,0)=(J i,o,n):=by rw[h.ml]; grind
theorem dP.bP (h:dP o k n m A J M){i}(hi:i<k):bP A (J i)=o+n:=by
 obtain⟨pre,h1,h2⟩:=h.at_ i hi;rw[PM.bP,yL _ h2,oH,kL,h1]
theorem dP.bR (h:dP o k n m A J M){i c}(hi:i<k)(hc:c<n):bR A (J i) (o+c) ByteArray.empty=Zn (M i c):=by
 obtain⟨pre,h1,h2⟩:=h.at_ i hi;rw[PM.bR,yL _ h2,vL h1,BB _ hc]
theorem dP.DL (h:dP o k n m A J M){i}(hi:i<k) r {pre}(hp:pre.length=o):dP o k n m (A.set (J i) (pre++Zr n r)) J (up M i r) where
 ml:=h.ml
 at_:=λj hj=>by
  by_cases e:j=i
  ·subst e;obtain⟨pre',h1,h2⟩:=h.at_ j hj;exact⟨pre,hp,by rw[List.getElem?_set_self (oO.1 h2).1,tR]⟩
  ·obtain⟨pre',h1,h2⟩:=h.at_ j hj;exact⟨pre',h1,by rw[List.getElem?_set_ne (λe'=>e (h.inj i j hi hj e').symm),qK _ _ e]; grind⟩
 inj:=h.inj
theorem dP.less (h:dP o k n m A J M)(hn:n<1048576){i d}(hi:i<k)(hd:d<k)(hne:i≠d) q (ok:DS n (M i) (M d) q) :
  ∃ A',gA () ((J i,o,n),Zn q,(J d,o,n),()) A=some ((),A')/\dP o k n m A' J (up M i λx=>M i x-q*M d x):=by
 obtain⟨pre,h1,h2⟩:=h.at_ i hi;obtain⟨pre',h3,h4⟩:=h.at_ d hd;exact⟨_,OC hn (λe=>hne (h.inj i d hi hd e)) h1 h3 h2 h4 ok,h.DL hi _ h1⟩
theorem dP.neg (h:dP o k n m A J M)(hn:n<1048576){i}(hi:i<k)(ok:∀ x,x<n->Lib.nDigits (M i x).natAbs<=j3) :
  ∃ A',eX () ((J i,o,n),()) A=some ((),A')/\dP o k n m A' J (up M i λx=>-(M i x)):=by
 obtain⟨pre,h1,h2⟩:=h.at_ i hi;exact⟨_,negate_eq hn h1 h2 ok,h.DL hi _ h1⟩
theorem dP.swap (h:dP o k n m A J M){a b}(ha:a<k)(hb:b<k):dP o k n ((m.set a (J b,o,n)).set b (J a,o,n)) A (λi=>if i=a then J b else if i=b then J a else J i) (swp M a b) where
 ml:=by
  refine List.ext_getElem? λi=>?_
  have hl:=h.len;rw[List.getElem?_map]
  by_cases e1:i=b
  ·grind
  ·rw[List.getElem?_set_ne (Ne.symm e1)]
   by_cases e2:i=a
   ·grind
   ·rw[List.getElem?_set_ne (Ne.symm e2),h.ml,List.getElem?_map];grind
 at_:=λi hi=>by
  by_cases e1:i=a
  ·subst e1;simp only[if_true,swp];exact h.at_ b hb
  ·by_cases e2:i=b
   ·subst e2;simp only[e1,if_false,if_true,swp];exact h.at_ a ha
   ·simp only[e1,e2,if_false,swp];exact h.at_ i hi
 inj:=λi j hi hj e=>by
  have key:∀ i,i<k->(if i=a then J b else if i=b then J a else J i)=J (if i=a then b else if i=b then a else i):=λi _=>by grind
  simp only[key i hi,key j hj]at e;have lt:∀ i,i<k->(if i=a then b else if i=b then a else i)<k:=λi hi=>by grind
  have:=h.inj _ _ (lt i hi) (lt j hj) e;grind
end
def atv:Option Nat->Int
 | none=>-1
 | some a=>a
structure KX (M:Nat->V) (c d t:Nat) (r:Option Nat):Prop where
 none:r=Option.none->∀ i,d<=i->i<d+t->M i c=0
 some:∀ a,r=Option.some a->d<=a/\a<d+t/\M a c≠0/\∀ i,d<=i->i<d+t->M i c≠0->(M a c).natAbs<=(M i c).natAbs
def Cm(k n:Nat) (M:Nat->V):Prop:=∀ i,i<k->∀ x,x<n->Lib.nDigits (M i x).natAbs<=j3
theorem FR {o k n m A J M}(h:dP o k n m A J M)(hk:k<1048576)(hc:Cm k n M){c d}(hcn:c<n)(hd:d<=k)(cols:Int) :
  ∃ r,gO (m,cols,(d:Int),(c:Int),-1,(d:Int),A,())=some (m,cols,(d:Int),(c:Int),atv r,A,())/\KX M c d (k-d) r:=by
 have:=zM (step:=bU) (N:=2^64) (k-d)
  (λt x=>∃ r,x=(m,cols,(d:Int),(c:Int),atv r,((d+t:Nat):Int),A,())/\KX M c d t r)
  (λz=>∃ r,z=(m,cols,(d:Int),(c:Int),atv r,A,())/\KX M c d (k-d) r) (by omega) (m,cols,(d:Int),(c:Int),-1,(d:Int),A,())
  ⟨none,rfl,⟨λ_ i h1 h2=>by omega,λa ha=>by cases ha⟩⟩ ?_ ?_
 ·obtain⟨z,h1,r,rfl,h2⟩:=this;exact⟨r,h1,h2⟩
 ·rintro t x ht ⟨r,rfl,hr⟩;have hi:d+t<k:=by omega
  have e1:ltI ((d+t:Nat):Int) (m.length:Int)=true:=by rw[aE,h.len]; simp; omega
  have e2:aF ((d+t:Nat):Int) m.length=true:=by rw[aG,h.len]; simp; omega
  have e3:(((d+t:Nat):Int)).toNat=d+t:=oN _;have e4:Nat.blt (d+t) m.length=true:=by rw[bE,h.len]; simpa using hi
  have e5:aF (c:Int) n=true:=by rw[aG]; simp; omega
  have e6:(o+((c:Nat):Int).toNat)*1=o+c:=by simp
  have e7:Nat.blt (o+c) (o+n)=true:=by rw[bE]; simpa using hcn
  have e8:=aT (d+t) (by omega);have e9:=h.get hi;have e10:=h.bP hi;have e11:=h.bR hi hcn
  by_cases hz:M (d+t) c=0
  ·refine⟨_,?_,r,rfl,⟨λhr0 i h1 h2=>?_,λa ha=>?_⟩⟩
   ·have e12:eqS (Zn (M (d+t) c)) (ByteArray.mk #[48])=true:=by rw[tJ]; simp[hz]
    simp only[bU,e1,e2,e3,e4,e9,e5,e6,e10,e7,e11,e12,e8,oC,Bool.not_true,oD];rfl
   ·by_cases e:i=d+t
    ·grind
    ·exact hr.none hr0 i h1 (by omega)
   ·obtain⟨q1,q2,q3,q4⟩:=hr.some a ha;grind
  ·have e12:eqS (Zn (M (d+t) c)) (ByteArray.mk #[48])=false:=by rw[tJ]; simp[hz]
   cases r with
   | none =>
    have e13:ltI (atv none) 0=true:=by decide
    refine⟨_,?_,some (d+t),rfl,⟨λhr0=>by (cases hr0),λa ha=>?_⟩⟩
    ·simp only[bU,e1,e2,e3,e4,e9,e5,e6,e10,e7,e11,e12,e8,oC,Bool.not_false,e13];rfl
    ·obtain rfl:=oB ha;refine⟨by omega,by omega,hz,λi h1 h2 h3=>?_⟩
     by_cases e:i=d+t
     ·subst e; exact oM _
     ·exact absurd (hr.none rfl i h1 (by omega)) h3
   | some a =>
    obtain⟨q1,q2,q3,q4⟩:=hr.some a rfl;have ha:a<k:=by omega
    have e13:ltI (atv (some a)) 0=false:=by rw[aE]; exact oF (by unfold atv; dsimp only; omega)
    have f2:aF (atv (some a)) m.length=true:=by rw[aG,h.len]; simp[atv]; omega
    have f3:(atv (some a)).toNat=a:=by simp[atv]
    have f4:Nat.blt a m.length=true:=by rw[bE,h.len]; simpa using ha
    have f9:=h.get ha;have f10:=h.bP ha;have f11:=h.bR ha hcn;have c1:=C6 (M (d+t) c);have c2:=C6 (M a c);have c3:=B9 (M (d+t) c).natAbs (M a c).natAbs (Nat.lt_of_le_of_lt (hc _ hi c hcn) (by decide)) (Nat.lt_of_le_of_lt (hc _ ha c hcn) (by decide))
    by_cases hl:(M (d+t) c).natAbs<(M a c).natAbs
    ·have c4:ltI (wS (M (d+t) c).natAbs (M a c).natAbs) 0=true:=by rw[aE,wS,if_pos hl]; rfl
     refine⟨_,?_,some (d+t),rfl,⟨λhr0=>by (cases hr0),λb hb=>?_⟩⟩
     ·simp only[bU,e1,e2,e3,e4,e9,e5,e6,e10,e7,e11,e12,e8,oC,Bool.not_false,e13,oD,f2,f3,f4,f9,f10,f11,c1,c2,c3,c4,aD];rfl
     ·obtain rfl:=oB hb;refine⟨by omega,by omega,hz,λi h1 h2 h3=>?_⟩
      by_cases e:i=d+t
      ·subst e; exact oM _
      ·have:=q4 i h1 (by omega) h3; omega
    ·have c4:ltI (wS (M (d+t) c).natAbs (M a c).natAbs) 0=false:=by
      rw[aE,wS,if_neg hl]; split <;> rfl
     refine⟨_,?_,some a,rfl,⟨λhr0=>by (cases hr0),λb hb=>?_⟩⟩
     ·simp only[bU,e1,e2,e3,e4,e9,e5,e6,e10,e7,e11,e12,e8,oC,Bool.not_false,e13,oD,f2,f3,f4,f9,f10,f11,c1,c2,c3,c4,aD];rfl
     ·obtain rfl:=oB hb;refine⟨q1,by omega,q3,λi h1 h2 h3=>?_⟩
      by_cases e:i=d+t
      ·subst e; omega
      ·exact q4 i h1 (by omega) h3
 ·rintro x ⟨r,rfl,hr⟩;have e1:ltI ((d+(k-d):Nat):Int) (m.length:Int)=false:=by rw[aE,h.len]; simp; omega
  refine⟨_,?_,r,rfl,hr⟩;simp only[bU,e1,oD]
end Go.PM
