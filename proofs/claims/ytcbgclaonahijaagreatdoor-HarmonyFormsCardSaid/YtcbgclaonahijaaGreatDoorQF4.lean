/- Texts of one proof, joined (4). -/
import Derived.Scope
import Derived.Test.YtcbgclaonahijaaGreatDoorQF3
set_option linter.unusedSimpArgs false
set_option linter.unusedVariables false
set_option linter.defProp false
noncomputable section
namespace Go.PM
open Go Go.RowKit
def aYR(m:List Nat) (es:List Edge):Nat:=es.foldl (λs e=>bif Region.binds .any e then s ||| (2^e.on ||| m.getD e.on 0) else s) 0
def aGY(m:List Nat):Nat->List Oper->Bool| _,[]=>true| j,o::l=>Nat.beq (m.getD j 0) (aYR m o.after.toList)&&o.after.toList.all (λe=>!Region.binds .any e||Nat.blt e.on j)&&aGY m (j+1) l
def aXP(ops:Array Oper)(m:List Nat)(j:Nat)(oj:Oper):Nat->List Oper->Bool| _,[]=>true| i,oi::l=>bif Nat.blt i j then ((m.getD j 0).testBit i||oi.apart ops oj)&&aXP ops m j oj (i+1) l else true
def aXQ(ops:Array Oper)(m:List Nat):Nat->List Oper->Bool| _,[]=>true| j,oj::l=>aXP ops m j oj 0 ops.toList&&aXQ ops m (j+1) l
def qO(ops:Array Oper):List Nat:=(Region.before ops).toList
def aF8(ops:Array Oper):Bool:=aGY (qO ops) 0 ops.toList&&aXQ ops (qO ops) 0 ops.toList
def bJW(F:Frm) (o:Oper):Option Nat:=match o.op with
 | .load _ a=>match ev F a with
  | .hptr r _=>some r
  | _=>none
 | .store _ a _=>match ev F a with
  | .hptr r _=>some r
  | _=>none
 | _=>none
def aKR:Option Nat->Option Nat->Bool| some a,some b=>!Nat.beq a b| _,_=>false
abbrev bSX:=List (Nat×Nat×Option Nat)
def b0N:List Nat:=[]
def a1C:Op->Bool
 | .call c=>match c.callee with
  | .value (.func g)=>aRW b0N g
  | _=>false
 | _=>false
def isVar(o:Oper):Bool:=match o.guard,o.op,o.dst with| none,.alloc _,some _=>true| _,_,_=>false
def a2Z(o:Oper):Bool:=match o.guard,o.dst with| none,some _=>a1C o.op| _,_=>false
def aTG(o:Oper):Bool:=isVar o||a2Z o
def bVT:List Oper->Nat| []=>0| o::r=>bif a2Z o then bVT r+1 else bVT r
def aPZ(X:Heap)(q:Nat):Bool:=match X[q]? with|some none=>true|_=>false
def aPM {X q}:aPZ X q=true↔X[q]?=some none:=by
 unfold aPZ;grind
def a8Z:Option Tg->Bool| some g=>g.t.plain| none=>false
def bDC(q:Nat) (v:PV) (X H:Heap):Option (PV×Heap×Nat):=match X with
 | []=>bif eM v&&gP v then some (v,H,0) else none
 | [some k]=>match v with
  | .own r sz=>bif Nat.beq r 0&&Nat.blt q H.length&&aPZ H q&&a8Z k.tag then some (.own q sz,H.set q (some k),2) else none
  | _=>none
 | _=>none
def bFM:List Oper->Nat| []=>0| o::r=>bif aTG o then bFM r+1 else bFM r
def aBO(m:Option Nat)(o:Oper)(k:Nat):Option Nat:=match m with| none=>none| some b=>bif aTG o then some (b+k) else none
def stepT(r:Option Nat)(P:Program)(cl:Callee)(l:List Oper)(o:Oper)(F:Frm)(H:Heap):Option (PV×Heap×Nat):=match r with
 | none=>I9 P cl l o F H
 | some q=>match o.op with
  | .alloc t=>match N6 P t with
   | some z=>bif Nat.blt q H.length then some (.hptr q 0,H.set q (some ⟨lits z.cells,t,false,false,none⟩),2) else none
   | none=>none
  | .call _=>bif eM.noRefs (o.op.operands.toList.map (ev F))&&gP.noRows (o.op.operands.toList.map (ev F)) then match I9 P cl l o F []with
    | some (v,X,_)=>bDC q v X H
    | none=>none
   else none
  | _=>none
def a0H(r:Option Nat)(F:Frm)(o:Oper):Option Nat:=match r with| none=>bJW F o| some q=>some q
def inP(p:Nat->Bool):PV->Bool| .hptr r _=>p r| .hs r _ _ _ _=>p r| .own r _=>p r| .op r _ _ _=>p r| .win r _ _ _=>p r| .qs r _=>p r| .agg cs|.tuple cs=>inPs p cs| .clo _ f c=>inPs p f&&inPs p c| _=>true
where inPs (p:Nat->Bool):List PV->Bool
 | []=>true
 | q::qs=>inP p q&&inPs p qs
def bOR(b m r:Nat):Bool:=Nat.blt r b||(Nat.ble b r&&Nat.testBit m (r-b))
def bP5(p:Nat->Bool):Option Blk->Bool| some k=>k.tag.isSome||inP.inPs p k.cells| none=>true
def a74(p:Nat->Bool):Heap->Bool| []=>true| x::r=>bP5 p x&&a74 p r
def b2I(p:Nat->Bool)(q:Option Nat)(c:Nat)(H:Heap):Bool:=bif Nat.blt 1 c then (match q with| some q=>bP5 p (iN H q)| none=>a74 p H) else true
def okT(m:Option Nat)(mk k:Nat)(q:Option Nat)(c:Nat)(v:PV)(H:Heap):Bool:=match m with| none=>true| some b=>inP (bOR b (mk ||| 2^k)) v&&b2I (bOR b (mk ||| 2^k)) q c H
def bCA(b:Nat):Frm->Bool| []=>true|(_,p)::r=>below b p&&bCA b r
def bPE:List Oper->Bool| []=>false| o::r=>(match o.op with|.load ..=>true|_=>false)||bPE r
def bW0(l:List Oper):List Oper->Bool| []=>true| o::r=>(match o.op with| .makeSlice ..=>bTN l o.dst| .box ..|.buildSlice ..=>false| .call c=>(match c.callee with|.builtin .append|.builtin .copy|.builtin .clear=>false|_=>true)| _=>true)&&bW0 l r
def b1F(l:List Oper):Bool:=Nat.blt 0 (bFM l)&&bPE l&&bW0 l l
def aWI(ops:Array Oper)(H:Heap):Option Nat:=bif Nat.blt 0 (bVT ops.toList)||Nat.blt 1 (bFM ops.toList)||b1F ops.toList then some H.length else none
def bXD(m:Option Nat)(n:Nat)(H:Heap):Heap:=match m with| none=>H| some _=>H++List.replicate n none
def bHT(m:Option Nat)(F:Frm)(H:Heap):Bool:=match m with| none=>true| some b=>bCA b F&&aJ8 b H
def aO2(P:Program)(cl:Callee)(nt:Nat)(m:Option Nat)(ms:List Nat)(l:List Oper)(F:Frm)(H:Heap):Nat->Option (Frm×Heap×bSX)
 | 0=>some (F,H,[])
 | k+1=>match aO2 P cl nt m ms l F H k with
  | some (F,H,hl)=>match l[k]? with
   | some o=>match stepT (aBO m o k) P cl l o F H with
    | some (v,H',c)=>bif okT m (ms.getD k 0) k (a0H (aBO m o k) F o) c v H' then (fPV v λv=>match aER nt F o.dst v with
     | some F'=>bif Nat.beq c 0 then some (F',H',hl) else aYD H' λH'=>some (F',H',(k,c,a0H (aBO m o k) F o)::hl)
     | none=>none) else none
    | none=>none
   | none=>none
  | none=>none
def bQG(m:List Nat)(j:Nat)(d:Nat)(b:Option Nat):bSX->Bool| []=>true|(i,c,b')::r=>(!(Nat.blt 1 c||Nat.blt 1 d)||aKR b b'||(m.getD j 0).testBit i)&&bQG m j d b r
def aRY(m:List Nat):bSX->Bool| []=>true|(j,d,b)::r=>bQG m j d b r&&aRY m r
def aKD(P:Program)(cl:Callee)(nt:Nat)(ops:Array Oper)(F:Frm)(H:Heap):Option (Frm×Heap) :=bif aF8 ops&&bHT (aWI ops H) F H then match aO2 P cl nt (aWI ops H) (qO ops) ops.toList F (bXD (aWI ops H) ops.toList.length H) ops.toList.length with| some (F',H',hl)=>bif aRY (qO ops) hl then some (F',H') else none| none=>none else none
def bC8 {P cl nt md ms l F H}:∀ {n F' H' hl},aO2 P cl nt md ms l F H n=some (F',H',hl)->∃ news ,F'=news++F/\news.length=a5H (l.take n)
 | 0,F',H',hl,h=>by
  simp only[aO2,oJ,oP]at h;exact⟨[],h.1.symm,rfl⟩
 | n+1,F',H',hl,h=>by
  simp only[aO2]at h;split at h
  next F1 H1 hl1 h1=>
   have⟨n1,e1,l1⟩:=bC8 h1;split at h
   ·rename_i o ho;split at h
    ·rename_i v H2 c hs;have⟨_,h⟩:=aJ h;rw[aG7]at h;split at h
     ·rename_i F2 hp;rw[NY]at h;have⟨n2,e2,l2⟩:=bCB hp;have he:F'=F2:=W
      refine⟨n2++n1,by rw[he,e2,e1,List.append_assoc],?_⟩;have hd:∀ (a:List Oper) (b:Oper),a5H (a++[b])=a5H a+b14 b.dst:=by
       intro a b
       induction a with
       | nil=>simp only[List.nil_append,a5H]; generalize b.dst=d; cases d <;> rfl
       | cons x a ih =>
        simp only[List.cons_append,a5H];grind
      have⟨hlt,iN⟩:=oO.1 ho;rw[List.take_succ_eq_append_getElem hlt,iN,hd,oH,l1,l2];omega
     ·cases h
    ·cases h
   ·cases h
  ·cases h
def bF5 {P cl nt ops F F' H H'}(h:aKD P cl nt ops F H=some (F',H')):∃ news ,F'=news++F/\news.length=a5H ops.toList:=by
 have⟨_,h⟩:=aJ h;split at h
 next e d b a=>
  cases c:aRY (qO ops) b with
  | false=>grind
  | true =>
   have:=bC8 a;grind
 grind
def aE2 {m:List Nat}{b}:∀ (es:List Edge) s,(es.foldl (λs e=>bif Region.binds .any e then s ||| (2^e.on ||| m.getD e.on 0) else s) s).testBit b=true ->
  s.testBit b=true\/∃ e∈es,Region.binds .any e=true/\(b=e.on\/(m.getD e.on 0).testBit b=true)
 | [],s,h=>.inl h
 | e::es,s,h=>by
  rcases aE2 es _ h with h1|⟨e',h1,h2⟩
  ·grind
  grind
def a15 {m}:∀ {l j i o},aGY m j l=true->l[i]?=some o->m.getD (j+i) 0=aYR m o.after.toList/\∀ e∈o.after,Region.binds .any e=true->e.on<j+i
 | [],j,i,o,_,ho=>W
 | p::l,j,i,o,h,ho=>by
  simp only[aGY,oA,List.all_eq_true]at h;have⟨⟨b,a⟩,c⟩:=h;cases i with
  | zero =>
   simp only[List.getElem?_cons_zero,oJ]at ho;subst ho;refine⟨oE b,λe he d=>?_⟩;have:=a e (Array.mem_toList_iff.2 he)
   simp_all
  | succ i =>
   have:=a15 c (by simpa using ho);grind
def a8O {ops m j oj}:∀ {l k i oi},aXP ops m j oj k l=true->l[i]?=some oi->k+i<j->(m.getD j 0).testBit (k+i)=true\/oi.apart ops oj=true
 | [],k,i,oi,_,ho,_=>by simp at ho
 | p::l,k,i,oi,h,ho,hlt=>by
  simp only[aXP]at h;have a:Nat.blt k j=true:=Nat.ble_eq_true_of_le Z;rw[a]at h;simp only[oC,oA]at h;cases i with
  | zero =>
   grind
  | succ i =>
   have:=a8O (i:=i) h.2 (by simpa using ho) Z;grind
def a3K {ops m}:∀ {l k j oj},aXQ ops m k l=true->l[j]?=some oj->aXP ops m (k+j) oj 0 ops.toList=true
 | [],k,j,oj,_,ho=>W
 | p::l,k,j,oj,h,ho=>by
  simp only[aXQ,oA]at h;cases j with
  | zero =>
   grind
  | succ j =>
   have:=a3K h.2 (by simpa using ho);grind
section
variable {P:Program} {cl:Callee} {n0:Nat->Prop} {nt:Nat} {wi:World} {Gi:Gd} {μi:Mp} {ops:Array Oper} {F:Frm} {H:Heap}
structure Trace (P:Program) (cl:Callee) (nt:Nat) (ops:Array Oper) (F:Frm) (H:Heap) (F':Frm) (H':Heap) where
 Fs:Nat->Frm
 Hs:Nat->Heap
 vs:Nat->PV
 cs:Nat->Nat
 f0:Fs 0=F
 h0:Hs 0=H
 fn:Fs ops.size=F'
 hn:Hs ops.size=H'
 md:Option Nat
 step:∀ i o,ops[i]?=some o->stepT (aBO md o i) P cl ops.toList o (Fs i) (Hs i)=some (vs i,Hs (i+1),cs i)/\aER nt (Fs i) o.dst (vs i)=some (Fs (i+1))/\okT md ((qO ops).getD i 0) i (a0H (aBO md o i) (Fs i) o) (cs i) (vs i) (Hs (i+1))=true
 bs:Nat->Option Nat
 hbs:∀ i o,ops[i]?=some o->bs i=a0H (aBO md o i) (Fs i) o
 hits:∀ i j,i<j->j<ops.size->cs i≠0->cs j≠0->1<cs i\/1<cs j->aKR (bs j) (bs i)=true\/((qO ops).getD j 0).testBit i=true
 loc:∀ i o q,ops[i]?=some o->bs i=some q->cs i≠0->∀ H2:Heap,H2[q]?=(Hs i)[q]?->∃ H3 c,stepT (aBO md o i) P cl ops.toList o (Fs i) H2=some (vs i,H3,c)/\H3=if 1<cs i then H2.set q (((Hs (i+1))[q]?).getD none) else H2
def bKD {md ms l}:∀ {n k r},aO2 P cl nt md ms l F H n=some r->k<=n->∃ s,aO2 P cl nt md ms l F H k=some s
 | 0,k,r,h,hk=>W
 | n+1,k,r,h,hk=>by
  rcases oG k (n+1)with hl|hl
  ·simp only[aO2]at h;split at h
   next s hs=>exact bKD hs Z
   grind
  grind
def bCU {m j d b}:∀ {hl i c b'},bQG m j d b hl=true->(i,c,b')∈hl->1<c\/1<d->aKR b b'=true\/(m.getD j 0).testBit i=true
 | [],i,c,_,_,h,_=>W
 | (i',c',b0)::r,i,c,b',h,hm,hc=>by
  simp only[bQG,oA,Bool.or_eq_true,Bool.not_eq_true',Bool.or_eq_false_iff]at h;rcases List.mem_cons.1 hm with he|hm
  ·rcases h.1 with (⟨h1,h2⟩|h1)|h1
   ·rcases hc with hc|hc
    ·have:Nat.blt 1 _=true:=Nat.ble_eq_true_of_le hc;grind
    ·have:Nat.blt 1 d=true:=Nat.ble_eq_true_of_le hc;grind
   ·grind
   grind
  ·exact bCU h.2 hm hc
def bNF {H H2 q}(h:H2[q]?=H[q]?):iN H2 q=iN H q:=by unfold iN; grind
def bNP {l:List Oper} {o:Oper} {F:Frm} {H H':Heap} {v:PV} {c q:Nat} (h:I9 P cl l o F H=some (v,H',c)) (d:bJW F o=some q) (D:c≠0) (j:Heap) (C:j[q]?=H[q]?) :
  ∃ A c',I9 P cl l o F j=some (v,A,c')/\A=if 1<c then j.set q ((H'[q]?).getD none) else j:=by
 have i:=bNF C;unfold bJW at d;split at d
 next t a m=>
  split at d
  next r off f=>
   obtain rfl:=oB d;have hm:mkData P F l o=none:=(by simp only[mkData,m])
   have hz:∀ H,opz P cl l F H o=match aP7 P H t (.hptr r off)with|some (v,c)=>some (v,H,c)|none=>none:=λH=>by simp only[opz,m,opx,typed,f,bBV,oD,opu]; rfl
   unfold I9 at h ⊢;rw[hm]at h ⊢;split at h
   ·simp only[hz]at h ⊢;have B:aP7 P j t (.hptr r off)=aP7 P H t (.hptr r off):=(by simp only[aP7,i]);rw[B];cases b:aP7 P H t (.hptr r off)with
    | none=>rw[b]at h; cases h
    | some p =>
     have⟨v1,c1⟩:=p;rw[b]at h;simp only[oJ,oP]at h;obtain⟨rfl,rfl,rfl⟩:=h;have E:c1=1:=by
      simp only[aP7]at b;grind
     grind
   grind;cases h
  cases d
 next t a x m=>
  split at d
  next r off f=>
   obtain rfl:=oB d;have hm:mkData P F l o=none:=(by simp only[mkData,m])
   have hz:∀ H,opz P cl l F H o=match a16 P H t (.hptr r off) (ev F x)with|some H'=>some (.lit undef,H',2)|none=>none:=λH=>by simp only[opz,m,opx,typed,f,bBV,oD,opu]; rfl
   unfold I9 at h ⊢;rw[hm]at h ⊢;split at h
   ·simp only[hz]at h ⊢;cases b:a16 P H t (.hptr r off) (ev F x)with
    | none=>rw[b]at h; cases h
    | some H1 =>
     rw[b]at h;obtain⟨rfl,rfl,rfl⟩:=h;unfold a16 at b ⊢;cases e:DO (ev F x)with
     | none=>rw[e]at b; cases b
     | some new =>
      cases s:BL P t with
      | none=>rw[e,s]at b; cases b
      | some n =>
       rw[e,s]at b;simp only at b ⊢;have⟨z,b⟩:=aJ b;rw[z,oC];unfold aVY at b ⊢;rw[i];cases g:iN H r with
       | none=>rw[g]at b; cases b
       | some k =>
        rw[g]at b;simp only at b ⊢;have⟨y,b⟩:=aJ b;rw[y,oC];obtain rfl:=oB b;refine⟨_,_,rfl,?_⟩;have u:r<H.length:=by
         unfold PM.iN at g;split at g
         next k' w=> exact(oO.1 w).1
         ·cases g
        rw[List.getElem?_set_self u]; rfl
   simp only[oJ,oP]at h;exact absurd h.2.2.symm D;cases h
  cases d
 cases d
def aHA {q v X H v' H' c}(h:bDC q v X H=some (v',H',c)):(∃ sz k,v=.own 0 sz/\X=[some k]/\v'=.own q sz/\H'=H.set q (some k)/\c=2/\q<H.length/\H[q]?=some none/\a8Z k.tag=true) \/
  (X=[]/\(eM v&&gP v)=true/\v'=v/\H'=H/\c=0):=by
 unfold bDC at h;split at h;grind;rename_i k;split at h;rename_i r sz;have⟨b,h⟩:=aJ h;simp only[oA]at b;have⟨⟨⟨a,d⟩,e⟩,f⟩:=b;have a:=oE a;obtain⟨rfl,rfl,rfl⟩:=h;exact .inl ⟨sz,k,by grind,rfl,rfl,rfl,rfl,gE d,aPM.1 e,f⟩;grind;grind
def bRX {r l o F H H' v c q}(h:stepT r P cl l o F H=some (v,H',c))(i:a0H r F o=some q)(j:c≠0) H2 (f:H2[q]?=H[q]?) :
  ∃ g c',stepT r P cl l o F H2=some (v,g,c')/\g=if 1<c then H2.set q ((H'[q]?).getD none) else H2:=by
 cases r with
 | none=>exact bNP h i j H2 f
 | some e =>
  obtain rfl:=oB (show some e=some q from i);simp only[stepT]at h ⊢;split at h
  next t p=>
   cases hz:N6 P t with
   | none=>rw[hz]at h; cases h
   | some z =>
    rw[hz]at h;simp only at h ⊢;have⟨a,h⟩:=aJ h;obtain⟨rfl,rfl,rfl⟩:=h;have a:=gE a;have b:e<H2.length:=W
    rw[if_pos O,cF,oT b,oC,List.getElem?_set_self a];grind
  ·have⟨d,h⟩:=aJ h;rw[d,oC];split at h
   ·rename_i v1 X c1 n;rcases aHA h with ⟨sz,k,rfl,rfl,rfl,rfl,rfl,h1,h2,h3⟩|⟨_,_,_,_,h0⟩
    case inr=>exact absurd h0 j
    have m:e<H2.length:=W
    rw[if_pos O,List.getElem?_set_self h1];refine⟨_,2,?_,rfl⟩;simp only[bDC,Nat.beq_refl,cF,oT m,aPM.2 (f.trans h2),h3,Bool.and_self,oC,Option.getD_some]
   ·cases h
  ·cases h
def bVH(hcl:dS P cl){md F' H' hl}(h:aO2 P cl nt md (qO ops) ops.toList F H ops.toList.length=some (F',H',hl))(hh:aRY (qO ops) hl=true):∃ T:Trace P cl nt ops F H F' H',T.md=md:=by
 have hlen:ops.toList.length=ops.size:=R;let st:Nat->Frm×Heap×bSX:=λk=>(aO2 P cl nt md (qO ops) ops.toList F H k).getD ([],[],[])
 have hst:∀ k,k<=ops.size->aO2 P cl nt md (qO ops) ops.toList F H k=some (st k):=λk hk=>by
  have⟨s,hs⟩:=bKD h (k:=k) Z;grind
 let op:Nat->PV×Heap×Nat:=λi=>match ops[i]? with|some o=>(stepT (aBO md o i) P cl ops.toList o (st i).1 (st i).2.1).getD (.junk,[],0)|none=>(.junk,[],0)
 have hop:∀ i o,ops[i]?=some o->stepT (aBO md o i) P cl ops.toList o (st i).1 (st i).2.1=some (op i)/\(op i).2.1=(st (i+1)).2.1/\aER nt (st i).1 o.dst (op i).1=some (st (i+1)).1/\(st (i+1)).2.2=(bif Nat.beq (op i).2.2 0 then (st i).2.2 else (i,(op i).2.2,a0H (aBO md o i) (st i).1 o)::(st i).2.2)/\okT md ((qO ops).getD i 0) i (a0H (aBO md o i) (st i).1 o) (op i).2.2 (op i).1 (op i).2.1=true:=(by intro i o ho;have hi:i<ops.size:=(Array.getElem?_eq_some_iff.1 ho).1;have h1:=hst (i+1) Z;simp only[aO2,hst i Z]at h1;have ho':ops.toList[i]?=some o:=(by simpa using ho);rw[ho']at h1;simp only at h1;split at h1;rename_i v H1 c hs;have he:op i=(v,H1,c):=(by simp only[op,ho,hs,Option.getD_some]);have⟨hok,h1⟩:=aJ h1;rw[aG7]at h1;split at h1;rename_i F1 hp;rw[NY]at h1;grind;cases h1;cases h1);let bk:Nat->Option Nat:=λi=>match ops[i]? with|some o=>a0H (aBO md o i) (st i).1 o|none=>none
 have hmem:∀ k,k<=ops.size->∀ i,i<k->(op i).2.2≠0->(i,(op i).2.2,bk i)∈(st k).2.2:=by
  intro k;induction k with
  | zero=>intro _ i hi; omega
  | succ k ih =>
   intro hk i hi hc;obtain⟨o,ho⟩:∃ o,ops[k]?=some o:=⟨ops[k],Array.getElem?_eq_getElem Z⟩;rw[(hop k o ho).2.2.2.1];rcases oG i k with hl|hl
   ·have:=ih Z i hl hc;cases Nat.beq (op k).2.2 0 with
    | true=>exact this
    | false=>exact List.mem_cons_of_mem _ this
   ·have:i=k:=Z
    subst this;have:Nat.beq (op i).2.2 0=false:=aTU hc;rw[this];have hbk:bk i=a0H (aBO md o i) (st i).1 o:=by simp only[bk,ho]
    rw[hbk];exact List.mem_cons_self
 have hlast:st ops.size=(F',H',hl):=(by have:=hst ops.size (oM _);rw[<- hlen,h]at this;simpa using this.symm)
 have hhits:∀ k,k<=ops.size->aRY (qO ops) (st k).2.2=true:=by
  intro k hk;obtain⟨d,rfl⟩:∃ d,k=ops.size-d:=⟨ops.size-k,by omega⟩;clear hk;induction d with
  | zero=>rw[Nat.sub_zero,hlast]; exact hh
  | succ d ih =>
   rcases Nat.eq_zero_or_pos (ops.size-d)with h0|h0
   ·have:ops.size-(d+1)=ops.size-d:=Z
    rw[this]; exact ih
   ·have e:ops.size-d=(ops.size-(d+1))+1:=Z
    obtain⟨o,ho⟩:∃ o,ops[ops.size-(d+1)]?=some o:=⟨_,Array.getElem?_eq_getElem Z⟩;have h4:=(hop _ o ho).2.2.2.1;rw[<- e]at h4;rw[h4]at ih;cases hb:Nat.beq (op (ops.size-(d+1))).2.2 0 with
    | true=>rw[hb]at ih; exact ih
    | false =>
     rw[hb]at ih;simp only[oD,aRY,oA]at ih;exact ih.2
 refine⟨⟨λi=>(st i).1,λi=>(st i).2.1,λi=>(op i).1,λi=>(op i).2.2,?_,?_,by simp only[hlast],by simp only[hlast],md,?_,bk,?_,?_,?_⟩,rfl⟩;have h0:=hst 0 (Nat.zero_le _);simp only[aO2,oJ]at h0;rw[<- h0];have h0:=hst 0 (Nat.zero_le _);simp only[aO2,oJ]at h0;rw[<- h0];intro i o ho;have⟨h1,h2,h3,_,h5⟩:=hop i o ho;exact⟨by rw[h1,<- h2],h3,by rw[<- h2]; exact h5⟩;intro i o ho;simp only[bk,ho];intro i j hij hj hi hcj hc;obtain⟨o,ho⟩:∃ o,ops[j]?=some o:=⟨ops[j],Array.getElem?_eq_getElem hj⟩;have h1:=hhits (j+1) Z;rw[(hop j o ho).2.2.2.1,aTU hcj]at h1;simp only[oD,aRY,oA]at h1;have hbk:bk j=a0H (aBO md o j) (st j).1 o:=(by simp only[bk,ho]);rw[hbk];exact bCU h1.1 (hmem j Z i hij hi) hc;intro i o q ho hq hc H2 h2;have⟨h1,h3,_,_,_⟩:=hop i o ho;have hbk:bk i=a0H (aBO md o i) (st i).1 o:=(by simp only[bk,ho]);have h4:stepT (aBO md o i) P cl ops.toList o (st i).1 (st i).2.1=some ((op i).1,(st (i+1)).2.1,(op i).2.2):=(by rw[h1,<- h3]);exact bRX h4 (hbk ▸ hq) hc H2 h2
section
variable {F':Frm} {H':Heap}
def aJJ(ops:Array Oper)(i:Nat):Option Tmp:=(ops[i]?).bind (·.dst)
def DM(T:Trace P cl nt ops F H F' H')(S:Nat->Bool)(t:Nat):Nat->PV| 0=>cR F t| k+1=>if S k=true/\aJJ ops k=some t then T.vs k else DM T S t k
def aNK(T:Trace P cl nt ops F H F' H')(k:Nat)(H2:Heap):Heap:=match T.bs k with| some q=>H2.set q (((T.Hs (k+1))[q]?).getD none)| none=>T.Hs (k+1)
def gT(T:Trace P cl nt ops F H F' H')(S:Nat->Bool):Nat->Heap| 0=>H| k+1=>if S k=true/\1<T.cs k then aNK T k (gT T S k) else gT T S k
variable (T:Trace P cl nt ops F H F' H')
def bK8 {nt F F' d v}(h:aER nt F d v=some F') t:cR F' t=if d=some t then v else cR F t:=by
 cases d with
 | none=>simp only[aER,oJ]at h; grind
 | some u =>
  simp only[aER]at h;cases a:Nat.blt u nt with
  | false=>grind
  | true =>
   rw[a]at h;simp only[oC,oJ]at h;subst h;rw[eY];grind
def aW3 t:∀ k,k<=ops.size->DM T (λ_=>true) t k=cR (T.Fs k) t
 | 0,_=>by rw[DM,T.f0]
 | k+1,hk=>by
  obtain⟨o,a⟩:∃ o,ops[k]?=some o:=⟨ops[k],Array.getElem?_eq_getElem Z⟩;rw[DM,aW3 t k Z,bK8 (T.step k o a).2.1 t];simp only[aJJ,a,Option.bind_some,true_and]
def aFG {S S'}{t:Nat}:∀ {k},(∀ j,j<k->aJJ ops j=some t->S j=S' j)->DM T S t k=DM T S' t k
 | 0,_=>rfl
 | k+1,h=>by
  rw[DM,DM,aFG λj a=>h j Z];grind
def aKM {S}{t k:Nat}:∀ {n},k<=n->(∀ j,k<=j->j<n->aJJ ops j=some t->S j=false)->DM T S t n=DM T S t k
 | 0,hk,_=>W
 | n+1,hk,h=>by
  rcases oG k (n+1)with hl|hl
  ·rw[DM,aKM Z λj a b=>h j a Z,if_neg];grind
  grind
def bLQ(a:dS P cl){l o F H H' v c}(h:I9 P cl l o F H=some (v,H',c)):(c<=1->H'=H)/\(c=0->∀ b,I9 P cl l o F b=some (v,b,0)):=by
 unfold I9 at h ⊢;split at h;split at h;have⟨e,d⟩:=bY0 a h;grind;grind;grind;grind;grind
def a0Q(e:dS P cl){r l o F H H' v c}(h:stepT r P cl l o F H=some (v,H',c)):(c<=1->H'=H)/\(c=0->∀ d,stepT r P cl l o F d=some (v,d,0)):=by
 cases r with
 | none=>exact bLQ e h
 | some q =>
  simp only[stepT]at h;split at h
  ·grind
  next g a=>
   have⟨b,h⟩:=aJ h;split at h
   ·rename_i v1 X c1 f;rcases aHA h with ⟨_,_,_,_,_,_,rfl,_⟩|⟨rfl,h1,rfl,rfl,rfl⟩
    ·simp
    ·refine⟨λ_=>rfl,λ_ d=>?_⟩;simp only[stepT,a];rw[<- a,b,oC,f];simp only[bDC,h1,oC]
   grind
  grind
def Trace.bX1 {k q}(e:k<ops.size)(b:T.bs k=some q)(f:T.cs k≠0):T.Hs (k+1)=if 1<T.cs k then (T.Hs k).set q (((T.Hs (k+1))[q]?).getD none) else T.Hs k:=by
 obtain⟨o,a⟩:∃ o,ops[k]?=some o:=⟨ops[k],Array.getElem?_eq_getElem e⟩;have⟨h,c,d,g⟩:=T.loc k o q a b f (T.Hs k) rfl;rw[(T.step k o a).1]at d;grind
def aOJ(a:dS P cl):∀ k,k<=ops.size->gT T (λ_=>true) k=T.Hs k
 | 0,_=>by rw[gT,T.h0]
 | k+1,hk=>by
  obtain⟨o,c⟩:∃ o,ops[k]?=some o:=⟨ops[k],Array.getElem?_eq_getElem Z⟩;rw[gT,aOJ a k Z]
  by_cases b:1<T.cs k
  ·rw[if_pos ⟨rfl,b⟩];unfold aNK;cases d:T.bs k with
   | none=>rfl
   | some q =>
    have:=T.bX1 Z d Z;grind
  ·rw[if_neg (λh=>b h.2)];exact((a0Q a (T.step k o c).1).1 Z).symm
def R0 {S S'}:∀ {k},(∀ j,j<k->1<T.cs j->S j=S' j)->gT T S k=gT T S' k
 | 0,_=>rfl
 | k+1,h=>by
  rw[gT,gT,R0 λj a=>h j Z];grind
def aJ9 {S k}:∀ {n},k<=n->(∀ j,k<=j->j<n->1<T.cs j->S j=false)->gT T S n=gT T S k
 | 0,hk,_=>W
 | n+1,hk,h=>by
  rcases oG k (n+1)with hl|hl
  ·rw[gT,aJ9 Z λj a b=>h j a Z,if_neg];grind
  grind
def bB4 {q:Nat} {S S':Nat->Bool}:∀ {n:Nat},(∀ j,j<n->1<T.cs j->T.bs j=none\/T.bs j=some q->S j=S' j)->(gT T S n).length=(gT T S' n).length/\(gT T S n)[q]?=(gT T S' n)[q]?
 | 0,_=>⟨rfl,rfl⟩
 | n+1,h=>by
  have⟨e,d⟩:=bB4 (q:=q) (S:=S) (S':=S') (n:=n) λj f=>h j Z
  rw[gT,gT]
  by_cases hd:1<T.cs n
  ·cases a:T.bs n with
   | none =>
    have:=h n Z hd (.inl a);rw[this]
    by_cases b:S' n=true
    ·rw[if_pos ⟨b,hd⟩,if_pos ⟨b,hd⟩];simp only[aNK,a,and_self]
    ·grind
   | some p =>
    by_cases c:p=q
    ·subst c;have:=h n Z hd (.inr a);rw[this]
     by_cases b:S' n=true
     ·rw[if_pos ⟨b,hd⟩,if_pos ⟨b,hd⟩];simp only[aNK,a,List.length_set];grind
     ·grind
    ·have key:∀ X:Heap,(aNK T n X).length=X.length/\(aNK T n X)[q]?=X[q]?:=λX=>by
      simp only[aNK,a,List.length_set,true_and];grind
     grind
  ·grind
def a4B {i:Nat} {S S':Nat->Bool} (k:1<T.cs i) (hi:S i=false) (f:S' i=true) (a:∀ j,j≠i->S' j=S j) (b:∀ j,i<j->j<ops.size->1<T.cs j->S j=true->aKR (T.bs j) (T.bs i)=true) :
  ∀ n,i<n->n<=ops.size->gT T S' n=aNK T i (gT T S n)
 | 0,h,_=>Z
 | n+1,h,hn=>by
  rcases oG i n with hl|hl
  ·rw[gT,a4B k hi f a b n hl Z,gT,a n Z]
   by_cases g:S n=true/\1<T.cs n
   ·rw[if_pos g,if_pos g];have:=b n hl Z g.2 g.1;cases c:T.bs n with
    | none=>rw[c]at this; cases this
    | some p =>
     cases d:T.bs i with
     | none=>rw[c,d]at this; cases this
     | some q =>
      rw[c,d]at this;simp only[aKR,Bool.not_eq_true']at this;have a:p≠q:=λe=>by rw[e,Nat.beq_refl]at this; cases this
      simp only[aNK,c,d];exact List.set_comm _ _ (Ne.symm a)
   ·grind
  ·have:i=n:=Z
   subst this;rw[gT,if_pos ⟨f,k⟩,gT,if_neg (λh=>by rw[hi]at h; cases h.1)]
   congr 1
   exact R0 T λj l _=>a j Z
def bIK S:∀ k,∃ a,∀ t,cR a t=DM T S t k
 | 0=>⟨F,λt=>rfl⟩
 | k+1=>by
  have⟨a,b⟩:=bIK S k
  by_cases c:S k=true
  ·cases hd:aJJ ops k with
   | none=>exact⟨a,λt=>by rw[b,DM]; grind⟩
   | some d =>
    refine⟨bSK a d (T.vs k),λt=>?_⟩;rw[a2R,b,DM];grind
  ·exact⟨a,λt=>by rw[b,DM]; grind⟩
def fG.congr {w G μ F F' a}(h:fG w G μ nt F a)(he:∀ t,cR F' t=cR F t):fG w G μ nt F' a:=⟨h.size,λt=>by rw[he]; exact h.slot t,h.defers⟩
def I.congr {F F' H a w}(h:I n0 wi Gi μi nt F H a w)(he:∀ t,cR F' t=cR F t):I n0 wi Gi μi nt F' H a w:=by
 have⟨G,μ,e,b,c⟩:=h;exact⟨G,μ,e,b,c.congr he⟩
def aYU {o:Oper}{F F' H}(h:∀ t∈o.looksAt ops,cR F' t=cR F t):I9 P cl ops.toList o F' H=I9 P cl ops.toList o F H:=by
 have a:∀ x∈o.op.operands,ev F' x=ev F x:=λx d=>by
  cases x with
  | tmp t=>exact h t (List.mem_append_left _ (List.mem_filterMap.2 ⟨.tmp t,by simpa using d,rfl⟩))
  | _=>rfl
 have e:guardOf F' ops.toList o=guardOf F ops.toList o:=by
  unfold guardOf;split;rfl
  next j want c=>
   split
   ·rename_i p hp;split
    ·rename_i t ht;rw[h t (List.mem_append_right _ (by
      rw[c];have hp:ops[j]?=some p:=by simpa using hp
      simp[hp,ht]))]
    rfl
   rfl
 have hm:mkData P F' ops.toList o=mkData P F ops.toList o:=(by unfold mkData;split;rename_i t x y b;rw[a x (by rw[b]; simp[Op.operands]),a y (by rw[b]; simp[Op.operands])];rfl);have hz:opz P cl ops.toList F' H o=opz P cl ops.toList F H o:=(by unfold opz;rw[bSL a];split;rename_i t x y b;rw[a x (by rw[b]; simp[Op.operands]),a y (by rw[b]; simp[Op.operands])];rfl);unfold I9;grind
def aL4(m:List Nat) (S:Nat->Bool):Prop:=∀ j,S j=true->∀ i,(m.getD j 0).testBit i=true->S i=true
def a2O {p p' i}(a:p i=true)(b:p' i=false)(c:∀ j,j≠i->p' j=p j):∀ n,i<n->(List.range n).countP p'+1=(List.range n).countP p
 | 0,h=>Z
 | n+1,h=>by
  rw[List.range_succ,List.countP_append,List.countP_append];rcases oG i n with hl|hl
  ·have:=a2O a b c n hl;grind
  ·have e:(List.range i).countP p'=(List.range i).countP p:=List.countP_congr λj d=>by
    grind
   grind
def bT4 {G:Gd} {μ:Mp} {H:Heap} {w:World} (a:aX n0 G μ H w) {q:Nat} (N:q<H.length) (hn:μ.loc q=none) (c:Array Value) (t:TypeId) :
  Ext n0 w G μ (w.alloc (.cells c t)) G ⟨λs=>if s=q then some w.heap.size else μ.loc s,μ.len,λs=>if s=q then 0 else μ.sh s⟩/\aX n0 G ⟨λs=>if s=q then some w.heap.size else μ.loc s,μ.len,λs=>if s=q then 0 else μ.sh s⟩ (H.set q (some ⟨lits c,t,false,false,none⟩)) (w.alloc (.cells c t)):=by
 have l:(w.alloc (.cells c t)).heap[w.heap.size]?=some (.cells c t (0,0)):=(by show (w.heap.push _)[w.heap.size]?=_;simp)
 have L:=OG a (.cells c t) none none;have e:Ext n0 w G μ (w.alloc (.cells c t)) G ⟨λs=>if s=q then some w.heap.size else μ.loc s,μ.len,λs=>if s=q then 0 else μ.sh s⟩:={ L with
  map:=λr b f=>W
  len:=λr n h=>h
  sh:=λr b f=>by
   show (if r=q then 0 else μ.sh r)=μ.sh r;rw[if_neg (by rintro rfl; rw[hn]at f; cases f)] }
 have key:∀ (s:Nat) (d:Blk),(H.set q (some ⟨lits c,t,false,false,none⟩))[s]?=some (some d)->(s=q/\d=⟨lits c,t,false,false,none⟩)\/(s≠q/\H[s]?=some (some d)):=W;refine⟨e,?_,?_,?_,a.lt.step e.good λb f=>Nat.lt_of_lt_of_le (a.lt b f) e.size,?_,λb f=>a.base b (oR e.size f),?_⟩
 case refine_5 =>
  refine a.rows.step e.toMono.aH e.size (λ_=>rfl) (λj b C=>⟨Below.heap_alloc _ _ _ (a.rows.sep j b C).1,id,λs d k K z=>?_⟩) (λs d t1 u k M F=>?_)
  ·rcases key s d k with ⟨rfl,rfl⟩|⟨hne,hs'⟩
   ·simp only[if_true]at z;cases z;exact absurd (a.rows.sep j _ C).1 (Nat.lt_irrefl _)
   ·grind
  ·grind
 intro s d b k f;rcases key s d k with ⟨rfl,rfl⟩|⟨hne,hs'⟩;simp only[if_true]at f;cases f;refine⟨c,l,?_,λ_=>by simp[lits],λh=>(by cases h),λ_=>⟨a.base _ (oM _),λhG=>Nat.lt_irrefl _ (a.lt _ hG)⟩⟩;refine aT.mk λi p hp=>?_;have⟨v,y,m⟩:=(KC (w:=w.alloc (.cells c t)) (G:=G) (μ:=⟨λx=>if x=s then some w.heap.size else μ.loc x,μ.len,λx=>if x=s then 0 else μ.sh x⟩) c).get hp;simp_all;simp only[if_neg hne]at f;have⟨c',m,I,J⟩:=a.blk s d b hs' f;have B:(w.alloc (.cells c t)).heap[b]?=w.heap[b]?:=Below.heap_alloc _ _ _ (gN m);simp only[if_neg hne];exact⟨c',B.trans m,aT.mono e.toMono B _ _ I,J⟩;intro s d g k E;rcases key s d k with ⟨rfl,rfl⟩|⟨hne,hs'⟩;cases E;exact a.tags s d g hs' E;intro s1 s2 d A b y m f1 f2 m1 m2;rcases key s1 d y with ⟨rfl,rfl⟩|⟨u,o⟩ <;> rcases key s2 A m with ⟨e2,rfl⟩|⟨l2,h2'⟩;grind;simp only[if_true]at m1;simp only[if_neg l2]at m2;cases m1;exact absurd (a.vB h2' m2) (Nat.lt_irrefl _);subst e2;simp only[if_true]at m2;simp only[if_neg u]at m1;cases m2;exact absurd (a.vB o m1) (Nat.lt_irrefl _);simp only[if_neg u]at m1;simp only[if_neg l2]at m2;exact a.inj s1 s2 d A b o h2' f1 f2 m1 m2;intro r D;rw[List.length_set]at D;have:=a.top r D;exact⟨by show (if r=q then _ else _)=_; rw[if_neg Z]; exact this.1,this.2⟩
def bG3 {o}(h:aTG o=true):o.guard=none/\(∃ d,o.dst=some d)/\((∃ t,o.op=.alloc t)\/∃ c,o.op=.call c):=by
 unfold aTG at h;rw[Bool.or_eq_true]at h;rcases h with h|h;unfold isVar at h;grind;unfold a2Z at h;split at h;unfold a1C at h;grind;grind
def a1N {m o k q}(h:aBO m o k=some q):∃ b,m=some b/\q=b+k/\aTG o=true:=by
 unfold aBO at h;grind
def bEE(T:Trace P cl nt ops F H F' H') (n0:Nat->Prop) (wi:World) (Gi:Gd) (μi:Mp):Prop :=∀ (S:Nat->Bool) (F1:Frm) (w:World) (a:Act),aL4 (qO ops) S->(∀ t,cR F1 t=DM T S t ops.size)->I n0 wi Gi μi nt F1 (gT T S ops.size) a w->∀ i o q,ops[i]?=some o->S i=false->aBO T.md o i=some q ->∃ G μ,Ext n0 wi Gi μi w G μ/\aX n0 G μ (gT T S ops.size) w/\fG w G μ nt F1 a/\μ.loc q=none/\((gT T S ops.size)[q]?=some none->μ.len q=none)
def bCH {b}:∀ {F} t,bCA b F=true->below b (cR F t)=true
 | [],t,_=>rfl
 | (u,p)::F,t,h=>by
  simp only[bCA,oA]at h;rw[eY];split
  ·grind
  ·exact bCH t h.2
mutual
def bJS {p p':Nat->Bool} (h:∀ r,p r=true->p' r=true):∀ v:PV,inP p v=true->inP p' v=true
 | .lit _,_|.vals ..,_|.iptr _,_|.tl ..,_|.tp ..,_|.junk,_|.row ..,_|.rp ..,_|.mp _,_|.tm _,_=>rfl
 | .own r _,hv=>h r hv
 | .op r _ _ _,hv=>h r hv
 | .win r _ _ _,hv=>h r hv
 | .qs r _,hv=>h r hv
 | .hptr r _,hv=>h r hv
 | .hs r _ _ _ _,hv=>h r hv
 | .agg cs,hv=>by simp only[inP]at hv ⊢; exact ZS h cs hv
 | .tuple cs,hv=>by simp only[inP]at hv ⊢; exact ZS h cs hv
 | .clo _ f c,hv=>by
  simp only[inP,oA]at hv ⊢;exact⟨ZS h f hv.1,ZS h c hv.2⟩
def ZS {p p':Nat->Bool} (h:∀ r,p r=true->p' r=true):∀ l:List PV,inP.inPs p l=true->inP.inPs p' l=true
 | [],_=>rfl
 | q::l,hv=>by
  simp only[inP.inPs,oA]at hv ⊢;exact⟨bJS h q hv.1,ZS h l hv.2⟩
end
mutual
def bDS {m:Nat} {p:Nat->Bool} (h:∀ r,r<m->p r=true):∀ v:PV,below m v=true->inP p v=true
 | .lit _,_|.vals ..,_|.iptr _,_|.tl ..,_|.tp ..,_|.junk,_|.row ..,_|.rp ..,_|.mp _,_|.tm _,_=>rfl
 | .own r _,hv=>h r (gE (by simpa only[below]using hv))
 | .op r _ _ _,hv=>h r (gE (by simpa only[below]using hv))
 | .win r _ _ _,hv=>h r (gE (by simpa only[below]using hv))
 | .qs r _,hv=>h r (gE (by simpa only[below]using hv))
 | .hptr r _,hv=>h r (gE (by simpa only[below]using hv))
 | .hs r _ _ _ _,hv=>h r (gE (by simpa only[below]using hv))
 | .agg cs,hv=>by simp only[below]at hv; simp only[inP]; exact Z7 h cs hv
 | .tuple cs,hv=>by simp only[below]at hv; simp only[inP]; exact Z7 h cs hv
 | .clo _ f c,hv=>by
  simp only[below,oA]at hv;simp only[inP,oA];exact⟨Z7 h f hv.1,Z7 h c hv.2⟩
def Z7 {m:Nat} {p:Nat->Bool} (h:∀ r,r<m->p r=true):∀ l:List PV,below.belows m l=true->inP.inPs p l=true
 | [],_=>rfl
 | q::l,hv=>by
  simp only[below.belows,oA]at hv;simp only[inP.inPs,oA];exact⟨bDS h q hv.1,Z7 h l hv.2⟩
end
mutual
def bTU {p:Nat->Bool} {w:World} {G:Gd} {μ μ':Mp} (h:∀ r,p r=true->μ'.loc r=μ.loc r/\μ'.len r=μ.len r/\μ'.sh r=μ.sh r):∀ (q:PV) (v:Value),inP p q=true->VR w G μ q v->VR w G μ' q v
 | .lit u,v,_,hv=>by rw[VR]at hv ⊢; exact hv
 | .vals ..,v,_,hv=>by rw[VR]at hv ⊢; exact hv
 | .iptr _,v,_,hv=>by rw[VR]at hv ⊢; exact hv
 | .tl ..,v,_,hv=>by rw[VR]at hv ⊢; exact hv
 | .tp ..,v,_,hv=>by rw[VR]at hv ⊢; exact hv
 | .row ..,v,_,hv=>by rw[VR]at hv ⊢; exact hv
 | .rp ..,v,_,hv=>by rw[VR]at hv ⊢; exact hv
 | .mp _,v,_,hv=>by rw[VR]at hv ⊢; exact hv
 | .tm _,v,_,hv=>by rw[VR]at hv ⊢; exact hv
 | .junk,v,_,hv=>by rw[VR]; trivial
 | .hptr r off,v,hb,hv=>by
  have:=h r hb;rw[VR]at hv ⊢; rw[this.1,this.2.2]; exact hv
 | .hs r off l c s,v,hb,hv=>by
  have:=h r hb;rw[VR]at hv ⊢; rw[this.1,this.2.2]; exact hv
 | .own r s,v,hb,hv=>by
  have:=h r hb;rw[VR]at hv ⊢; rw[this.1,this.2.1,this.2.2]; exact hv
 | .op r i off s,v,hb,hv=>by
  have:=h r hb;rw[VR]at hv ⊢; rw[this.1,this.2.2]; exact hv
 | .win r lo n s,v,hb,hv=>by
  have:=h r hb;rw[VR]at hv ⊢; rw[this.1,this.2.1,this.2.2]; exact hv
 | .qs r s,v,hb,hv=>by
  have:=h r hb;rw[VR]at hv ⊢; rw[this.1,this.2.1,this.2.2]; exact hv
 | .agg cs,v,hb,hv=>by
  rw[VR]at hv ⊢;have⟨vs,b,a⟩:=hv;exact⟨vs,b,aTY h cs _ (by simpa only[inP]using hb) a⟩
 | .tuple cs,v,hb,hv=>by
  rw[VR]at hv ⊢;have⟨vs,b,a⟩:=hv;exact⟨vs,b,aTY h cs _ (by simpa only[inP]using hb) a⟩
 | .clo fn f c,v,hb,hv=>by
  rw[VR]at hv ⊢;simp only[inP,oA]at hb;have⟨d,cs,b,a,e⟩:=hv;exact⟨d,cs,b,aTY h f _ hb.1 a,aTY h c _ hb.2 e⟩
def aTY {p:Nat->Bool} {w:World} {G:Gd} {μ μ':Mp} (h:∀ r,p r=true->μ'.loc r=μ.loc r/\μ'.len r=μ.len r/\μ'.sh r=μ.sh r):∀ (ps:List PV) (vs:List Value),inP.inPs p ps=true->VRs w G μ ps vs->VRs w G μ' ps vs
 | [],vs,_,hv=>by rw[VRs]at hv ⊢; exact hv
 | q::ps,vs,hb,hv=>by
  rw[VRs]at hv ⊢;simp only[inP.inPs,oA]at hb;have⟨x,xs,b,a,c⟩:=hv;exact⟨x,xs,b,bTU h q x hb.1 a,aTY h ps xs hb.2 c⟩
end
def bOK {p w G μ μ'}(h:∀ r,p r=true->μ'.loc r=μ.loc r/\μ'.len r=μ.len r/\μ'.sh r=μ.sh r){b off ps}(hn:inP.inPs p ps=true)(d:aT w G μ b off ps):aT w G μ' b off ps:=by
 have⟨vs,c,a⟩:=d.values;exact aT.vK (aTY h ps vs hn c) a
def bAK {p:Nat->Bool}:∀ {H:Heap} {r:Nat} {k:Blk},a74 p H=true->H[r]?=some (some k)->k.tag.isSome=true\/inP.inPs p k.cells=true
 | [],r,k,_,h=>by simp at h
 | x::H,0,k,hp,h=>by
  simp only[List.getElem?_cons_zero,oJ]at h;subst h;simp only[a74,bP5,oA,Bool.or_eq_true]at hp;exact hp.1
 | x::H,r+1,k,hp,h=>by
  simp only[a74,oA]at hp;exact bAK (H:=H) (r:=r) hp.2 (by simpa using h)
def a3H(b:Nat) (S:Nat->Bool) (r:Nat):Bool:=Nat.blt r b||S (r-b)
def aRD {b k S}(c:aL4 (qO ops) S)(a:S k=true):∀ r,bOR b ((qO ops).getD k 0 ||| 2^k) r=true->a3H b S r=true:=by
 intro r h;unfold bOR at h;unfold a3H;rw[Bool.or_eq_true]at h ⊢;rcases h with h|h;grind;right;rw[oA,Nat.testBit_or,Bool.or_eq_true]at h;rcases h.2 with h1|h1;exact c k a _ h1;grind
def bC0 {b}(hm:T.md=some b)(d:bCA b F=true){S}(e:aL4 (qO ops) S) t:∀ k,k<=ops.size->inP (a3H b S) (DM T S t k)=true
 | 0,_=>bDS (λr g=>by unfold a3H; simp_all) _ (bCH t d)
 | k+1,hk=>by
  obtain⟨o,f⟩:∃ o,ops[k]?=some o:=⟨ops[k],Array.getElem?_eq_getElem Z⟩;rw[DM]
  by_cases c:S k=true/\aJJ ops k=some t
  ·rw[if_pos c];have a:=(T.step k o f).2.2;rw[hm]at a;simp only[okT,oA]at a;exact bJS (aRD e c.1) _ a.1
  ·rw[if_neg c];exact bC0 hm d e t k Z
def a2A {b}(hm:T.md=some b)(hH:aJ8 b H=true){S}(f:aL4 (qO ops) S):∀ k,k<=ops.size->∀ (r:Nat) x,(gT T S k)[r]?=some (some x)->x.tag.isSome=true\/inP.inPs (a3H b S) x.cells=true
 | 0,_,r,x,h=>by
  rcases aTS hH h with h|h
  ·grind
  ·exact .inr (Z7 (λr m=>by unfold a3H; rw[cF,oT m]; rfl) _ h)
 | k+1,hk,r,x,h=>by
  obtain⟨o,j⟩:∃ o,ops[k]?=some o:=⟨ops[k],Array.getElem?_eq_getElem Z⟩;rw[gT]at h
  by_cases d:S k=true/\1<T.cs k
  ·rw[if_pos d]at h;have a:=(T.step k o j).2.2;rw[<- T.hbs k o j,hm]at a;simp only[okT,oA,b2I]at a;replace a:=a.2;rw[cF,oT d.2,oC]at a;unfold aNK at h;split at h
   ·rename_i q g;rw[g]at a;simp only at a;rw[List.getElem?_set]at h
    by_cases c:q=r
    ·rw[if_pos c]at h;split at h
     ·have e:=oB h;cases i:(T.Hs (k+1))[q]? with
      | none=>rw[i]at e; cases e
      | some y =>
       rw[i]at e;subst e;have l:iN (T.Hs (k+1)) q=some x:=by unfold PM.iN; rw[i]
       rw[l]at a;simp only[bP5,Bool.or_eq_true]at a;rcases a with a|a
       ·grind
       ·exact .inr (ZS (aRD f d.1) _ a)
     ·cases h
    ·rw[if_neg c]at h;exact a2A hm hH f k Z r x h
   ·rename_i g;rw[g]at a;rcases bAK a h with a|a
    ·grind
    ·exact .inr (ZS (aRD f d.1) _ a)
  ·rw[if_neg d]at h;exact a2A hm hH f k Z r x h
def bFE(b:Nat)(S:Nat->Bool)(X:Heap)(μ:Mp):Mp:=⟨λr=>if b<=r/\S (r-b)=false then none else μ.loc r,λr=>if b<=r/\S (r-b)=false/\aPZ X r=true then none else μ.len r,μ.sh⟩
def bB6 {b S X μ}:∀ s,a3H b S s=true->(bFE b S X μ).loc s=μ.loc s/\(bFE b S X μ).len s=μ.len s/\(bFE b S X μ).sh s=μ.sh s:=λs a=>by
 have h:¬ (b<=s/\S (s-b)=false):=λh=>by
  unfold a3H at a;rw[Bool.or_eq_true]at a;rcases a with a|a
  ·have:=gE a; omega
  grind
 refine⟨?_,?_,rfl⟩
 ·show (if b<=s/\S (s-b)=false then none else μ.loc s)=μ.loc s;grind
 ·show (if b<=s/\S (s-b)=false/\aPZ X s=true then none else μ.len s)=μ.len s;grind
def bXO(y:∀ b,T.md=some b->bCA b F=true/\aJ8 b H=true/\∀ r,b<=r->μi.loc r=none/\μi.len r=none):bEE T n0 wi Gi μi:=by
 intro S J w a hC v I i o q L C z;obtain⟨b,hm,rfl,K⟩:=a1N z;have⟨E,hH,B⟩:=y b hm;have⟨G,μ,e,f,m⟩:=I;refine⟨G,bFE b S (gT T S ops.size) μ,?_,?_,?_,?_,?_⟩
 ·exact { e with
   map:=λr x d=>by
    show (if b<=r/\S (r-b)=false then none else μ.loc r)=some x;rw[if_neg (λh=>by rw[(B r h.1).1]at d; cases d)];exact e.map r x d
   len:=λr x d=>by
    show (if b<=r/\S (r-b)=false/\aPZ (gT T S ops.size) r=true then none else μ.len r)=some x;rw[if_neg (λh=>by rw[(B r h.1).2]at d; cases d)];exact e.len r x d }
 ·refine⟨?_,?_,?_,f.lt,?_,f.base,f.rows.bZP λr=>?_⟩
  case refine_5 =>
   show (if b<=r/\S (r-b)=false then none else μ.loc r)=none\/(if b<=r/\S (r-b)=false then none else μ.loc r)=μ.loc r;grind
  intro r k x n d;change (if b<=r/\S (r-b)=false then none else μ.loc r)=some x at d;split at d;cases d;have⟨c,p,j,u⟩:=f.blk r k x n d;refine⟨c,p,?_,u⟩;rcases a2A T hm hH hC ops.size (oM _) r k n with h4|h4;have⟨g,A⟩:=Option.isSome_iff_exists.1 h4;rw[(f.tags r k g n A).1]at j ⊢;exact xZ (lB _ _) j;exact bOK bB6 h4 j;intro r k g n A;have⟨p,j⟩:=f.tags r k g n A;refine⟨p,?_⟩;show (if b<=r/\S (r-b)=false/\aPZ (gT T S ops.size) r=true then none else μ.len r)=_;rw[if_neg (λh=>by have u:=aPM.1 h.2.2; rw[n]at u; cases u)];exact j;intro r s k l x p j f1 f2 m1 m2;change (if b<=r/\S (r-b)=false then none else μ.loc r)=some x at m1;change (if b<=s/\S (s-b)=false then none else μ.loc s)=some x at m2;split at m1;cases m1;split at m2;cases m2;exact f.inj r s k l x p j f1 f2 m1 m2;intro r z;have:=f.top r z;refine⟨?_,?_⟩;show (if b<=r/\_ then _ else _)=_;grind;show (if b<=r/\S (r-b)=false/\aPZ (gT T S ops.size) r=true then none else μ.len r)=_;grind
 refine⟨m.size,λt=>?_,m.defers⟩;have D:=m.slot t;rw[v]at D ⊢;exact bTU bB6 _ _ (bC0 T hm E hC t ops.size (oM _)) D;show (if b<=b+i/\S (b+i-b)=false then none else μ.loc (b+i))=none;rw[if_pos ⟨Nat.le_add_right _ _,by rw[Nat.add_sub_cancel_left]; exact C⟩];intro d;show (if b<=b+i/\S (b+i-b)=false/\aPZ (gT T S ops.size) (b+i)=true then none else μ.len (b+i))=none;rw[if_pos ⟨Nat.le_add_right _ _,by rw[Nat.add_sub_cancel_left]; exact C,aPM.2 d⟩]
def bYT {G:Gd} {μ:Mp} {H:Heap} {w:World} (hW:aX n0 G μ H w) {q:Nat} (hq:q<H.length) (hn:μ.loc q=none) (hl:μ.len q=none) {w':World} {G':Gd} {μ':Mp} {k:Blk} {sz:Nat} {v:Value}
  (e:Ext (RL w) w G.bare aH w' G' μ') (hW':aX (RL w) G' μ' [some k] w') (hv:VR w' G' μ' (.own 0 sz) v) (ht:a8Z k.tag=true) :
  ∃ μ2,Ext n0 w G μ w' (G'.with G) μ2/\aX n0 (G'.with G) μ2 (H.set q (some k)) w'/\VR w' (G'.with G) μ2 (.own q sz) v:=by
 have e2:Ext n0 w G μ w' (G'.with G) ⟨λs=>if s=q then μ'.loc 0 else μ.loc s,λs=>if s=q then μ'.len 0 else μ.len s,λs=>if s=q then μ'.sh 0 else μ.sh s⟩:={
  good:=e.good
  map:=λr b hb=>W
  len:=λr b hb=>W
  room:=e.room
  sh:=λr b hb=>W
  row:=λ_ _ h=>h
  os:=e.os
  tape:=e.tape
  output:=e.output
  size:=e.size
  old:=λb hb _=>e.old b hb (Nat.not_le.2 hb)
  new:=λb hb=>by
   rcases e.new b hb with h|h
   ·exact .inl h
   ·exact .inr (hW.base b h) }
 have hnew:∀ b,μ'.loc 0=some b->∃ c,w'.heap[b]?=some (.cells c k.ty (0,0))/\aT w' G' μ' b (μ'.sh 0) k.cells/\(k.grown=false->c.size=k.cells.length)/\(k.frozen=true->G' b)/\(k.frozen=false->RL w b/\¬ G' b):=λb hb=>hW'.blk 0 k b rfl hb
 obtain⟨g,hg,hgp⟩:∃ g,k.tag=some g/\g.t.plain=true:=by
  cases hk:k.tag with
  | none=>rw[hk]at ht; cases ht;| some g=>rw[hk]at ht; exact⟨g,rfl,ht⟩
 have⟨hgc,hgl⟩:=hW'.tags 0 k g rfl hg;have key:∀ (s:Nat) (k1:Blk),(H.set q (some k))[s]?=some (some k1)->(s=q/\k1=k)\/(s≠q/\H[s]?=some (some k1)):=W;refine⟨_,e2,⟨?_,?_,?_,hW'.lt,?_,λb hb=>hW.base b (oR e.size hb),?_⟩,?_⟩;intro s k1 b hs hb;rcases key s k1 hs with ⟨rfl,rfl⟩|⟨hne,hs'⟩;simp only[if_true]at hb;have⟨c,h1,h2,h3,h4,h5⟩:=hnew b hb;simp only[if_true];refine⟨c,h1,?_,h3,h4,λhf=>⟨hW.base b (h5 hf).1,(h5 hf).2⟩⟩;rw[hgc]at h2 ⊢;exact D8 (G:=G') (G':=G'.with G) (λb h=>h) _ _ _ _ (IW _ hgp _) (xZ (lB _ _) h2);simp only[if_neg hne]at hb;have⟨c',h2,h3,h4,h5,h6⟩:=hW.blk s k1 b hs' hb;have hlt:=hW.vB hs' hb;have e1:w'.heap[b]?=w.heap[b]?:=e.old b hlt (Nat.not_le.2 hlt);simp only[if_neg hne];refine⟨c',e1.trans h2,aT.mono e2.toMono e1 _ _ h3,h4,λhf=>(e.good b (h5 hf)).1,λhf=>⟨(h6 hf).1,λhg=>?_⟩⟩;rcases e.new b hg with h|h;exact(h6 hf).2 h;grind;intro s k1 g1 hs hg1;rcases key s k1 hs with ⟨rfl,rfl⟩|⟨hne,hs'⟩;grind;simp only[if_neg hne];exact hW.tags s k1 g1 hs' hg1;intro s1 s2 k1 k2 b h1 h2 f1 f2 m1 m2;rcases key s1 k1 h1 with ⟨rfl,rfl⟩|⟨l1,h1'⟩ <;> rcases key s2 k2 h2 with ⟨e2,rfl⟩|⟨l2,h2'⟩;grind;simp only[if_true]at m1;simp only[if_neg l2]at m2;have⟨_,_,_,_,_,h5⟩:=hnew b m1;exact absurd (hW.vB h2' m2) (Nat.not_lt.2 (h5 f1).1);subst e2;simp only[if_true]at m2;simp only[if_neg l1]at m1;have⟨_,_,_,_,_,h5⟩:=hnew b m2;exact absurd (hW.vB h1' m1) (Nat.not_lt.2 (h5 f2).1);simp only[if_neg l1]at m1;simp only[if_neg l2]at m2;exact hW.inj s1 s2 k1 k2 b h1' h2' f1 f2 m1 m2;intro r hr;rw[List.length_set]at hr;have:=hW.top r hr;exact⟨by show (if r=q then _ else _)=_; rw[if_neg Z]; exact this.1,by show (if r=q then _ else _)=_; rw[if_neg Z]; exact this.2⟩;refine hW.rows.step e2.toMono.aH e.size (λ_=>rfl) (λj b hj=>?_) (λs k1 t1 l1 hs hg1 ht1=>?_);have hlt:=(hW.rows.sep j b hj).1;refine⟨e.old b hlt (Nat.not_le.2 hlt),λhg=>?_,λs k1 hs hf1 hl=>?_⟩;rcases e.new b hg with h|h;exact h;exact absurd hlt (Nat.not_lt.2 h);rcases key s k1 hs with ⟨rfl,rfl⟩|⟨hne,hs'⟩;simp only[if_true]at hl;have⟨_,_,_,_,_,h5⟩:=hnew b hl;exact absurd hlt (Nat.not_lt.2 (h5 hf1).1);simp only[if_neg hne]at hl;exact⟨s,k1,hs',hf1,hl⟩;rcases key s k1 hs with ⟨rfl,rfl⟩|⟨hne,hs'⟩;rw[hg]at ht1;cases ht1;cases hgp;exact⟨k1,hs',rfl,rfl,rfl,by simp only[if_neg hne]⟩;rw[VR]at hv ⊢;simp only[if_true];exact hv
def bYC {G:Gd} {μ:Mp} {H:Heap} {w:World} (g:aX n0 G μ H w) {w':World} {G':Gd} {μ':Mp} (e:Ext (RL w) w G.bare aH w' G' μ') (f:∀ b,G' b->b<w'.heap.size):Ext n0 w G μ w' (G'.with G) μ/\aX n0 (G'.with G) μ H w':=by
 have i:Ext n0 w G μ w' (G'.with G) μ:={
  good:=e.good
  map:=λ_ _ h=>h
  len:=λ_ _ h=>h
  room:=e.room
  row:=λ_ _ h=>h
  os:=e.os
  tape:=e.tape
  output:=e.output
  size:=e.size
  old:=λb d _=>e.old b d (Nat.not_le.2 d)
  new:=λb d=>by
   rcases e.new b d with h|h
   ·exact .inl h
   ·exact .inr (g.base b h) }
 have c:∀ b,b<w.heap.size->G' b->G b:=λb a m=>by
  rcases e.new b m with h|h
  ·exact h
  ·grind
 refine⟨i,g.keep i ⟨λ_=>rfl,λj b n=>?_⟩ ?_ f⟩;have a:=(g.rows.sep j b n).1;exact⟨e.old b a (Nat.not_le.2 a),c b a⟩;intro r k b l d;have a:=g.vB l d;exact⟨e.old b a (Nat.not_le.2 a),c b a⟩
def bW4:Frm->Frm| []=>[]|(t,p)::r=>(t,bif eM p&&gP p then p else .junk)::bW4 r
def a95 t:∀ F ,cR (bW4 F) t=bif eM (cR F t)&&gP (cR F t) then cR F t else .junk
 | []=>rfl
 | (u,p)::F=>by
  rw[bW4,eY,eY]
  by_cases h:t=u
  ·grind
  ·rw[if_neg h,if_neg h]; exact a95 t F
def a9U:∀ {l p},eM.noRefs l=true->p∈l->eM p=true
 | [],_,_,h=>W
 | q::l,p,h,hp=>by
  simp only[eM.noRefs,oA]at h;rcases List.mem_cons.1 hp with rfl|hp
  ·grind
  ·exact a9U h.2 hp
def bAT:∀ {l p},gP.noRows l=true->p∈l->gP p=true
 | [],_,_,h=>W
 | q::l,p,h,hp=>by
  simp only[gP.noRows,oA]at h;rcases List.mem_cons.1 hp with rfl|hp
  ·grind
  ·exact bAT h.2 hp
def bY3 {P:Program} {ops:Array Oper} (hmask:aGY (qO ops) 0 ops.toList=true) {Q:Exit->Act->World->Prop} {J:Array Bool->Act->World->Prop} (hend:∀ listed a w,(∀ i,i<ops.size->listed.getD i false=true)->J listed a w->Q .normal a w)
  (hstep:∀ (listed listed':Array Bool) (a:Act) (w:World) (i:Nat) (o:Oper),ops[i]?=some o->listed.size=ops.size->listed.getD i false=false->aL4 (qO ops) (λi=>listed.getD i false)->(∀ b,((qO ops).getD i 0).testBit b=true->listed.getD b false=true) ->
   listed'.getD i false=true->(∀ j,j≠i->listed'.getD j false=listed.getD j false)->J listed a w->∀ K:Act->World->Prop,(∀ a' w',J listed' a' w'->K a' w')->wpOp P ops Q i K a w) {a:Act} {w:World} (hJ:J (Array.replicate ops.size false) a w) :
  wpAny P .any ops Q ops.size (Array.replicate ops.size false) a w:=by
 have hm:∀ i o,ops[i]?=some o->(qO ops).getD i 0=aYR (qO ops) o.after.toList/\∀ e∈o.after,Region.binds .any e=true->e.on<i:=λi o ho=>by
  have:=a15 hmask (i:=i) (o:=o) (by simpa using ho);grind
 have hnone:∀ listed:Array Bool,listed.size=ops.size->Region.ready .any ops listed=[]->∀ i,i<ops.size->listed.getD i false=true:=by
  intro listed hsz hr i;induction i using Nat.strongRecOn with
  | _ i ih =>
   intro hi;cases hli:listed.getD i false with
   | true=>rfl
   | false =>
    obtain⟨o,ho⟩:∃ o,ops[i]?=some o:=⟨ops[i],Array.getElem?_eq_getElem hi⟩;have:i∈Region.ready .any ops listed:=mem_ready.2 ⟨by
     have hlt:i<listed.size:=Z
     simpa[Array.getD,hlt]using hli,o,ho,λe he hb=>ih e.on ((hm i o ho).2 e he hb) (by have:=(hm i o ho).2 e he hb; omega)⟩
    grind
 have hfalse:∀ j,(Array.replicate ops.size false).getD j false=false:=λj=>by
  simp only[Array.getD]
  simp_all
 suffices key:∀ (fuel:Nat) (listed:Array Bool) (a:Act) (w:World),(List.range ops.size).countP (λi=>!listed.getD i false)=fuel->listed.size=ops.size->aL4 (qO ops) (λi=>listed.getD i false)->J listed a w->wpAny P .any ops Q fuel listed a w by
  refine key ops.size _ _ _ ?_ R ?_ hJ
  ·simp_all
  ·intro j hj;grind
 intro fuel;induction fuel with
 | zero =>
  intro listed a w hc hsz hcs hI;have hall:∀ i,i<ops.size->listed.getD i false=true:=λi hi=>by
   rw[List.countP_eq_zero]at hc;have:=hc i (List.mem_range.2 hi);simpa using this
  refine⟨?_,hend listed a w hall hI⟩;cases hr:Region.ready .any ops listed with
  | nil=>rfl
  | cons i r =>
   have:i∈Region.ready .any ops listed:=by rw[hr]; exact List.mem_cons_self
   have⟨h1,o,ho,_⟩:=mem_ready.1 this;have hi:i<ops.size:=(Array.getElem?_eq_some_iff.1 ho).1;have h2:=hall i hi;have hlt:i<listed.size:=Z
   simp only[Array.getD,hlt,dif_pos]at h1 h2;rw[h1]at h2; cases h2
 | succ fuel ih =>
  intro listed a w hc hsz hcs hI;refine⟨λhr=>hend listed a w (hnone listed hsz hr) hI,λi hi=>?_⟩;have⟨h1,o,ho,hdeps⟩:=mem_ready.1 hi;have hlt:i<ops.size:=(Array.getElem?_eq_some_iff.1 ho).1;have hlt':i<listed.size:=Z
  have hun:listed.getD i false=false:=by
   simp only[Array.getD,hlt',dif_pos]at h1 ⊢;exact h1
  have hahead:∀ b,((qO ops).getD i 0).testBit b=true->listed.getD b false=true:=λb hb=>by
   rw[(hm i o ho).1]at hb;rcases aE2 _ _ hb with h0|⟨e,he,hbd,h2⟩
   ·simp at h0
   ·have he':=hdeps e (Array.mem_toList_iff.1 he) hbd;rcases h2 with rfl|h2
    ·exact he'
    ·exact hcs e.on he' b h2
  have hS':∀ j,j≠i->(listed.setIfInBounds i true).getD j false=listed.getD j false:=λj hj=>getD_set_ne false (λe=>hj e.symm)
  have hSi:(listed.setIfInBounds i true).getD i false=true:=by simp[Array.getD,hlt']
  refine hstep listed _ a w i o ho hsz hun hcs hahead hSi hS' hI _ λa' w' h=>ih _ a' w' ?_ (by simpa using hsz) ?_ h
  ·have:=a2O (p:=λi=>!listed.getD i false) (p':=λj=>!(listed.setIfInBounds i true).getD j false) (i:=i) (by simp only[hun,Bool.not_false]) (by simp only[hSi,Bool.not_true]) (λj hj=>by simp only[hS' j hj]) ops.size hlt;omega
  ·intro j hj b hb
   by_cases hji:j=i
   ·subst hji
    by_cases hbj:b=j
    ·subst hbj; exact hSi
    ·show (listed.setIfInBounds j true).getD b false=true;rw[hS' b hbj]; exact hahead b hb
   ·have hj':listed.getD j false=true:=by rw[<- hS' j hji]; exact hj
    by_cases hbi:b=i
    ·subst hbi; exact hSi
    ·show (listed.setIfInBounds i true).getD b false=true;rw[hS' b hbi]; exact hcs j hj' b hb
def b1X(T:Trace P cl nt ops F H F' H') (hcl:dS P cl) (hst:aF8 ops=true) {S S':Nat->Bool} (hcs:aL4 (qO ops) S) {i:Nat} {o:Oper} (ho:ops[i]?=some o) (hun:S i=false)
  (hahead:∀ b,((qO ops).getD i 0).testBit b=true->S b=true) (hSi:S' i=true) (hS':∀ j,j≠i->S' j=S j) {F1:Frm} (hF1:∀ t,cR F1 t=DM T S t ops.size) :
  ∃ c1 F2,stepT (aBO T.md o i) P cl ops.toList o F1 (gT T S ops.size)=some (T.vs i,gT T S' ops.size,c1)/\aER nt F1 o.dst (T.vs i)=some F2/\∀ t,cR F2 t=DM T S' t ops.size:=by
 simp only[aF8,oA]at hst;have⟨hmask,hpairs⟩:=hst;have hlt:i<ops.size:=(Array.getElem?_eq_some_iff.1 ho).1;have hap:∀ i j oi oj,ops[i]?=some oi->ops[j]?=some oj->i<j->((qO ops).getD j 0).testBit i=true\/oi.apart ops oj=true:=λi j oi oj hi hj hij=>by
  have:=a3K hpairs (j:=j) (oj:=oj) (by simpa using hj);rw[Nat.zero_add]at this;have:=a8O this (i:=i) (oi:=oi) (by simpa using hi) Z;grind
 have hbehind:∀ j,((qO ops).getD j 0).testBit i=true->S j=false:=λj hj=>by
  cases hlj:S j with
  | false=>rfl
  | true =>
   have h5:S i=true:=hcs j hlj i hj;grind
 have hwr:∀ t,(t∈o.looksAt ops\/o.dst=some t)->(∀ j,j<i->aJJ ops j=some t->S j=true)/\(∀ j,i<j->j<ops.size->aJJ ops j=some t->S j=false):=by
  intro t ht;refine⟨λj hj hd=>?_,λj hj hjs hd=>?_⟩
  ·cases hoj:ops[j]? with
   | none=>simp[aJJ,hoj]at hd
   | some oj =>
    simp only[aJJ,hoj,Option.bind_some]at hd;rcases hap j i oj o hoj ho hj with h3|h3
    ·grind
    ·have⟨a1,a2,a3⟩:=Oper.apart_spec h3;grind
  ·cases hoj:ops[j]? with
   | none=>simp[aJJ,hoj]at hd
   | some oj =>
    simp only[aJJ,hoj,Option.bind_some]at hd;rcases hap i j o oj ho hoj hj with h3|h3
    ·grind
    ·have⟨a1,a2,a3⟩:=Oper.apart_spec h3;grind
 have hslot:∀ t∈o.looksAt ops,DM T S t ops.size=cR (T.Fs i) t:=λt ht=>by
  have⟨w1,w2⟩:=hwr t (.inl ht);rw[aKM T (k:=i) Z λj hj hjs hd=>by
   rcases oG i j with hl|hl
   ·grind
   ·have:j=i:=Z
    subst this; exact hun]
  rw[aFG T (S':=λ_=>true) λj hj hd=>w1 j hj hd,aW3 T t i Z]
 obtain⟨hstep,hput,-⟩:=T.step i o ho;have hord:∀ j,j<ops.size->1<T.cs j->T.cs i≠0->aKR (T.bs j) (T.bs i)=false->S j=decide (j<i):=λj hjs hx hc0 hap'=>by
  rcases Nat.lt_trichotomy j i with hl|hl|hl
  ·rw[oT hl];rcases T.hits j i hl hlt Z hc0 (.inl hx)with h3|h3
   ·have:aKR (T.bs j) (T.bs i)=true:=by
     revert h3
     cases T.bs j <;> cases T.bs i <;> simp only[aKR,Bool.not_eq_true',imp_self,Bool.false_eq_true,false_implies]
     rename_i x y;intro h3;cases hxy:Nat.beq x y with
     | false=>rfl
     | true=>rw[oE hxy,Nat.beq_refl]at h3; cases h3
    rw[this]at hap'; cases hap'
   ·exact hahead j h3
  ·subst hl; rw[oF Z]; exact hun
  ·rw[oF Z];rcases T.hits i j hl hjs hc0 Z (.inr hx)with h3|h3
   ·rw[h3]at hap'; cases hap'
   ·exact hbehind j h3
 have hheap:T.cs i≠0->T.bs i=none->gT T S ops.size=T.Hs i:=λhc0 hb0=>by
  have ho':∀ j,j<ops.size->1<T.cs j->S j=decide (j<i):=λj hjs hx=>hord j hjs hx hc0 (by rw[hb0]; cases T.bs j <;> rfl)
  rw[aJ9 T (k:=i) Z λj hj hjs hx=>by rw[ho' j hjs hx,oF Z]];rw[R0 T (S':=λ_=>true) λj hj hx=>by rw[ho' j Z hx,oT hj],aOJ T hcl i Z]
 have hheapq:∀ q,T.cs i≠0->T.bs i=some q->(gT T S ops.size)[q]?=(T.Hs i)[q]?:=λq hc0 hb0=>by
  have ho':∀ j,j<ops.size->1<T.cs j->T.bs j=none\/T.bs j=some q->S j=decide (j<i):=λj hjs hx hbj=>hord j hjs hx hc0 (by
   rw[hb0];rcases hbj with h|h <;> rw[h]
   ·rfl
   ·simp[aKR])
  have h1:=(bB4 T (q:=q) (S:=S) (S':=λj=>decide (j<i)) (n:=ops.size) ho').2;rw[h1,aJ9 T (k:=i) Z λj hj hjs hx=>oF Z];rw[R0 T (S':=λ_=>true) λj hj hx=>oT hj,aOJ T hcl i Z]
 have hnewheap:gT T S' ops.size=if 1<T.cs i then aNK T i (gT T S ops.size) else gT T S ops.size:=by
  by_cases hx:1<T.cs i
  ·rw[if_pos hx];refine a4B T hx hun hSi hS' (λj hj hjs hxj hlj=>?_) ops.size hlt (oM _);cases hap':aKR (T.bs j) (T.bs i)with
   | true=>rfl
   | false =>
    have:=hord j hjs hxj Z hap';rw[oF Z]at this;exact absurd hlj (by rw[this]; decide)
  rw[if_neg hx];refine R0 T λj hj hxj=>?_;exact hS' j (λe=>hx (e ▸ hxj))
 have hcg:∀ H2,stepT (aBO T.md o i) P cl ops.toList o F1 H2=stepT (aBO T.md o i) P cl ops.toList o (T.Fs i) H2:=λH2=>by
  have h0:∀ H2,I9 P cl ops.toList o F1 H2=I9 P cl ops.toList o (T.Fs i) H2:=λH2=>aYU λt ht=>by rw[hF1,hslot t ht]
  cases aBO T.md o i with
  | none=>exact h0 H2
  | some q =>
   have h5:∀ x∈o.op.operands,ev F1 x=ev (T.Fs i) x:=λx hx=>by
    cases x with
    | tmp t =>
     have h7:t∈o.looksAt ops:=List.mem_append_left _ (List.mem_filterMap.2 ⟨.tmp t,by simpa using hx,rfl⟩);show cR F1 t=cR (T.Fs i) t;rw[hF1,hslot t h7]
    | _=>rfl
   have h6:o.op.operands.toList.map (ev F1)=o.op.operands.toList.map (ev (T.Fs i)):=List.map_congr_left λx hx=>h5 x (by simpa using hx)
   simp only[stepT,h0,h6]
 have hop:∃ c1,stepT (aBO T.md o i) P cl ops.toList o F1 (gT T S ops.size)=some (T.vs i,gT T S' ops.size,c1):=by
  rw[hcg,hnewheap];by_cases hc0:T.cs i=0;rw[hc0]at hstep ⊢;refine⟨0,(((a0Q hcl hstep).2 rfl _).trans ?_)⟩;simp
  ·cases hb0:T.bs i with
   | none =>
    rw[hheap hc0 hb0];refine⟨T.cs i,hstep.trans ?_⟩
    by_cases hx:1<T.cs i
    ·rw[if_pos hx]; simp only[aNK,hb0]
    ·rw[if_neg hx,(a0Q hcl hstep).1 Z]
   | some q =>
    have⟨H3,c,h3,h4⟩:=T.loc i o q ho hb0 hc0 _ (hheapq q hc0 hb0);refine⟨c,h3.trans ?_⟩;rw[h4]; simp only[aNK,hb0]
 have⟨c1,hop⟩:=hop;have hputF1:∃ F2,aER nt F1 o.dst (T.vs i)=some F2:=by
  cases hd:o.dst with
  | none=>exact⟨F1,rfl⟩
  | some d =>
   rw[hd]at hput;simp only[aER]at hput ⊢;cases hb:Nat.blt d nt with
   | true=>exact⟨_,rfl⟩
   | false=>rw[hb]at hput; cases hput
 have⟨F2,hF2⟩:=hputF1;refine⟨c1,F2,hop,hF2,λt=>?_⟩;rw[bK8 hF2 t];by_cases hd:o.dst=some t
 ·rw[if_pos hd];symm;rw[aKM T (k:=i+1) Z λj hj hjs hdj=>by
   rw[hS' j Z];exact(hwr t (.inr hd)).2 j Z hjs hdj]
  rw[DM,if_pos ⟨hSi,by simp[aJJ,ho,hd]⟩]
 rw[if_neg hd,hF1];symm;refine aFG T λj hj hdj=>hS' j ?_;rintro rfl;simp only[aJJ,ho,Option.bind_some]at hdj;exact hd hdj
def bTZ(hcl:dS P cl)(hst:aF8 ops=true)(hE:bEE T n0 wi Gi μi){Q}(hQ:∀ a' w',I n0 wi Gi μi nt F' H' a' w'->Q .normal a' w'){a w}(hI:I n0 wi Gi μi nt F H a w) :
  wpAny P .any ops Q ops.size (Array.replicate ops.size false) a w:=by
 have hst2:=hst;simp only[aF8,oA]at hst2;refine bY3 hst2.1 (J:=λlisted a w=>∀ F1,(∀ t,cR F1 t=DM T (λi=>listed.getD i false) t ops.size)->I n0 wi Gi μi nt F1 (gT T (λi=>listed.getD i false) ops.size) a w) ?_ ?_ ?_
 ·intro listed a w hall hI;have h1:∀ t,cR F' t=DM T (λi=>listed.getD i false) t ops.size:=λt=>by rw[aFG T (S':=λ_=>true) λj hj _=>hall j hj,aW3 T t _ (oM _),T.fn]
  have h2:=hI F' h1;rw[R0 T (S':=λ_=>true) λj hj _=>hall j hj,aOJ T hcl _ (oM _),T.hn]at h2;grind
 ·intro listed listed' a w i o ho hsz hun hcs hahead hSi hS' hI K hK;obtain⟨F1,hF1⟩:=bIK T (λi=>listed.getD i false) ops.size;have hI1:=hI F1 hF1;obtain⟨c1,F2,hop,hF2,hF3⟩:=b1X T hcl hst hcs ho hun hahead hSi hS' hF1;generalize hH1:gT T (λk=>listed'.getD k false) ops.size=H1 at hop;have hnext:∀ (a':Act) (w':World),(∃ F2,aER nt F1 o.dst (T.vs i)=some F2/\I n0 wi Gi μi nt F2 H1 a' w')->K a' w':=by
   rintro a' w' ⟨F4,hF4,hI2⟩;obtain rfl:F2=F4:=oB (hF2.symm.trans hF4);refine hK a' w' λF5 hF5=>?_
   rw[hH1];exact hI2.congr λt=>by rw[hF5,hF3]
  cases hr:aBO T.md o i with
  | some q =>
   obtain⟨G,μ,e,hW,hF,hnone,hlnone⟩:=hE (λi=>listed.getD i false) F1 w a hcs hF1 hI1 i o q ho hun hr;obtain⟨b,_,_,ha⟩:=a1N hr;obtain⟨hg,⟨d,hd⟩,hkind⟩:=bG3 ha;rw[hr]at hop;rcases hkind with ⟨t,hop'⟩|⟨cc,hop'⟩
   case inr =>
    simp only[stepT,hop']at hop;obtain⟨hnr,hop⟩:=aJ hop;split at hop
    ·rename_i v1 X c2 hs;have hcut:I9 P cl ops.toList o (bW4 F1) []=some (v1,X,c2):=by
      rw[<- hs];refine aYU λt ht=>?_
      rw[a95];have h7:Operand.tmp t∈o.op.operands:=by
       unfold Oper.looksAt at ht;rw[hg]at ht;simp only[Option.toList,List.append_nil,List.mem_filterMap]at ht;obtain⟨x,h8,h9⟩:=ht;cases x with
       | tmp u=>simp only[oJ]at h9; subst h9; simpa using h8
       | _=>cases h9
      rw[oA]at hnr;have h8:eM (cR F1 t)=true:=a9U hnr.1 (List.mem_map.2 ⟨.tmp t,by rw[<- hop']; simpa using h7,rfl⟩);have h9:gP (cR F1 t)=true:=bAT hnr.2 (List.mem_map.2 ⟨.tmp t,by rw[<- hop']; simpa using h7,rfl⟩);rw[h8,h9]; rfl
     have hW0:aX (RL w) G.bare aH [] w:=⟨λr k b h=>by simp at h,λr k g h=>by simp at h,λr s k l b h=>by simp at h,hW.lt,λ_ _=>⟨rfl,rfl⟩,λ_ h=>h,BU.none _ _ (λ_=>rfl) _ _ (λr k h=>by simp at h)⟩;have hF0:fG w G.bare aH nt (bW4 F1) a:=⟨hF.size,λt=>by
      rw[a95];cases hn:(eM (cR F1 t)&&gP (cR F1 t))with
      | true =>
       rw[oA]at hn;exact XU (G:=G) (G':=G.bare) (λb h=>h) _ _ _ hn.2 (IV _ _ hn.1 (hF.slot t))
      | false=>rw[oD,VR]; trivial,hF.defers⟩
     unfold wpOp;rw[ho];simp only;rcases aEK hcl hcut hW0 hF0 with ⟨k1,k2⟩|⟨k1,k2,k3⟩
     ·rw[if_pos k1];refine .inl (k2 _ _ λv' w' G' μ' e' hW' hv'=>?_);rcases aHA hop with ⟨sz,k,rfl,rfl,hv,hH,_,hq,hqn,htag⟩|⟨rfl,hn1,hv,hH,_⟩
      case inr =>
       obtain⟨m1,m2⟩:=bYC hW e' hW'.lt;rw[oA]at hn1;exact hnext _ _ ⟨F2,hF2,_,μ,e.trans m1,by rw[hH]; exact m2,(hF.mono m1.toMono).aXJ hF2 (by rw[hv]; exact(XU (G:=G') (G':=G'.with G) (λb h=>h) _ _ _ hn1.2 (IV _ _ hn1.1 hv')).bF)⟩
      obtain⟨μ2,m1,m2,m3⟩:=bYT hW hq hnone (hlnone hqn) e' hW' hv' htag;exact hnext _ _ ⟨F2,hF2,_,μ2,e.trans m1,by rw[hH]; exact m2,(hF.mono m1.toMono).aXJ hF2 (by rw[hv]; exact m3)⟩
     ·rw[k1,if_neg O];subst k3;rcases aHA hop with ⟨_,_,_,h9,_⟩|⟨_,_,hv,hH,_⟩
      ·cases h9
      ·exact hnext _ _ ⟨F2,hF2,G,μ,e,by rw[hH]; exact hW,hF.aXJ hF2 (by rw[hv,k2,VR])⟩
    ·cases hop
   simp only[stepT,hop']at hop;cases hz:N6 P t with
   | none=>rw[hz]at hop; cases hop
   | some z =>
    rw[hz]at hop;simp only at hop;obtain⟨hq,hop⟩:=aJ hop;simp only[oJ,oP]at hop;obtain⟨hv,hH,-⟩:=hop;obtain⟨e1,e2⟩:=bT4 hW (gE hq) hnone z.cells t;unfold wpOp;rw[ho];simp only;rw[if_pos (OO hF (b:=true) (by simp only[guardOf,hg]))];refine .inl ?_;have hok:XN P n0 w G μ o a (T.vs i) H1:=by
     refine .value (s:=Instr.alloc t true (.tuple #[])) (by simp only[execOp,hop']) ?_;refine⟨.pointer (some ⟨w.heap.size,0,none⟩),w.alloc (.cells z.cells t),G,_,?_,e1,by rw[<- hH]; exact e2,?_⟩
     ·have hzv:(zeroValue t).run P w=.ok z w:=by
       unfold N6 at hz;split at hz
       next i hi=>simp[zeroValue,N9 hi,hz]
       ·cases hz
      simp only[Instr.alloc,Sem.run_bind,hzv,Result.andThen_ok,newVar];simp[newRow]
     ·rw[<- hv,VR];exact⟨w.heap.size,by show (if q=q then _ else _)=_; rw[if_pos rfl],by simp⟩
    exact hok _ _ λv' w' G' μ' e' hW' hv=>hnext _ _ ⟨F2,hF2,G',μ',e.trans e',hW',(hF.mono e'.toMono).aXJ hF2 hv⟩
  | none =>
  rw[hr]at hop;replace hop:I9 P cl ops.toList o F1 (gT T (λi=>listed.getD i false) ops.size)=some (T.vs i,H1,c1):=hop;obtain⟨G,μ,e,hW,hF⟩:=hI1;unfold wpOp;rw[ho];simp only;rcases aEK hcl hop hW hF with ⟨k1,k2⟩|⟨k1,k2,k3⟩
  ·rw[if_pos k1];exact .inl (k2 _ _ λv' w' G' μ' e' hW' hv=>hnext _ _ ⟨F2,hF2,G',μ',e.trans e',hW',(hF.mono e'.toMono).aXJ hF2 hv⟩)
  ·rw[k1,if_neg O];exact hnext _ _ ⟨F2,hF2,G,μ,e,by rw[k3]; exact hW,hF.aXJ hF2 (by rw[k2,VR])⟩
 ·intro F1 hF1;have hfalse:∀ j,(Array.replicate ops.size false).getD j false=false:=λj=>by
   simp only[Array.getD];split <;> simp
  rw[aJ9 T (k:=0) (Nat.zero_le _) λj _ _ _=>hfalse j];exact hI.congr λt=>by rw[hF1,aKM T (k:=0) (Nat.zero_le _) λj _ _ _=>hfalse j]; rfl
def bN4 {G μ H w}(a:aX n0 G μ H w) n:aX n0 G μ (H++List.replicate n none) w:=by
 have key:∀ (r:Nat) k,(H++List.replicate n none)[r]?=some (some k)->H[r]?=some (some k):=W
 exact⟨λr k b h=>a.blk r k b (key r k h),λr k g h=>a.tags r k g (key r k h),λr s k l b d c=>a.inj r s k l b (key r k d) (key s l c),a.lt,λr e=>a.top r W,a.base,a.rows.bZ3 id (λ_ _ h=>h) (λr k h=>⟨key r k h,rfl⟩)⟩
def aR7 {b n}:∀ {H:Heap},aJ8 b H=true->aJ8 b (H++List.replicate n none)=true
 | [],_=>by
  induction n with
  | zero=>rfl
  | succ n a=>exact a
 | none::H,h=>aR7 (H:=H) h
 | some k::H,h=>by
  simp only[aJ8,oA,List.cons_append]at h ⊢;exact⟨h.1,aR7 h.2⟩
def bRW {H0} (T:Trace P cl nt ops F H0 F' H') (b:dS P cl) (c:aF8 ops=true) (i:bEE T n0 wi Gi μi) {a w Q} (g:I n0 wi Gi μi nt F H0 a w)
  (h:∀ d w',I n0 wi Gi μi nt F' H' d w'->Q .normal d w'):wpAny P .any ops Q ops.size (Array.replicate ops.size false) a { w with drawn:=w.drawn+1 }:=by
 have⟨G,μ,e,f,j⟩:=g;exact bTZ T b c i h ⟨G,μ,e.trans (aNJ (Nat.le_add_right _ _)),ZI f _,j.mono (aTN _)⟩
def aRP(f:dS P cl) {a w Q} (h:aKD P cl nt ops F H=some (F',H')) (l:I n0 wi Gi μi nt F H a w)
  (p:∀ m w',I n0 wi Gi μi nt F' H' m w'->Q .normal m w'):wpAny P .any ops Q ops.size (Array.replicate ops.size false) a { w with drawn:=w.drawn+1 }:=by
 have⟨c,h⟩:=aJ h;rw[oA]at c;split at h
 next y v u s=>
  have⟨q,h⟩:=aJ h;obtain⟨rfl,rfl⟩:=h;have⟨T,o⟩:=bVH f s q;have k:=l;have⟨G,μ,e,i,t⟩:=l;refine bRW T f c.1 ?_ ?_ p
  ·refine bXO T λb d=>?_;rw[o]at d;have g:=c.2;rw[d]at g ⊢;simp only[bHT,oA]at g;refine⟨g.1,aR7 g.2,λr n=>?_⟩;have⟨_,d⟩:=aJ d;simp only[oJ]at d;subst d;refine⟨?_,?_⟩
   ·cases j:μi.loc r with
    | none=>rfl
    | some x =>
     have:=e.map r x j;rw[(i.top r n).1]at this;grind
   ·cases j:μi.len r with
    | none=>rfl
    | some x =>
     have:=e.len r x j;rw[(i.top r n).2]at this;grind
  ·cases aWI ops H with
   | none=>exact k;| some b=>exact⟨G,μ,e,bN4 i _,t⟩
 cases h
def aVM(b:dS P cl) (f:P.follows .mixedOrders=true) {id a w Q} (h:aKD P cl nt ops F H=some (F',H')) (d:I n0 wi Gi μi nt F H a w) (e:∀ c w',I n0 wi Gi μi nt F' H' c w'->Q .normal c w'):(Code.region id ops true).wp P Q a w:=wp_region_any f (aRP b h d e)
end
end
inductive Ex where
 | normal
 | exit (id:Nat)
 | ret
def Ex.to:Ex->Exit| .normal=>.normal| .exit id=>.exit id| .ret=>.ret
structure Cfg where
 nt:Nat
 keep:Nat
 J5:List Nat
 loops:List (Nat×bX0)
 floor:Nat
def settle {α:Type} (m:Nat):Nat->Frm->(Frm->α)->α| 0,F,k=>k F| _+1,[],k=>k []| n+1,(t,p)::r,k=>bif aJT m t then settle m n r (λr=>k ((t,p)::r)) else settle m n r k
def bM:Code->Nat| .region id _ _=>id| .seq a _=>bM a| .block _ a=>bM a| .loop a=>bM a| .scope a=>bM a| .cond _ a _=>bM a| _=>0
def bJV:List (Nat×bX0)->Nat->Option bX0| [],_=>none|(i,m)::r,id=>bif Nat.beq i id then some m else bJV r id
def aT0 {α}(F:Frm):List Nat->(Frm->α)->α| [],k=>k []| t::r,k=>fPV (cR F t) λp=>aT0 F r λr=>k ((t,p)::r)
def bVX(cfg:Cfg)(id:Nat)(F:Frm)(H:Heap)(k:Frm->Heap->Option (Ex×Frm×Heap)):Option (Ex×Frm×Heap) :=match bJV cfg.loops id with| none=>aT0 F cfg.J5 λF=>k F H| some pl=>bif Nat.ble cfg.floor pl.base then match tidy pl F H with| some (F',H')=>k F' H'| none=>none else none
abbrev Out:=Option (Ex×Frm×Heap)
def iter(f:Frm->Heap->Out):Nat->Frm->Heap->Out| 0,_,_=>none| n+1,F,H=>match f F H with| some (.normal,F',H')=>iter f n F' H'| r=>r
def exec(P:Program)(cl:Callee)(cfg:Cfg)(L:Nat):Code->Frm->Heap->Out
 | .skip,F,H=>some (.normal,F,H)
 | .label _,F,H=>some (.normal,F,H)
 | .region _ ops draw,F,H=>match (bif draw then aKD P cl cfg.nt ops F H else TI P cl cfg.nt ops.toList ops.toList F H)with
  | some (F',H')=>settle cfg.keep (a5H ops.toList) F' λF'=>some (.normal,F',H')
  | none=>none
 | .seq a b,F,H=>match exec P cl cfg L a F H with
  | some (.normal,F',H')=>exec P cl cfg L b F' H'
  | r=>r
 | .cond c a b,F,H=>match ev F c with
  | .lit (.bool t)=>bif t then exec P cl cfg L a F H else exec P cl cfg L b F H
  | _=>none
 | .block id a,F,H=>match exec P cl cfg L a F H with
  | some (.exit i,F',H')=>bif Nat.beq i id then some (.normal,F',H') else some (.exit i,F',H')
  | r=>r
 | .loop a,F,H=>iter (λF H=>bVX cfg (bM a) F H λF H=>exec P cl cfg L a F H) L F H
 | .exit id,F,H=>some (.exit id,F,H)
 | .scope a,F,H=>exec P cl cfg L a F H
 | .ret,F,H=>some (.ret,F,H)
 | _,_,_=>none
section
variable {P:Program} {cl:Callee} {cfg:Cfg} {L:Nat} {n0:Nat->Prop} {wi:World} {Gi:Gd} {μi:Mp}
def Off(m:Nat) (F:Frm):Prop:=∀ t,aJT m t=false->cR F t=.junk
def aWF {α} m F:∀ news (k:Frm->α),∃ F',settle m news.length (news++F) k=k F'/\(Off m F->∀ t,cR F' t=if aJT m t then cR (news++F) t else .junk)
 | [],k=>⟨F,rfl,λh t=>by
  cases c:aJT m t with
  | true=>rfl
  | false=>simpa using h t c⟩
 | (s,p)::news,k=>by
  simp only[List.length_cons,List.cons_append,settle];cases d:aJT m s with
  | true =>
   have⟨F',b,a⟩:=aWF m F news λr=>k ((s,p)::r)
   refine⟨(s,p)::F',b,λh t=>?_⟩;rw[eY,eY,a h t];grind
  | false =>
   have⟨F',b,a⟩:=aWF m F news k;refine⟨F',b,λh t=>?_⟩;rw[eY,a h t];grind
def aVB {α} F:∀ l (k:Frm->α),∃ F',aT0 F l k=k F'/\∀ t,cR F' t=cR F t\/cR F' t=.junk
 | [],k=>⟨[],rfl,λt=>.inr rfl⟩
 | s::l,k=>by
  simp only[aT0,aG7];have⟨F',a,b⟩:=aVB F l λr=>k ((s,cR F s)::r)
  refine⟨(s,cR F s)::F',a,λt=>?_⟩;rw[eY];grind
def I.bNR {nt F F' H a w}(h:I n0 wi Gi μi nt F H a w)(d:∀ t,cR F' t=cR F t\/cR F' t=.junk):I n0 wi Gi μi nt F' H a w:=by
 have⟨G,μ,e,c,b⟩:=h;refine⟨G,μ,e,c,b.size,λt=>?_,b.defers⟩;rcases d t with h1|h1;rw[h1]; exact b.slot t;rw[h1,VR]; simp
def b16(P:Program) (n0:Nat->Prop) (wi:World) (Gi:Gd) (μi:Mp) (nt:Nat) (c:Code) (a:Act) (w:World) (r:Ex×Frm×Heap):Prop :=c.wp P (λe a' w'=>e=r.1.to/\I n0 wi Gi μi nt r.2.1 r.2.2 a' w') a w
def bUS(P:Program) (n0:Nat->Prop) (wi:World) (Gi:Gd) (μi:Mp) (cfg:Cfg) (c:Code) (a:Act) (w:World) (r:Ex×Frm×Heap):Prop :=b16 P n0 wi Gi μi cfg.nt c a w r/\Off cfg.keep r.2.1
def bNE {c}{f:Frm->Heap->Out}(g:∀ F H a w r,f F H=some r->I n0 wi Gi μi cfg.nt F H a w->Off cfg.keep F->bUS P n0 wi Gi μi cfg c a w r):∀ {n F H a w r},
  iter f n F H=some r->I n0 wi Gi μi cfg.nt F H a w->Off cfg.keep F->bUS P n0 wi Gi μi cfg (.loop c) a w r:=by
 intro n F H a w r h d hO;constructor
 ·refine wp_loop_ghost (λk a w=>∃ F H,iter f k F H=some r/\I n0 wi Gi μi cfg.nt F H a w/\Off cfg.keep F) n ⟨F,H,h,d,hO⟩ ?_;rintro k a w ⟨F,H,h,d,hO⟩;cases k with
  | zero=>cases h
  | succ k =>
   simp only[iter]at h;split at h
   next F' H' l=>have⟨j,m⟩:=g F H a w _ l d hO;refine wp_mono j ?_;rintro e o w' ⟨rfl,b⟩;exact⟨k,by omega,F',H',h,b,m⟩
   ·rename_i i;have⟨ex,F',H'⟩:=r;refine wp_mono (g F H a w _ h d hO).1 ?_;rintro e o w' ⟨rfl,b⟩;cases ex with
    | normal=>exact absurd h (i F' H')
    | exit id=>exact⟨rfl,b⟩
    | ret=>exact⟨rfl,b⟩
 ·induction n generalizing F H a w with
  | zero=>cases h
  | succ n p =>
   simp only[iter]at h;split at h
   next F' H' l=>have⟨j,m⟩:=g F H a w _ l d hO;have⟨e,o,w',⟨_,b⟩,_⟩:=j default [] [];grind
   ·exact(g F H a w _ h d hO).2
def CT(f:dS P cl)(m:P.follows .mixedOrders=true)(g:∀ r,cfg.floor<=r->μi.loc r=none/\μi.len r=none):∀ c F H a w r,exec P cl cfg L c F H=some r->I n0 wi Gi μi cfg.nt F H a w->Off cfg.keep F->bUS P n0 wi Gi μi cfg c a w r
 | .skip,F,H,a,w,r,h,d,hO=>by
  simp only[exec,oJ]at h;subst h;exact⟨wp_skip ⟨rfl,d⟩,hO⟩
 | .label l,F,H,a,w,r,h,d,hO=>by
  simp only[exec,oJ]at h;subst h;exact⟨wp_label ⟨rfl,d⟩,hO⟩
 | .region id ops draw,F,H,a,w,r,h,d,hO=>by
  simp only[exec]at h;split at h
  next F' H' o=>
   obtain⟨news,J,E⟩:∃ news:Frm,F'=news++F/\news.length=a5H ops.toList:=by
    cases draw with
    | true=>exact bF5 o
    | false=>exact a3C o
   have⟨D,j,p⟩:=aWF (α:=Out) cfg.keep F news λF'=>some (.normal,F',H')
   rw[<- E,J,j]at h;simp only[oJ]at h;subst h;have p:=p hO;refine⟨?_,λt ht=>by rw[p t,ht]; rfl⟩;have hw:∀ t,cR D t=cR F' t\/cR D t=.junk:=λt=>W
   cases draw with
   | true=>exact aVM f m o d λn w' z=>⟨rfl,z.bNR hw⟩
   | false=>exact wp_region_list (NT f ops.toList F H a w o d λn w' z=>⟨rfl,z.bNR hw⟩)
  ·cases h
 | .seq x y,F,H,a,w,r,h,d,hO=>by
  simp only[exec]at h;split at h
  next F' H' A=>
   have⟨k,j⟩:=CT f m g x F H a w _ A d hO;refine⟨wp_seq (wp_mono k ?_),?_⟩
   ·rintro e n w' ⟨rfl,b⟩;exact(CT f m g y F' H' n w' r h b j).1
   ·have⟨e,n,w',⟨_,b⟩,_⟩:=k default [] [];exact(CT f m g y F' H' n w' r h b j).2
  next q=>
   have⟨ex,F',H'⟩:=r;have⟨k,j⟩:=CT f m g x F H a w _ h d hO;refine⟨wp_seq (wp_mono k ?_),j⟩;rintro e n w' ⟨rfl,b⟩;cases ex with
   | normal=>exact absurd h (q F' H')
   | exit id=>exact⟨rfl,b⟩
   | ret=>exact⟨rfl,b⟩
 | .cond c x y,F,H,a,w,r,h,d,hO=>by
  simp only[exec]at h;split at h
  next t ht=>
   have⟨G,μ,e,C,u⟩:=d;have B:=cT u c;rw[ht,VR]at B;cases t with
   | true =>
    have⟨k,j⟩:=CT f m g x F H a w r h ⟨G,μ,e,C,u⟩ hO;exact⟨wp_cond B k,j⟩
   | false =>
    have⟨k,j⟩:=CT f m g y F H a w r h ⟨G,μ,e,C,u⟩ hO;exact⟨wp_cond B k,j⟩
  ·cases h
 | .block id x,F,H,a,w,r,h,d,hO=>by
  simp only[exec]at h;split at h
  next i F' H' A=>
   have⟨k,j⟩:=CT f m g x F H a w _ A d hO;have o:r=(if i=id then .normal else .exit i,F',H'):=by
    cases hi:Nat.beq i id with
    | true =>
     rw[hi]at h;simp only[oC,oJ]at h;rw[if_pos (oE hi),h]
    | false =>
     rw[hi]at h;simp only[oD,oJ]at h;rw[if_neg (λe=>by rw[e]at hi; simp at hi),h]
   subst o;refine⟨wp_block (wp_mono k ?_),j⟩;rintro e n w' ⟨rfl,b⟩;simp only[Ex.to,Exit.inBlock];split
   ·exact⟨rfl,b⟩
   ·exact⟨rfl,b⟩
  next q=>
   have⟨ex,F',H'⟩:=r;have⟨k,j⟩:=CT f m g x F H a w _ h d hO;refine⟨wp_block (wp_mono k ?_),j⟩;rintro e n w' ⟨rfl,b⟩;cases ex with
   | normal=>exact⟨rfl,b⟩
   | exit i=>exact absurd h (q i F' H')
   | ret=>exact⟨rfl,b⟩
 | .loop x,F,H,a,w,r,h,d,hO=>by
  simp only[exec]at h;refine bNE (λF H a w r h d hO=>?_) h d hO;unfold bVX at h;split at h
  ·have⟨F',k,j⟩:=aVB (α:=Out) F cfg.J5 λF=>exec P cl cfg L x F H
   simp only[k]at h;exact CT f m g x F' H a w r h (d.bNR j) λt ht=>by
    rcases j t with p|p
    ·rw[p]; exact hO t ht
    ·exact p
  next pl M=>
   have⟨K,h⟩:=aJ h;split at h
   next F' H' v=>have⟨k,j⟩:=bAY v (λr o=>g r (oR (oL K) o)) d;exact CT f m g x F' H' a w r h k λt ht=>j t (hO t ht)
   ·cases h
 | .exit id,F,H,a,w,r,h,d,hO=>by
  simp only[exec,oJ]at h;subst h;exact⟨wp_exit ⟨rfl,d⟩,hO⟩
 | .scope x,F,H,a,w,r,h,d,hO=>by
  simp only[exec]at h;have⟨k,j⟩:=CT f m g x F H a w r h d hO;refine⟨wp_scope_straight (wp_mono k ?_),j⟩;rintro e n w' ⟨rfl,b⟩;have⟨ex,F',H'⟩:=r;cases ex <;> exact⟨rfl,b⟩
 | .ret,F,H,a,w,r,h,d,hO=>by
  simp only[exec,oJ]at h;subst h;exact⟨wp_ret ⟨rfl,d⟩,hO⟩
 | .rangeFunc ..,F,H,a,w,r,h,d,hO=>by simp only[exec]at h; cases h
 | .goto l,F,H,a,w,r,h,d,hO=>by simp only[exec]at h; cases h
 | .refuse s,F,H,a,w,r,h,d,hO=>by simp only[exec]at h; cases h
end
def aZD(P:Program) (F:Frm) (H:Heap):ResultVar->Option PV| .tmp t=>some (cR F t)| .cell t ty=>match aP7 P H ty (cR F t)with|some (v,_)=>some v|none=>none
def yG(P:Program)(F:Frm)(H:Heap):List ResultVar->Option (List PV)| []=>some []| r::rs=>match aZD P F H r,yG P F H rs with| some v,some vs=>some (v::vs)| _,_=>none
def pI:List PV->PV| [v]=>v| vs=>.tuple vs
def start(m:Nat):Nat->List PV->Frm| _,[]=>[]| i,p::ps=>bif aJT m i then (i,p)::start m (i+1) ps else start m (i+1) ps
def a6G(P:Program) (cl:Callee) (cfg:Cfg) (L:Nat) (fn:Func) (args:List PV) (H:Heap):Option (PV×Frm×Heap) :=
 match fn.body with
 | some c=>bif Nat.ble args.length fn.ntmps&&Nat.beq fn.ntmps cfg.nt then match exec P cl { cfg with floor:=H.length } L c (start cfg.keep 0 args) H with
  | some (.normal,F,H')|some (.ret,F,H')=>match yG P F H' fn.results.toList with
   | some vs=>some (pI vs,F,H')
   | none=>none
  | _=>none
  else none
 | none=>none
section
variable {P:Program} {cl:Callee} {cfg:Cfg} {L:Nat} {n0:Nat->Prop} {w:World} {G:Gd} {μ:Mp} {H:Heap}
def aXH m:∀ ps i t,cR (start m i ps) t=if i<=t/\aJT m t=true then (ps[t-i]?).getD .junk else .junk
 | [],i,t=>by simp[start,cR]
 | p::ps,i,t=>by
  simp only[start];have a:=aXH m ps (i+1) t;cases hi:aJT m i with
  | true =>
   rw[oC,eY,a];grind
  | false =>
   grind
def bQL m ps:Off m (start m 0 ps):=λt ht=>by rw[aXH,ht]; rfl
def E6 {args vs n m}(h:VRs w G μ args vs.toList)(hn:args.length<=n):fG w G μ n (start m 0 args) ⟨vs++Array.replicate (n-vs.size) undef,[]⟩ where
 size:=by
  have :=by simpa using h.length
  grind
 slot t:=by
  rw[aXH]
  by_cases c:aJT m t=true
  case neg=>rw[if_neg (λh=>c h.2),VR]; trivial
  rw[if_pos ⟨Nat.zero_le _,c⟩,Nat.sub_zero];cases ht:args[t]? with
  | none=>simp only[Option.getD_none]; rw[VR]; trivial
  | some p =>
   have⟨v,d,e⟩:=h.get ht;have b :=by simpa using d
   have a :=(Array.getElem?_eq_some_iff.1 b).1;have:(vs++Array.replicate (n-vs.size) undef).getD t undef=v:=by rw[Array.getD_eq_getD_getElem?,Array.getElem?_append_left a,b]; rfl
   grind
 defers:=rfl
def bHF(tmps:Array Value):ResultVar->Sem Value| .tmp t=>pure (tmps.getD t undef)| .cell b t=>do loadVar t (<- asAddr (tmps.getD b undef))
def J0 fn tmps:results fn tmps=(do let vs <- fn.results.mapM (bHF tmps); pure (if h:vs.size=1 then vs[0] else .tuple vs)):=by rfl
def uB {nt F a}(i:aX n0 G μ H w)(g:fG w G μ nt F a):∀ {rs vs},yG P F H rs=some vs->∃ us ,(rs.mapM (bHF a.tmps)).run P w=.ok us w/\VRs w G μ vs us
 | [],vs,h=>by
  simp only[yG,oJ]at h;subst h;exact⟨[],rfl,by rw[VRs]⟩
 | r::rs,vs,h=>by
  simp only[yG]at h;split at h
  next v o d f=>
   simp only[oJ]at h;subst h;have⟨us,m,j⟩:=uB i g f;cases r with
   | tmp t =>
    simp only[aZD,oJ]at d;subst d;refine⟨a.tmps.getD t undef::us,?_,by rw[VRs]; exact⟨_,_,rfl,g.slot t,j⟩⟩;rw[List.mapM_cons];simp only[bHF,Sem.run_bind,Sem.run_pure,Result.andThen_ok,m]
   | cell b t =>
    simp only[aZD]at d;split at d
    ·rename_i u c hu;simp only[oJ]at d;subst d;have⟨v',e,n⟩:=a4U (P:=P) i (g.slot b) hu;refine⟨v'::us,?_,by rw[VRs]; exact⟨_,_,rfl,n,j⟩⟩;have l:(do loadVar t (<- asAddr (a.tmps.getD b undef)):Sem Value).run P w=.ok v' w:=by
      simp only[Instr.loadAt]at e;cases hp:a.tmps.getD b undef <;> rw[hp]at e <;> simp[Instr.sureAddr]at e
      rename_i k;cases k with
      | none=>simp[Instr.sureAddr]at e
      | some k=>simpa[asAddr,Instr.sureAddr]using e
     rw[List.mapM_cons];simp only[bHF,Sem.run_bind]at l ⊢
     simp_all
    ·cases d
  ·cases h
def xE {vs us}(h:VRs w G μ vs us):VR w G μ (pI vs) (if d:us.toArray.size=1 then us.toArray[0] else .tuple us.toArray):=by
 match vs,us,h with
 | [v],us,h =>
  obtain⟨x,xs,rfl,c,b⟩:=h;subst b;simpa[pI]using c
 | [],us,h =>
  subst h;exact⟨_,by simp; rfl,by simp[VRs]⟩
 | v::v2::vs,us,h =>
  have a:=h.length;simp only[List.length_cons]at a;have:¬ us.toArray.size=1:=by simp; omega
  rw[dif_neg this];exact⟨_,rfl,by omega⟩
def bA5(o:dS P cl) (u:P.follows .mixedOrders=true) {g:FuncId} {fn:Func} (B:P.funcs[g]?=some fn) {args:List PV} {vs:Array Value} {v:PV} {F:Frm} {H':Heap} (h:a6G P cl cfg L fn args H=some (v,F,H'))
  (p:aX n0 G μ H w) (A:VRs w G μ args vs.toList):Calls P g vs w λe w'=>∃ v' G' μ',e=.returned v'/\Ext n0 w G μ w' G' μ'/\aX n0 G' μ' H' w'/\VR w' G' μ' v v':=by
 unfold a6G at h;split at h
 next c C=>
  cases f:(Nat.ble args.length fn.ntmps&&Nat.beq fn.ntmps cfg.nt)with
  | false=>rw[f]at h; cases h
  | true =>
   rw[f]at h;simp only[oA]at f;have q:=oL f.1;have x:=oE f.2;have t:I n0 w G μ cfg.nt (start cfg.keep 0 args) H ⟨vs++Array.replicate (fn.ntmps-vs.size) undef,[]⟩ w:=⟨G,μ,Ext.refl _ _ _ _,p,by rw[<- x]; exact E6 A q⟩;refine calls_of_wp B C ?_;have key:∀ ex l H1,exec P cl { cfg with floor:=H.length } L c (start cfg.keep 0 args) H=some (ex,l,H1)->(match yG P l H1 fn.results.toList with
     | some vs=>some (pI vs,l,H1)
     | none=>none)=some (v,F,H')->(ex=.normal\/ex=.ret)->Code.wp P c (bodyPost P fn λe w'=>∃ v' G' μ',e=.returned v'/\Ext n0 w G μ w' G' μ'/\aX n0 G' μ' H' w'/\VR w' G' μ' v v') ⟨vs++Array.replicate (fn.ntmps-vs.size) undef,[]⟩ w:=by
    intro ex l H1 z d hex;split at d
    ·rename_i us n;simp only[oJ,oP]at d;obtain⟨rfl,rfl,rfl⟩:=d;refine wp_mono (CT (cfg:={ cfg with floor:=H.length }) o u (λr d=>p.top r d) c _ H _ w _ z t (bQL _ _)).1 ?_;rintro e m w' ⟨rfl,G',μ',s,i,k⟩;have⟨ws,D,y⟩:=uB (P:=P) i k n;have j:(results fn m.tmps).run P w'=.ok (if E:ws.toArray.size=1 then ws.toArray[0] else .tuple ws.toArray) w':=by
      rw[J0,Array.mapM_eq_mapM_toList]
      simp_all
     have a:m.defers=[]/\∃ v,(results fn m.tmps).run P w'=.ok v w'/\(∃ v' b μ'',Ending.returned v=.returned v'/\Ext n0 w G μ w' b μ''/\aX n0 b μ'' H1 w'/\VR w' b μ'' (pI us) v') :=
      ⟨k.defers,_,j,_,G',μ',rfl,s,i,xE y⟩
     rcases hex with rfl|rfl
     ·exact a
     ·exact a
    ·cases d
   grind
 cases h
end
def aPE(f:PV->Option PV):List PV->Option (List PV)
 | []=>some []
 | p::ps=>match f p with
  | some q=>match aPE f ps with
   | some qs=>some (q::qs)
   | none=>none
  | none=>none
def inl(fz:Bool) (H:Heap):Nat->PV->Option PV
 | _,.lit v=>some (.lit v)
 | _,.vals cs n cap=>some (.vals cs n cap)
 | _,.iptr cs=>some (.iptr cs)
 | _,.tl t l cap e=>some (.tl t l cap e)
 | _,.tp t l i off e=>some (.tp t l i off e)
 | _,.row j lo n sz=>some (.row j lo n sz)
 | _,.own r _=>match iN H r with
  | some k=>match k.tag with
   | some g=>bif k.frozen||!fz then some (zX g.t g.l none) else none
   | none=>none
  | none=>none
 | _,.win r lo n sz=>match iN H r with
  | some k=>match k.tag with
   | some g=>bif (k.frozen||!fz)&&Nat.beq sz g.t.size then some (zX g.t ((g.l.drop lo).take n) none) else none
   | none=>none
  | none=>none
 | n+1,.hs r off len _ sz=>match iN H r with
  | some k=>bif (k.frozen||!fz)&&Nat.ble (off+len*sz) k.cells.length then match aPE (λp=>inl fz H n p) ((k.cells.drop off).take (len*sz))with
    | some cs=>some (.vals cs len none)
    | none=>none
   else none
  | none=>none
 | n+1,.hptr r off=>match iN H r with
  | some k=>bif k.frozen||!fz then match aPE (λp=>inl fz H n p) (k.cells.drop off)with
    | some cs=>some (.iptr cs)
    | none=>none
   else none
  | none=>none
 | n+1,.agg cs=>match aPE (λp=>inl fz H n p) cs with|some qs=>some (.agg qs)|none=>none
 | n+1,.tuple cs=>match aPE (λp=>inl fz H n p) cs with|some qs=>some (.tuple qs)|none=>none
 | n+1,.clo fn f c=>match aPE (λp=>inl fz H n p) f,aPE (λp=>inl fz H n p) c with
  | some f',some c'=>some (.clo fn f' c')
  | _,_=>none
 | _,_=>none
section
variable {P:Program} {n0:Nat->Prop} {w:World} {G G':Gd} {μ:Mp} {H:Heap}
def aHN {f}(b:∀ p q v,f p=some q->VR w G μ p v->VR w G' aH q v):∀ {ps qs vs},aPE f ps=some qs->VRs w G μ ps vs->VRs w G' aH qs vs
 | [],qs,vs,h,hv=>by
  simp only[aPE,oJ]at h;subst h;exact hv
 | p::ps,qs,vs,h,hv=>by
  simp only[aPE]at h;split at h
  next q c=>
   split at h
   next d a=>simp only[oJ]at h;subst h;have⟨x,xs,e,g,i⟩:=hv;exact⟨x,xs,e,b p q x c g,aHN b a i⟩
   grind
  grind
def aXL {f}(c:∀ p q v,f p=some q->VR w G μ p v->VR w G' aH q v){b}:∀ {ps qs off},aPE f ps=some qs->aT w G μ b off ps->aT w G' aH b off qs
 | [],qs,off,h,hv=>by
  simp only[aPE,oJ]at h;subst h;trivial
 | p::ps,qs,off,h,hv=>by
  simp only[aPE]at h;split at h
  next q d=>
   split at h
   next e a=>simp only[oJ]at h;subst h;have⟨⟨v,g,i⟩,j⟩:=hv;exact⟨⟨v,g,c p q v d i⟩,aXL c a j⟩
   grind
  grind
def ZP(B:aX n0 G μ H w){fz}(F:∀ j b,G.row j=some b->G'.row j=some b)(hG:∀ b,G b->G' b)(C:∀ r k b,H[r]?=some (some k)->(k.frozen=true\/fz=false)->μ.loc r=some b->G' b):∀ n p q v,inl fz H n p=some q->VR w G μ p v->VR w G' aH q v:=by
 have hm:Mono w G aH w G' aH:=⟨λb d=>⟨hG b d,rfl⟩,λ_ _ h=>h,λ_ _ h=>h,λ_ _ h=>h,F,λ_ _ _=>rfl⟩;have base:∀ (p q:PV) (v:Value),some p=some q->eM p=true->VR w G μ p v->VR w G' aH q v:=λp q v h hn a=>by
  cases h;exact VR.mono hm _ _ (IV p v hn a)
 have owned:∀ (r sz:Nat) (q:PV) (v:Value),(match iN H r with
  | some k=>match k.tag with
   | some g=>bif k.frozen||!fz then some (zX g.t g.l none) else none
   | none=>none
  | none=>none)=some q->VR w G μ (.own r sz) v->VR w G' aH q v:=λr sz q v h a=>by
  split at h
  next k o=>
   split at h
   next g E=>have⟨d,h⟩:=aJ h;simp only[Bool.or_eq_true,Bool.not_eq_true']at d;simp only[oJ]at h;subst h;exact U3 B a o E hG (λb m=>C r k b (aG o) d m) F
   ·cases h
  ·cases h
 have s:∀ (r lo n sz:Nat) (q:PV) (v:Value),(match iN H r with
  | some k=>match k.tag with
   | some g=>bif (k.frozen||!fz)&&Nat.beq sz g.t.size then some (zX g.t ((g.l.drop lo).take n) none) else none
   | none=>none
  | none=>none)=some q->VR w G μ (.win r lo n sz) v->VR w G' aH q v:=λr lo n sz q v h a=>by
  split at h
  next k o=>
   split at h
   next g E=>have⟨d,h⟩:=aJ h;simp only[oA,Bool.or_eq_true,Bool.not_eq_true']at d;simp only[oJ]at h;subst h;exact bLJ B a o E (oE d.2) hG (λb m=>C r k b (aG o) d.1 m) F
   ·cases h
  ·cases h
 intro n;induction n with
 | zero =>
  intro p q v h a;cases p <;> simp only[inl]at h <;> first|(cases h; done)|exact base _ q v h rfl a|exact owned _ _ q v h a|exact s _ _ _ _ q v h a
 | succ n z =>
  intro p q v h a;cases p with
  | lit u=>simp only[inl]at h; exact base _ q v h rfl a
  | vals cs k cap=>simp only[inl]at h; exact base _ q v h rfl a
  | iptr cs=>simp only[inl]at h; exact base _ q v h rfl a
  | junk=>simp only[inl]at h; cases h
  | tl t l cap e=>simp only[inl]at h; exact base _ q v h rfl a
  | tp t l i off e=>simp only[inl]at h; exact base _ q v h rfl a
  | own r sz=>simp only[inl]at h; exact owned r sz q v h a
  | op r i off sz=>simp only[inl]at h; cases h
  | row j lo n sz=>simp only[inl]at h; exact base _ q v h rfl a
  | rp j off=>simp only[inl]at h; cases h
  | mp j=>simp only[inl]at h; cases h
  | tm l=>simp only[inl]at h; cases h
  | qs r sz=>simp only[inl]at h; cases h
  | win r lo n sz=>simp only[inl]at h; exact s r lo n sz q v h a
  | hs r off len cap sz =>
   simp only[inl]at h;split at h
   ·rename_i k o;cases d:((k.frozen||!fz)&&Nat.ble (off+len*sz) k.cells.length)with
    | false=>rw[d]at h; cases h
    | true =>
     rw[d]at h;simp only[oC]at h;simp only[oA,Bool.or_eq_true,Bool.not_eq_true']at d;split at h
     next cs x=>simp only[oJ]at h;subst h;rw[VR]at a; rw[VR];obtain⟨b,c,m,rfl,D,_,_⟩:=a;have⟨c',g2,g3,_⟩:=B.blk r k b (aG o) m;refine⟨_,c,rfl,D,λk o=>(by cases o),.inr ⟨b,μ.sh r+off,rfl,C r k b (aG o) d.1 m,?_⟩⟩;have:=g3.sub off (len*sz);exact aXL (λp q v h a=>z p q v h a) x this
     ·cases h
   ·cases h
  | hptr r off =>
   simp only[inl]at h;split at h
   ·rename_i k o;cases d:(k.frozen||!fz)with
    | false=>rw[d]at h; cases h
    | true =>
     rw[d]at h;simp only[oC]at h;simp only[Bool.or_eq_true,Bool.not_eq_true']at d;split at h
     next cs x=>simp only[oJ]at h;subst h;rw[VR]at a; rw[VR];obtain⟨b,m,rfl⟩:=a;have⟨c',g2,g3,_⟩:=B.blk r k b (aG o) m;refine⟨b,μ.sh r+off,rfl,C r k b (aG o) d m,?_⟩;have:=g3.drop off;exact aXL (λp q v h a=>z p q v h a) x this
     ·cases h
   ·cases h
  | agg cs =>
   simp only[inl]at h;split at h
   next qs y=>simp only[oJ]at h;subst h;rw[VR]at a ⊢;have⟨vs,m,A⟩:=a;exact⟨vs,m,aHN (λp q v h a=>z p q v h a) y A⟩
   ·cases h
  | tuple cs =>
   simp only[inl]at h;split at h
   next qs y=>simp only[oJ]at h;subst h;rw[VR]at a ⊢;have⟨vs,m,A⟩:=a;exact⟨vs,m,aHN (λp q v h a=>z p q v h a) y A⟩
   ·cases h
  | clo fn f c =>
   simp only[inl]at h;split at h
   next f' c' J K=>simp only[oJ]at h;subst h;rw[VR]at a ⊢;have⟨I,cs,m,A,D⟩:=a;exact⟨I,cs,m,aHN (λp q v h a=>z p q v h a) J A,aHN (λp q v h a=>z p q v h a) K D⟩
   ·cases h
def IE(P:Program) (g:FuncId) (args:List PV) (r:PV):Prop :=∀ (w:World) (G:Nat->Prop) (vs:Array Value),Lt w G->VRs w (Gd.of G) aH args vs.toList ->(callFunc g vs).run P w=.ok (.enter g vs) w/\Calls P g vs w λe w'=>∃ v' G',e=.returned v'/\Ext (RL w) w (Gd.of G) aH w' (Gd.of G') aH/\(∀ b,G' b->b<w'.heap.size)/\VR w' (Gd.of G') aH r v'
def a5W:PV->Bool| .lit _=>true| _=>false
def bG2:PV->Bool| .lit _=>true| .agg cs=>cs.all a5W| _=>false
def flat:PV->Bool| .lit _=>true| .agg cs=>cs.all a5W| .tuple cs=>cs.all bG2| _=>false
def a2B {w' G'}:∀ {ps vs},ps.all a5W=true->VRs w G aH ps vs->VRs w' G' μ ps vs
 | [],vs,_,h=>h
 | p::ps,vs,hf,h=>by
  simp only[List.all_cons,oA]at hf;have⟨x,xs,b,a,c⟩:=h;refine⟨x,xs,b,?_,a2B hf.2 c⟩;cases p <;> simp only[a5W]at hf <;> try grind
  exact a
def bDL {w' G'}:∀ {ps vs},ps.all bG2=true->VRs w G aH ps vs->VRs w' G' μ ps vs
 | [],vs,_,h=>h
 | p::ps,vs,hf,h=>by
  simp only[List.all_cons,oA]at hf;have⟨x,xs,b,a,d⟩:=h;refine⟨x,xs,b,?_,bDL hf.2 d⟩;cases p <;> simp only[bG2]at hf <;> try grind
  ·exact a
  ·have⟨us,e,c⟩:=a;exact⟨us,e,a2B hf.1 c⟩
def bX8 {w' G' p v}(b:flat p=true)(h:VR w G aH p v):VR w' G' μ p v:=by
 cases p <;> simp only[flat]at b <;> try grind
 exact h;have⟨vs,c,a⟩:=h;exact⟨vs,c,a2B b a⟩;have⟨vs,c,a⟩:=h;exact⟨vs,c,bDL b a⟩
def bC1(hW:aX n0 G μ H w) {w':World} {G0 G1:Gd} (hG:∀ b,G b->G0 b) (hG0:∀ b,G0 b->G b\/∃ r,μ.loc r=some b) (e:Ext (RL w) w G0 aH w' G1 aH) (hlt:∀ b,G1 b->b<w'.heap.size) {G':Gd}
  (hG':∀ b,G' b->G b\/w.heap.size<=b/\b<w'.heap.size) (hGG':∀ b,G b->G' b) (hrow:∀ j,G'.row j=G.row j):Ext n0 w G μ w' G' μ/\aX n0 G' μ H w':=by
 have e':Ext n0 w G μ w' G' μ:={
  good:=λb hb=>⟨hGG' b hb,e.old b (hW.lt b hb) (Nat.not_le.2 (hW.lt b hb))⟩
  map:=λ_ _ h=>h
  len:=λ_ _ h=>h
  room:=e.room
  row:=λj b h=>by rw[hrow]; exact h
  os:=e.os
  tape:=e.tape
  output:=e.output
  size:=e.size
  old:=λb hb _=>e.old b hb (Nat.not_le.2 hb)
  new:=λb hb=>by
   rcases hG' b hb with h|h
   ·exact .inl h
   ·exact .inr (hW.base b h.1) }
 refine⟨e',hW.keep e' ⟨hrow,λj b hj=>?_⟩ ?_ ?_⟩;have hlt:=(hW.rows.sep j b hj).1;refine⟨e.old b hlt (Nat.not_le.2 hlt),λhb'=>?_⟩;rcases hG' b hb' with h|h;exact h;omega;intro r k b hr hb;have hlt:b<w.heap.size:=hW.vB hr hb;refine⟨e.old b hlt (Nat.not_le.2 hlt),λhb'=>?_⟩;rcases hG' b hb' with h|h;exact h;omega;intro b hb;rcases hG' b hb with h|h;exact Nat.lt_of_lt_of_le (hW.lt b h) e.size;exact h.2
def bCT(d:aX n0 G μ H w) {g:FuncId} {args qs:List PV} {r:PV} {n:Nat} {vs:List Value} (hp:IE P g qs r) (u:aPE (inl false H n) args=some qs) (hn:gP.noRows qs=true) (x:flat r=true) (m:VRs w G μ args vs):DI P n0 w G μ g vs.toArray r H:=by
 have c:∀ r k b,H[r]?=some (some k)->μ.loc r=some b->b<w.heap.size:=λr k b l a=>by exact d.vB l a
 have i:VRs w (⟨λb=>b<w.heap.size,G.row⟩:Gd) aH qs vs:=aHN (λp q v h m=>ZP (G':=⟨λb=>b<w.heap.size,G.row⟩) d (λ_ _ h=>h) (λb a=>d.lt b a) (λr k b l _ a=>c r k b l a) n p q v h m) u m;have i:VRs w (Gd.of λb=>b<w.heap.size) aH qs vs:=CC (G:=⟨λb=>b<w.heap.size,G.row⟩) (G':=Gd.of λb=>b<w.heap.size) (λb h=>h) _ _ _ hn i;have⟨y,z⟩:=hp w (λb=>b<w.heap.size) vs.toArray d.lt.all (by simpa using i)
 refine⟨y,z.mono ?_⟩;rintro e w' ⟨v',G',rfl,f,A,t⟩;have o:Ext n0 w G μ w' G μ:={
  good:=λb a=>⟨a,f.old b (d.lt b a) (Nat.not_le.2 (d.lt b a))⟩
  map:=λ_ _ h=>h
  len:=λ_ _ h=>h
  room:=f.room
  row:=λ_ _ h=>h
  os:=f.os
  tape:=f.tape
  output:=f.output
  size:=f.size
  old:=λb a _=>f.old b a (Nat.not_le.2 a)
  new:=λb a=>.inl a }
 refine⟨v',G,μ,rfl,o,d.keep o ⟨λ_=>rfl,λj b s=>⟨f.old b (d.rows.sep j b s).1 (Nat.not_le.2 (d.rows.sep j b s).1),id⟩⟩ ?_ ?_,bX8 x t⟩;intro r k b l a;exact⟨f.old b (c r k b l a) (Nat.not_le.2 (c r k b l a)),id⟩;intro b a;exact Nat.lt_of_lt_of_le (d.lt b a) f.size
def bSA(i:aX n0 G μ H w) {g:FuncId} {args qs:List PV} {r:PV} {n:Nat} {vs:List Value} (hp:IE P g qs r) (u:aPE (inl true H n) args=some qs) (hn:gP.noRows qs=true) (j:VRs w G μ args vs):DI P n0 w G μ g vs.toArray r H:=by
 have d:VRs w G aH qs vs:=aHN (λp q v h j=>ZP i (λ_ _ h=>h) (λb a=>a) (λr k b z f a=>by
  have⟨c,o,_,_,t,_⟩:=i.blk r k b z a;rcases f with f|f
  ·exact t f
  ·cases f) n p q v h j) u j
 have d:VRs w (Gd.of G.ok) aH qs vs:=CC (G:=G) (G':=Gd.of G.ok) (λb h=>h) _ _ _ hn d;have⟨x,o⟩:=hp w G.ok vs.toArray i.lt (by simpa using d);refine⟨x,o.mono ?_⟩;rintro e w' ⟨v',G',rfl,l,m,s⟩;have⟨A,y⟩:=bC1 (G':=⟨G',G.row⟩) i (G0:=Gd.of G.ok) (λb h=>h) (λb h=>.inl h) l m (λb a=>by
  rcases l.new b a with h|h
  ·exact .inl h
  ·exact .inr ⟨h,m b a⟩) (λb a=>(l.good b a).1) (λ_=>rfl)
 exact⟨v',⟨G',G.row⟩,μ,rfl,A,y,(VR.mono (a6L (λb h=>h)) _ _ s).bF⟩
end
def reach(H:Heap):Nat->PV->List Nat| n+1,.hs r _ _ _ _=>r::(match iN H r with|some k=>k.cells.flatMap (λp=>reach H n p)|none=>[])| n+1,.hptr r _=>r::(match iN H r with|some k=>k.cells.flatMap (λp=>reach H n p)|none=>[])| _,.own r _=>[r]| _,.op r _ _ _=>[r]| _,.win r _ _ _=>[r]| n+1,.agg cs=>cs.flatMap (λp=>reach H n p)| n+1,.tuple cs=>cs.flatMap (λp=>reach H n p)| n+1,.clo _ f c=>f.flatMap (λp=>reach H n p)++c.flatMap (λp=>reach H n p)| _,_=>[]
def depth:Nat:=16
def b2U(P:Program) (t:TypeId):Bool:=match P.info? t with| some i=>!i.hasPointers||(match P.underlying t with|some .string=>true|_=>false)| none=>false
def a6T(P:Program)(g:FuncId):Bool:=match P.funcs[g]? with| some fn=>fn.resultTypes.toList.all (b2U P)| none=>false
def callee(P:Program) (sh:FuncId->Bool) (pure:FuncId->List PV->Option PV) (shared:FuncId->List PV->Heap->Option (PV×Heap)):Callee:=λg args H=>bif sh g then match shared g args H with| some (r,H')=>some (r,H',2)| none=>none else bif eM.noRefs args then bif gP.noRows args then match pure g args with| some r=>some (r,H,0)| none=>none else none else bif a6T P g then match aPE (λp=>inl false H depth p) args with| some qs=>bif gP.noRows qs then match pure g qs with| some r=>bif flat r then some (r,H,1) else none| none=>none else none| none=>none else match NC H (args.flatMap (λp=>reach H depth p))with| H1=>match aPE (λp=>inl true H1 depth p) args with| some qs=>bif gP.noRows qs then match pure g qs with| some r=>some (r,H1,2)| none=>none else none| none=>none
section
variable {P:Program} {n0:Nat->Prop} {w:World} {G:Gd} {μ:Mp} {H:Heap}
def DI.trans {g vs r H' G1}(e:Ext n0 w G μ w G1 μ)(h:DI P n0 w G1 μ g vs r H'):DI P n0 w G μ g vs r H':=by
 refine⟨h.1,h.2.mono ?_⟩;rintro x w' ⟨v',G',μ',rfl,b,c,a⟩;exact⟨v',G',μ',rfl,e.trans b,c,a⟩
def bCS {sh pure shared} (hp:∀ g args r,pure g args=some r->IE P g args r)
  (y:∀ g args H r H',shared g args H=some (r,H')->∀ {n0 G μ w vs},aX n0 G μ H w->VRs w G μ args vs->DI P n0 w G μ g vs.toArray r H'):dS P (callee P sh pure shared) where
 call:=by
  intro g args H r H' c h n0 G μ w vs l o;unfold callee at h;cases d:sh g with
  | true =>
   rw[d]at h;simp only[oC]at h;split at h
   next i H1 j=>simp only[oJ,oP]at h;obtain⟨rfl,rfl,rfl⟩:=h;exact y g args H i H1 j l o
   ·cases h
  | false =>
   rw[d]at h;simp only[oD]at h;cases hn:eM.noRefs args with
   | true =>
    rw[hn]at h;simp only[oC]at h;have⟨f,h⟩:=aJ h;split at h
    ·rename_i i j;simp only[oJ,oP]at h;obtain⟨rfl,rfl,rfl⟩:=h;have⟨u,z⟩:=hp g args i j w G.ok vs.toArray l.lt (by simpa using CC (G:=G) (G':=Gd.of G.ok) (λb h=>h) _ _ _ f (cZ _ _ hn o));refine⟨u,z.mono ?_⟩;rintro e w' ⟨v',G',rfl,k,t,A⟩;have⟨x,v⟩:=bC1 (G':=⟨G',G.row⟩) l (G0:=Gd.of G.ok) (λb h=>h) (λb h=>.inl h) k t (λb n=>by
      rcases k.new b n with h|h
      ·exact .inl h
      ·exact .inr ⟨h,t b n⟩) (λb n=>(k.good b n).1) (λ_=>rfl)
     exact⟨v',⟨G',G.row⟩,μ,rfl,x,v,(VR.mono (a6L (λb h=>h)) _ _ A).bF⟩
    ·cases h
   | false =>
    rw[hn]at h;simp only[oD]at h;cases m:a6T P g with
    | true =>
     rw[m]at h;simp only[oC]at h;split at h
     ·rename_i qs s;have⟨f,h⟩:=aJ h;split at h
      ·rename_i i j;cases a:flat i with
       | true =>
        rw[a]at h;simp only[oC,oJ,oP]at h;obtain⟨rfl,rfl,rfl⟩:=h;exact bCT l (hp g qs i j) s f a o
       | false=>rw[a]at h; cases h
      ·cases h
     ·cases h
    | false =>
     rw[m]at h;simp only[oD]at h;split at h
     ·rename_i qs s;have⟨f,h⟩:=aJ h;split at h
      next i j=>simp only[oJ,oP]at h;obtain⟨rfl,rfl,rfl⟩:=h;have⟨G1,k,q⟩:=NW (args.flatMap (λp=>reach H depth p)) H G l;exact(bSA q (hp g qs i j) s f (VRs.mono k.toMono _ _ o)).trans k
      ·cases h
     ·cases h
 free:=by
  intro g args H r H' h;unfold callee at h ⊢;grind
 reads:=by
  intro g args H r H' h;unfold callee at h;cases d:sh g with
  | true =>
   rw[d]at h;simp only[oC]at h;split at h
   ·simp only[oJ,oP]at h;exact absurd h.2.2 O
   ·cases h
  | false =>
   rw[d]at h;simp only[oD]at h;cases hn:eM.noRefs args with
   | true =>
    rw[hn]at h;simp only[oC]at h;have⟨_,h⟩:=aJ h;split at h
    ·simp only[oJ,oP]at h;exact absurd h.2.2 O
    ·cases h
   | false =>
    rw[hn]at h;simp only[oD]at h;cases m:a6T P g with
    | true =>
     rw[m]at h;simp only[oC]at h;split at h
     ·have⟨_,h⟩:=aJ h;split at h
      ·rename_i i j;cases a:flat i with
       | true =>
        rw[a]at h;simp only[oC,oJ,oP]at h;exact h.2.1.symm
       | false=>rw[a]at h; cases h
      ·cases h
     ·cases h
    | false =>
     rw[m]at h;simp only[oD]at h;split at h
     ·have⟨_,h⟩:=aJ h;split at h
      ·simp only[oJ,oP]at h;exact absurd h.2.2 O
      ·cases h
     ·cases h
def XH {g:FuncId} {args:List PV} {v q:PV} {H':Heap} {n:Nat} (A:∀ {n0 G μ w vs},aX n0 G μ [] w->VRs w G μ args vs->DI P n0 w G μ g vs.toArray v H') (y:inl false H' n v=some q) (hn:gP q=true):IE P g args q:=by
 intro w G vs j z;have u:aX (RL w) (Gd.of G) aH [] w:=⟨λr k b h=>by simp at h,λr k g h=>by simp at h,λr s k l b h=>by simp at h,j,λ_ _=>⟨rfl,rfl⟩,λ_ h=>h,BU.none _ _ (λ_=>rfl) _ _ (λr k h=>by simp at h)⟩;have⟨o,t⟩:=A u z;have m:vs.toList.toArray=vs:=R;rw[m]at o t;refine⟨o,t.mono ?_⟩;rintro e w' ⟨v',G1,μ1,rfl,d,i,x⟩;refine⟨v',λb=>G1 b\/∃ r k,H'[r]?=some (some k)/\μ1.loc r=some b,rfl,?_,?_,?_⟩
 ·exact {
   good:=λb a=>⟨.inl (d.good b a).1,(d.good b a).2⟩
   map:=λ_ _ h=>h
   len:=λ_ _ h=>h
   room:=d.room
   row:=λ_ _ h=>h
   os:=d.os
   tape:=d.tape
   output:=d.output
   size:=d.size
   old:=d.old
   new:=λb a=>by
    rcases a with a|⟨r,k,f,a⟩
    ·exact d.new b a
    ·have⟨c,_,_,_,g5,g6⟩:=i.blk r k b f a;cases p:k.frozen with
     | true=>exact d.new b (g5 p)
     | false=>exact .inr (g6 p).1 }
 rintro b (a|⟨r,k,f,a⟩);exact i.lt b a;exact i.vB f a
 ·exact XU (G:=⟨λb=>G1 b\/∃ r k,H'[r]?=some (some k)/\μ1.loc r=some b,G1.row⟩) (G':=Gd.of _) (λb h=>h) _ _ _ hn
   (ZP (G':=⟨λb=>G1 b\/∃ r k,H'[r]?=some (some k)/\μ1.loc r=some b,G1.row⟩) i (λ_ _ h=>h) (λb a=>.inl a) (λr k b f _ a=>.inr ⟨r,k,f,a⟩) n v q v' y x)
def enters {g:Nat}{fn}(h:P.funcs[g]?=some fn)(hn:(fn.name== "runtime.NumGoroutine")=false)(a:fn.body.isNone=false) xs w:(callFunc g xs).run P w=.ok (.enter g xs) w:=by
 unfold callFunc;simp only[Sem.run_bind,program,Sem.run,Result.andThen_ok,h,hn,a];rfl
end
def bFH(H:Heap) (v:PV):Option PV:=match inl false H depth v with| some q=>bif gP q then some q else none| none=>none
def OL {H v q}(h:bFH H v=some q):inl false H depth v=some q/\gP q=true:=by
 unfold bFH at h;grind
def bXE(P:Program) (cfgs:FuncId->Cfg) (sh:FuncId->Bool) (prim:FuncId->List PV->Option PV) (L:Nat):Nat->FuncId->List PV->Heap->Option (PV×Heap)
 | 0,_,_,_=>none
 | n+1,g,args,H=>match P.funcs[g]? with
  | some fn=>match a6G P (callee P sh (λg as1=>match prim g as1 with
    | some r=>some r
    | none=>match bXE P cfgs sh prim L n g as1 []with
     | some (v,H')=>bFH H' v
     | none=>none) (λg as1 H=>bXE P cfgs sh prim L n g as1 H)) (cfgs g) L fn args H with
   | some (v,_,H')=>some (v,H')
   | none=>none
  | none=>none
def a9C(P:Program) (cfgs:FuncId->Cfg) (sh:FuncId->Bool) (prim:FuncId->List PV->Option PV) (L n:Nat) (g:FuncId) (args:List PV):Option PV :=match bXE P cfgs sh prim L n g args []with| some (v,H')=>bFH H' v| none=>none
structure WV (P:Program):Prop where
 mixed:P.follows .mixedOrders=true
 names:∀ (g:Nat) (fn:Func),P.funcs[g]?=some fn->(fn.name== "runtime.NumGoroutine")=false
section
variable {P:Program} {cfgs:FuncId->Cfg} {sh:FuncId->Bool} {prim:FuncId->List PV->Option PV} {L:Nat}
def bN6(hP:WV P)(hprim:∀ g args r,prim g args=some r->IE P g args r):∀ n g args H r H',bXE P cfgs sh prim L n g args H=some (r,H') ->
  ∀ {n0 G μ w vs},aX n0 G μ H w->VRs w G μ args vs->DI P n0 w G μ g vs.toArray r H':=by
 intro n;induction n with
 | zero=>intro g args H r H' h; cases h
 | succ n ih =>
  intro g args H r H' h n0 G μ w vs hW hv;simp only[bXE]at h;split at h
  next fn hg=>
   split at h
   ·rename_i v F H1 hb;simp only[oJ,oP]at h;obtain⟨rfl,rfl⟩:=h;refine⟨enters hg (hP.names g fn hg) ?_ _ _,?_⟩
    ·unfold a6G at hb;grind
    ·refine bA5 (bCS ?_ ?_) hP.mixed hg hb hW (by simpa using hv)
     ·intro g' args' r' h';split at h'
      ·grind
      ·split at h'
       next v1 H2 hr=>exact XH (λhW hv=>ih g' args' [] v1 H2 hr hW hv) (OL h').1 (OL h').2
       ·cases h'
     ·intro g' args' H0 r' H2 h';exact ih g' args' H0 r' H2 h'
   ·cases h
  ·cases h
def JP(hP:WV P)(hprim:∀ g args r,prim g args=some r->IE P g args r){n g args r}(h:a9C P cfgs sh prim L n g args=some r):IE P g args r:=by
 unfold a9C at h;split at h;rename_i v H' hr;exact XH (λhW hv=>bN6 hP hprim n g args [] v H' hr hW hv) (OL h).1 (OL h).2;grind
end
def bWM:Operand->Nat| .tmp t=>2^t| _=>0
def bitsOf(m:Nat):List Operand->Nat| []=>m| .tmp t::r=>bitsOf (m ||| 2^t) r| _::r=>bitsOf m r
def XQ(m d:Nat):Nat:=(m ||| d) ^^^ d
def bUJ(l:List Oper)(o:Oper):Nat:=match o.guard with
 | some (j,_)=>match l[j]? with
  | some p=>match p.dst with|some t=>2^t|none=>0
  | none=>0
 | none=>0
def aRT(l:List Oper):List Oper->Nat->Nat->Nat| [],_,acc=>acc| o::r,d,acc=>aRT l r (match o.dst with|some t=>d ||| 2^t|none=>d) (acc ||| XQ (bitsOf (bUJ l o) o.op.operands.toList) d)
def VY:Code->Nat| .region _ ops _=>aRT ops.toList ops.toList 0 0| .seq a b=>VY a ||| VY b| .cond c a b=>bWM c ||| VY a ||| VY b| .block _ a=>VY a| .loop a=>VY a| .scope a=>VY a| _=>0
def aKB:List ResultVar->Nat->Nat| [],m=>m| .tmp t::r,m=>aKB r (m ||| 2^t)| .cell t _::r,m=>aKB r (m ||| 2^t)
def aP(fn:Func):Nat:=match fn.body with| some c=>aKB fn.results.toList (VY c)| none=>0
def bPT(m:Nat):Nat->List Nat->List Nat| 0,l=>l| n+1,l=>bPT m n (bif aJT m n then n::l else l)
def aVR(P:Program)(g:FuncId):Cfg:=match P.funcs[g]? with| some fn=>⟨fn.ntmps,aP fn,bPT (aP fn) fn.ntmps [],[],0⟩| none=>⟨0,0,[],[],0⟩
inductive Kd where
 | int (k:IntKind)
 | bool
 | str
 | list (t:Ty)
 | agg (t:Ty)
 | own (e:TypeId) (t:Ty)
 | box (e:TypeId) (t:Ty)
 | ptr (t:Ty)
 | fn (g:FuncId)
 | nil0
 | val
 | nilI
 | clo (g:FuncId) (ts:List Ty)
 | win (j sz:Nat)
 | bown (e et:TypeId) (t:Ty)
 | bque (e et:TypeId) (t:Ty)
 | bag (e:TypeId) (t1:Ty) (et:TypeId) (t:Ty) (t2:Option Ty)
 | bag2 (e:TypeId) (t1:Ty×Option Ty) (et:TypeId) (t:Ty) (eu:TypeId) (u:Ty)
 | hnd (sz:Nat)
 | mpk (j:Nat)
 | ar (e:TypeId) (t:Ty)
@[reducible] def bX5:Option Ty->Type| none=>Unit| some t=>t.den
def bZM:(t:Option Ty)->bX5 t->List PV| none,_=>[]| some t,x=>enc t x
@[reducible] def TZ:List Ty->Type| []=>Unit| t::r=>t.den×TZ r
@[reducible] def Kd.den:Kd->Type| .int _=>Int| .bool=>Bool| .str=>ByteArray| .list t=>List t.den| .agg t=>t.den| .own _ t=>List t.den| .box _ t=>t.den| .ptr t=>t.den| .fn _=>Unit| .nil0=>Unit| .val=>Value| .nilI=>Unit| .clo _ ts=>TZ ts| .win _ _=>Nat×Nat| .bown _ _ t=>List t.den| .bque _ _ t=>List t.den| .bag _ t1 _ t t2=>t1.den×List t.den×bX5 t2| .bag2 _ t1 _ t _ u=>(t1.1.den×bX5 t1.2)×List t.den×List u.den| .hnd _=>Nat×Nat×Nat| .mpk _=>Unit| .ar _ t=>List (List t.den)
abbrev zb:=List (Nat×Kd)
abbrev Shape:=zb
@[reducible] def Shape.den:zb->Type| []=>Unit|(_,k)::r=>k.den×Shape.den r
def Kd.pos:Kd->Nat| .own _ _|.box _ _|.ar _ _=>1| .bown _ _ _=>2| .bque _ _ _=>2| .bag _ _ _ _ _=>2| .bag2 _ _ _ _ _ _=>3| _=>0
def aOU:(ts:List Ty)->TZ ts->List PV| [],_=>[]| t::r,(x,xs)=>.iptr (enc t x)::aOU r xs
def OB:(k:Kd)->k.den->Nat->PV| .int k,x,_=>.lit (.int k x)| .bool,x,_=>.lit (.bool x)| .str,x,_=>.lit (.string x)| .list t,l,_=>zX t l none| .agg t,x,_=>.agg (enc t x)| .own _ t,_,n=>.own n t.size| .box _ _,_,n=>.hptr n 0| .ptr t,x,_=>.iptr (enc t x)| .fn g,_,_=>.lit (.func (.func g) #[] #[])| .nil0,_,_=>.lit (.slice none 0 0)| .val,x,_=>.lit x| .nilI,_,_=>.lit .nilIface| .clo g ts,x,_=>.clo (.func g) [] (aOU ts x)| .win j sz,x,_=>.win j x.1 x.2 sz| .bown _ _ _,_,n=>.hptr n 0| .bque _ _ _,_,n=>.hptr n 0| .bag _ _ _ _ _,_,n=>.hptr n 0| .bag2 _ _ _ _ _ _,_,n=>.hptr n 0| .hnd sz,x,_=>.row x.1 x.2.1 x.2.2 sz| .mpk j,_,_=>.mp j| .ar _ _,_,_=>.junk
def b0X:(k:Kd)->k.den->Nat->Heap| .own e t,l,_=>[some ⟨aI t l,e,true,false,some ⟨t,l⟩⟩]| .box e t,x,_=>[some ⟨enc t x,e,false,false,none⟩]| .bown e et t,l,n=>[some ⟨[.own (n+1) t.size],e,false,false,none⟩,some ⟨aI t l,et,true,false,some ⟨t,l⟩⟩]| .bque e et t,l,n=>[some ⟨[.qs (n+1) t.size],e,false,false,none⟩,some ⟨aI t l,et,true,false,some ⟨t,l⟩⟩]| .bag e t1 et t t2,x,n=>[some ⟨enc t1 x.1++.own (n+1) t.size::bZM t2 x.2.2,e,false,false,none⟩,some ⟨aI t x.2.1,et,true,false,some ⟨t,x.2.1⟩⟩]| .bag2 e t1 et t eu u,x,n=>[some ⟨enc t1.1 x.1.1++.own (n+1) t.size::.own (n+2) u.size::bZM t1.2 x.1.2,e,false,false,none⟩,some ⟨aI t x.2.1,et,true,false,some ⟨t,x.2.1⟩⟩,some ⟨aI u x.2.2,eu,true,false,some ⟨u,x.2.2⟩⟩]| .ar e t,l,_=>[some ⟨aI (.rows t) l,e,false,false,some ⟨.rows t,l⟩⟩]| .int _,_,_|.bool,_,_|.str,_,_|.list _,_,_|.agg _,_,_|.ptr _,_,_|.fn _,_,_|.nil0,_,_|.val,_,_|.nilI,_,_|.clo _ _,_,_|.win _ _,_,_|.hnd _,_,_|.mpk _,_,_=>[]
def KT:(sh:zb)->Shape.den sh->Nat->Frm| [],_,_=>[]|(t,k)::r,(x,xs),n=>(t,OB k x n)::KT r xs (n+k.pos)
def bB8:(sh:zb)->Shape.den sh->Nat->Heap| [],_,_=>[]|(_,k)::r,(x,xs),n=>b0X k x n++bB8 r xs (n+k.pos)
def WN sh (x:Shape.den sh):Heap:=bB8 sh x 0
def RI(e:TypeId)(t:Ty)(p:PV)(H:Heap)(n:Nat):Option (List t.den) :=
 match p with
 | .own s sz=>bif Nat.beq s n&&Nat.beq sz t.size then match iN H n with
  | some k=>match k.tag with
   | some g=>match KZ g.t t g.l with
    | some l=>bif Nat.beq k.ty e&&k.grown&&!k.frozen then some l else none
    | none=>none
   | none=>none
  | none=>none
  else none
 | _=>none
def bAU(e:TypeId)(t:Ty)(p:PV)(H:Heap)(n:Nat):Option t.den :=match p with| .hptr s off=>bif Nat.beq s n&&Nat.beq off 0 then match iN H n with| some k=>bif Nat.beq k.ty e&&!k.grown&&!k.frozen&&!k.tag.isSome then dec t k.cells else none| none=>none else none| _=>none
def aZC(e et:TypeId)(t:Ty)(p:PV)(H:Heap)(n:Nat):Option (List t.den) :=match p with| .hptr s off=>bif Nat.beq s n&&Nat.beq off 0 then match iN H n with| some k=>bif Nat.beq k.ty e&&!k.grown&&!k.frozen&&!k.tag.isSome then match k.cells with| [.own r sz]=>RI et t (.own r sz) H (n+1)| _=>none else none| none=>none else none| _=>none
def aZ0(e et:TypeId)(t:Ty)(p:PV)(H:Heap)(n:Nat):Option (List t.den) :=match p with| .hptr s off=>bif Nat.beq s n&&Nat.beq off 0 then match iN H n with| some k=>bif Nat.beq k.ty e&&!k.grown&&!k.frozen&&!k.tag.isSome then match k.cells with| [.own r sz]=>bif Nat.beq sz t.size then RI et t (.own r sz) H (n+1) else none| [.qs r sz]=>bif Nat.beq sz t.size then RI et t (.own r sz) H (n+1) else none| _=>none else none| none=>none else none| _=>none
def b1T:(t:Option Ty)->List PV->Option (bX5 t)
 | none,cs=>match cs with
  | []=>some ()
  | _::_=>none
 | some t,cs=>dec t cs
def bA1(e:TypeId)(t1:Ty)(et:TypeId)(t:Ty) t2 (p:PV)(H:Heap)(n:Nat):Option (t1.den×List t.den×bX5 t2) :=
 match p with
 | .hptr s off=>bif Nat.beq s n&&Nat.beq off 0 then match iN H n with
  | some k=>bif Nat.beq k.ty e&&!k.grown&&!k.frozen&&!k.tag.isSome then match k.cells.drop t1.size with
   | .own r sz::rest=>match dec t1 (k.cells.take t1.size),RI et t (.own r sz) H (n+1),b1T t2 rest with
    | some a,some l,some b=>some (a,l,b)
    | _,_,_=>none
   | _=>none
   else none
  | none=>none
  else none
 | _=>none
def a0A (e : TypeId) (t1 : Ty × Option Ty) (et : TypeId) (t : Ty) (eu : TypeId) (u : Ty) (p : PV) (H : Heap) (n : Nat) : Option ((t1.1.den × bX5 t1.2) × List t.den × List u.den) :=
  match p with
  | .hptr s off => bif Nat.beq s n && Nat.beq off 0 then match iN H n with
    | some k => bif Nat.beq k.ty e && !k.grown && !k.frozen && !k.tag.isSome then match k.cells.drop t1.1.size with
      | .own r sz :: .own r2 sz2 :: rest => match dec t1.1 (k.cells.take t1.1.size), RI et t (.own r sz) H (n + 1), RI eu u (.own r2 sz2) H (n + 2), b1T t1.2 rest with
        | some a, some l, some b, some c => some ((a, c), l, b)
        | _, _, _, _ => none
      | _ => none
      else none
    | none => none
    else none
  | _ => none
def bQD(e:TypeId)(t:Ty)(H:Heap)(n:Nat):Option (List (List t.den)):=match iN H n with
 | some k=>match k.tag with
  | some g=>match KZ g.t (.rows t) g.l with
   | some l=>bif Nat.beq k.ty e&&!k.grown&&!k.frozen then some l else none
   | none=>none
  | none=>none
 | none=>none
def bOI(t:Ty):PV->Option t.den| .agg cs=>dec t cs| _=>none
def bHB(t:Ty):PV->Option t.den| .iptr cs=>dec t cs| _=>none
def bZK:(ts:List Ty)->List PV->Option (TZ ts)
 | [],[]=>some ()
 | t::r,p::ps=>match bHB t p with
  | some x=>match bZK r ps with
   | some xs=>some (x,xs)
   | none=>none
  | none=>none
 | _,_=>none
def bVS(j:Nat):PV->Option Unit| .mp i=>bif Nat.beq i j then some () else none| _=>none
def bUH(g:FuncId):PV->Option Unit| .lit (.func (.func f) first caps)=>bif Nat.beq f g&&Nat.beq first.size 0&&Nat.beq caps.size 0 then some () else none| _=>none
def bLS:PV->Option Unit| .lit (.slice none o c)=>bif Nat.beq o 0&&Nat.beq c 0 then some () else none| _=>none
def bOE:PV->Option Value| .lit v=>some v| _=>none
def bE3:PV->Option Unit| .lit .nilIface=>some ()| _=>none
def a0F {p x}(h:bOE p=some x):p=.lit x:=by
 unfold bOE at h;grind
def aVK {p x}(h:bE3 p=some x):p=.lit .nilIface:=by
 unfold bE3 at h;grind
def bEY(g:FuncId) ts:PV->Option (TZ ts)| .clo (.func f) [] caps=>bif Nat.beq f g then bZK ts caps else none| _=>none
def bLT(j sz:Nat):PV->Option (Nat×Nat)| .win r lo n s=>bif Nat.beq r j&&Nat.beq s sz then some (lo,n) else none| _=>none
def aUT:(k:Kd)->PV->Heap->Nat->Option k.den| .int k,p,_,_=>bGE k [p]| .bool,p,_,_=>a6H [p]| .str,p,_,_=>bGJ [p]| .list t,p,_,_=>dec (.list t) [p]| .agg t,p,_,_=>bOI t p| .own e t,p,H,n=>RI e t p H n| .box e t,p,H,n=>bAU e t p H n| .ptr t,p,_,_=>bHB t p| .fn g,p,_,_=>bUH g p| .nil0,p,_,_=>bLS p| .val,p,_,_=>bOE p| .nilI,p,_,_=>bE3 p| .clo g ts,p,_,_=>bEY g ts p| .win j sz,p,_,_=>bLT j sz p| .bown e et t,p,H,n=>aZC e et t p H n| .bque e et t,p,H,n=>aZ0 e et t p H n| .bag e t1 et t t2,p,H,n=>bA1 e t1 et t t2 p H n| .bag2 e t1 et t eu u,p,H,n=>a0A e t1 et t eu u p H n| .hnd sz,p,_,_=>bG5 sz [p]| .mpk j,p,_,_=>bVS j p| .ar e t,_,H,n=>bQD e t H n
def bUF:(sh:zb)->Frm->Heap->Nat->Option (Shape.den sh)
 | [],_,_,_=>some ()
 | (t,k)::r,F,H,n=>match aUT k (cR F t) H n with
  | some x=>match bUF r F H (n+k.pos)with
   | some xs=>some (x,xs)
   | none=>none
  | none=>none
def bA3:zb->List (Nat×TypeId×Option Ty)| []=>[]|(t,.own e ty)::r=>(t,e,some ty)::bA3 r|(t,.box e _)::r=>(t,e,none)::bA3 r|(t,.ar e ty)::r=>(t,e,some (.rows ty))::bA3 r| _::r=>bA3 r
def slotsOf:zb->List Nat| []=>[]|(t,_)::r=>t::slotsOf r
def bB1:zb->Nat| []=>0|(_,k)::r=>k.pos+bB1 r
def bVF(e:TypeId) (ty:Ty) (H:Heap):PV->Option (PV×Heap)| .win s lo n sz=>bif Nat.beq lo 0&&Nat.beq sz ty.size then match RI e ty (.own s sz) H s with| some l=>some (.own H.length sz,(H.set s none)++[some ⟨aI ty (l.take n),e,true,false,some ⟨ty,l.take n⟩⟩])| none=>none else none| _=>none
def NQ:zb->Frm->Heap->Frm×Heap
 | [],F,H=>(F,H)
 | (t,.list _)::r,F,H=>match cR F t with
  | .own s _=>match iN H s with
   | some k=>match k.tag with
    | some g=>bif k.frozen then NQ r ((t,zX g.t g.l none)::F) H else NQ r ((t,zX g.t g.l none)::F) (H.set s (some { k with frozen:=true }))
    | none=>NQ r F H
   | none=>NQ r F H
  | _=>NQ r F H
 | (t,.hnd sz)::r,F,H=>match cR F t with
  | .own s sz2=>bif Nat.beq sz2 sz then match bGR H sz s with
   | some (q,H1)=>NQ r ((t,q)::F) H1
   | none=>NQ r F H
   else NQ r F H
  | _=>NQ r F H
 | (t,.own e ty)::r,F,H=>match bVF e ty H (cR F t)with
  | some (q,H1)=>NQ r ((t,q)::F) H1
  | none=>NQ r F H
 | _::r,F,H=>NQ r F H
def aE4(sh:zb) (F:Frm) (H:Heap):Option (Shape.den sh) :=match NQ sh F H with|(F1,H1)=>match tidy ⟨slotsOf sh,bA3 sh,0⟩ F1 H1 with| some (F',H')=>bif Nat.beq H'.length (bB1 sh) then bUF sh F' H' 0 else none| none=>none
section
variable {P:Program} {n0:Nat->Prop} {w wi:World} {G Gi:Gd} {μ μi μ':Mp} {H:Heap} {F:Frm} {a:Act} {nt:Nat}
def uZ(hW:aX n0 G μ H w){e t p n l}(h:RI e t p H n=some l):p=.own n t.size/\H[n]?=some (some ⟨aI t l,e,true,false,some ⟨t,l⟩⟩):=by
 unfold RI at h;split at h;rename_i s sz;replace h:=aJ h;obtain⟨hb,h⟩:=h;simp only[oA]at hb;have h1:=oE hb.1;have h2:=oE hb.2;subst h1; subst h2;split at h;rename_i k hk;split at h;rename_i g hg;split at h;rename_i l' hc;obtain⟨hb,h⟩:=aJ h;simp only[oA]at hb;simp only[oJ]at h;subst h;have ht:=(hW.tags s k g (aG hk) hg).1;obtain⟨rfl,rfl⟩:=mL hc;rw[aG hk];obtain⟨k1,k2,k3,k4,k5⟩:=k;simp_all;cases h;cases h;cases h;cases h
def bBQ(hW:aX n0 G μ H w){e et t p n l}(h:aZC e et t p H n=some l) :
  p=.hptr n 0/\H[n]?=some (some ⟨[.own (n+1) t.size],e,false,false,none⟩)/\H[n+1]?=some (some ⟨aI t l,et,true,false,some ⟨t,l⟩⟩):=by
 unfold aZC at h;split at h;rename_i s off;replace h:=aJ h;obtain⟨hb,h⟩:=h;simp only[oA]at hb;have h1:=oE hb.1;have h2:=oE hb.2;subst h1; subst h2;refine⟨rfl,?_⟩;split at h;rename_i k hk;replace h:=aJ h;obtain⟨hc,h⟩:=h;simp only[oA,Bool.not_eq_true']at hc;obtain⟨⟨⟨c1,c2⟩,c3⟩,c4⟩:=hc;split at h;rename_i r sz hcs;obtain⟨h3,h4⟩:=uZ hW h;cases h3;rw[aG hk];obtain⟨k1,k2,k3,k4,k5⟩:=k;simp_all;cases h;cases h;cases h
def bT7(k k':Blk):Prop:=k.tag=none/\k'.ty=k.ty/\k'.grown=k.grown/\k'.frozen=k.frozen/\k'.tag=none/\∀ (w:World) (G:Gd) (μ:Mp) (b o:Nat),aT w G μ b o k.cells->aT w G μ b o k'.cells/\k'.cells.length=k.cells.length
def bGP(a b:Option (Option Blk)):Prop:=a=b\/∃ k k',a=some (some k)/\b=some (some k')/\bT7 k k'
def aX.bPV (f:aX n0 G μ H w){H'}(h:∀ r:Nat,bGP H[r]? H'[r]?):aX n0 G μ H' w:=by
 have key:∀ (r:Nat) (k':Blk),H'[r]?=some (some k')->∃ k,H[r]?=some (some k)/\(k=k'\/bT7 k k')/\k'.frozen=k.frozen:=(by intro r k' a;rcases h r with d|⟨k,k2,d,e,i⟩;grind;rw[a]at e;cases e;exact⟨k,d,.inr i,i.2.2.2.1⟩);refine⟨?_,?_,?_,f.lt,?_,f.base,f.rows.step (Mono.refl _ _ _) (oM _) (λ_=>rfl) (λj b C=>⟨rfl,id,λr k' a A m=>?_⟩) (λr k' t l a n ht=>?_)⟩
 case refine_5 =>
  grind
 case refine_6 =>
  have⟨k,d,e,i⟩:=key r k' a;rcases e with rfl|⟨_,_,_,_,e4,_⟩
  ·grind
  ·grind
 intro r k' b a u;have⟨k,d,e,i⟩:=key r k' a;have⟨c,B,a2,a3,a4⟩:=f.blk r k b d u;rcases e with rfl|⟨_,e1,e2,e3,_,e5⟩;grind;grind;intro r k' g a n;have⟨k,d,e,_⟩:=key r k' a;rcases e with rfl|⟨_,_,_,_,e4,_⟩;exact f.tags r k g d n;grind;intro r s k l b a p o q m1 m2;have⟨x,d,_,i⟩:=key r k a;have⟨v,z,_,y⟩:=key s l p;exact f.inj r s x v b d z (by rw[<- i]; exact o) (by rw[<- y]; exact q) m1 m2;intro r a;refine f.top r ?_;rcases oG r H.length with m|m;rcases h r with d|⟨k,k',_,e,_⟩;grind;grind;exact m
def bBW(hW:aX n0 G μ H w){e et t p n l}(h:aZ0 e et t p H n=some l) :
  p=.hptr n 0/\bGP H[n]? (some (some ⟨[.qs (n+1) t.size],e,false,false,none⟩))/\H[n+1]?=some (some ⟨aI t l,et,true,false,some ⟨t,l⟩⟩):=by
 unfold aZ0 at h;split at h
 ·replace h:=aJ h;obtain⟨hb,h⟩:=h;simp only[oA]at hb;have h1:=oE hb.1;have h2:=oE hb.2;subst h1; subst h2;refine⟨rfl,?_⟩;split at h
  next k hk=>
   replace h:=aJ h;obtain⟨hc,h⟩:=h;simp only[oA,Bool.not_eq_true']at hc;obtain⟨⟨⟨c1,c2⟩,c3⟩,c4⟩:=hc;have c1:=oE c1;split at h;rename_i r sz hcs;obtain⟨_,h⟩:=aJ h;obtain⟨h3,h4⟩:=uZ hW h;cases h3;refine⟨.inr ⟨k,_,aG hk,rfl,by simpa using c4,c1.symm,c2.symm,c3.symm,rfl,?_⟩,h4⟩;intro w G μ b o hc;rw[hcs]at hc ⊢;obtain⟨⟨v,u1,u2⟩,_⟩:=hc;refine⟨?_,rfl⟩;exact⟨⟨v,u1,bNW u2⟩,trivial⟩
   ·rename_i r sz hcs;obtain⟨_,h⟩:=aJ h;obtain⟨h3,h4⟩:=uZ hW h;cases h3;refine⟨?_,h4⟩;rw[aG hk];obtain⟨k1,k2,k3,k4,k5⟩:=k;dsimp only at c1 c2 c3 c4 hcs;rw[hcs,c1,c2,c3];cases k5 with
    | none=>exact .inl rfl;| some g=>simp at c4
   cases h
  cases h
 cases h
def bG8 {e t p n x}(h:bAU e t p H n=some x):p=.hptr n 0/\bGP H[n]? (some (some ⟨enc t x,e,false,false,none⟩)):=by
 unfold bAU at h;split at h;replace h:=aJ h;obtain⟨hb,h⟩:=h;simp only[oA]at hb;have h1:=oE hb.1;have h2:=oE hb.2;subst h1; subst h2;refine⟨rfl,?_⟩;split at h;rename_i k hk;obtain⟨hc,h⟩:=aJ h;simp only[oA,Bool.not_eq_true']at hc;obtain⟨⟨⟨c1,c2⟩,c3⟩,c4⟩:=hc;have c1:=oE c1;refine .inr ⟨k,_,aG hk,rfl,by simp_all,c1.symm,c2.symm,c3.symm,rfl,?_⟩;intro w G μ b o hc;obtain⟨vs,d1,d2⟩:=hc.values;have d3:=JN t μ k.cells x vs h d1;exact⟨aT.vK d3.bF d2,by rw[d3.length,d1.length]⟩;grind;grind
def bX3 t μ cs x vs (h:b1T t cs=some x)(a:VRs w G μ cs vs):VRs w G aH (bZM t x) vs:=by
 cases t with
 | none =>
  cases cs with
  | nil=>exact a
  | cons p ps=>cases h
 | some t=>exact JN t μ cs x vs h a
def bGT(hW:aX n0 G μ H w){e t1 et t t2 p n x}(h:bA1 e t1 et t t2 p H n=some x) :
  p=.hptr n 0/\bGP H[n]? (some (some ⟨enc t1 x.1++.own (n+1) t.size::bZM t2 x.2.2,e,false,false,none⟩))/\H[n+1]?=some (some ⟨aI t x.2.1,et,true,false,some ⟨t,x.2.1⟩⟩):=by
 unfold bA1 at h;split at h;rename_i s off;replace h:=aJ h;obtain⟨hb,h⟩:=h;simp only[oA]at hb;have h1:=oE hb.1;have h2:=oE hb.2;subst h1; subst h2;refine⟨rfl,?_⟩;split at h;rename_i k hk;obtain⟨hc,h⟩:=aJ h;simp only[oA,Bool.not_eq_true']at hc;obtain⟨⟨⟨c1,c2⟩,c3⟩,c4⟩:=hc;have c1:=oE c1;split at h;rename_i r sz rest hd;split at h;rename_i xa xl xb ha hl hbb;simp only[oJ]at h;subst h;obtain⟨h3,h4⟩:=uZ hW hl;cases h3;refine⟨.inr ⟨k,_,aG hk,rfl,by simpa using c4,c1.symm,c2.symm,c3.symm,rfl,?_⟩,h4⟩;intro w G μ b o hc;obtain⟨vs,d1,d2⟩:=hc.values;have d3:=d1.take t1.size;have d4:=d1.drop t1.size;rw[hd,VRs]at d4;obtain⟨v,vc,e1,d5,d6⟩:=d4;have d7:=JN t1 μ _ xa _ ha d3;have d8:=bX3 t2 μ _ xb vc hbb d6;have d9:VRs w G μ (enc t1 xa++.own (s+1) t.size::bZM t2 xb) (vs.take t1.size++v::vc):=VRs.append d7.bF (by rw[VRs]; exact⟨v,vc,rfl,d5,d8.bF⟩);rw[<- e1,List.take_append_drop]at d9;exact⟨aT.vK d9 d2,by rw[d9.length,d1.length]⟩;cases h;cases h;cases h;cases h
theorem bBX (hW : aX n0 G μ H w) {e t1 et t eu u p n x} (h : a0A e t1 et t eu u p H n = some x) :
    p = .hptr n 0 ∧ bGP H[n]? (some (some ⟨enc t1.1 x.1.1 ++ .own (n + 1) t.size :: .own (n + 2) u.size :: bZM t1.2 x.1.2, e, false, false, none⟩)) ∧ H[n + 1]? = some (some ⟨aI t x.2.1, et, true, false, some ⟨t, x.2.1⟩⟩) ∧ H[n + 2]? = some (some ⟨aI u x.2.2, eu, true, false, some ⟨u, x.2.2⟩⟩) := by
  unfold a0A at h
  split at h
  · rename_i s off
    replace h := aJ h
    obtain ⟨hb, h⟩ := h
    simp only [Bool.and_eq_true] at hb
    have h1 := Nat.eq_of_beq_eq_true hb.1
    have h2 := Nat.eq_of_beq_eq_true hb.2
    subst h1; subst h2
    refine ⟨rfl, ?_⟩
    split at h
    · rename_i k hk
      obtain ⟨hc, h⟩ := aJ h
      simp only [Bool.and_eq_true, Bool.not_eq_true'] at hc
      obtain ⟨⟨⟨c1, c2⟩, c3⟩, c4⟩ := hc
      have c1 := Nat.eq_of_beq_eq_true c1
      split at h
      · rename_i r sz r2 sz2 rest hd
        split at h
        · rename_i xa xl xb xc ha hl hbb hcc
          simp only [Option.some.injEq] at h
          subst h
          obtain ⟨h3, h4⟩ := uZ hW hl
          cases h3
          obtain ⟨h5, h6⟩ := uZ hW hbb
          cases h5
          refine ⟨.inr ⟨k, _, aG hk, rfl, by simpa using c4, c1.symm, c2.symm, c3.symm, rfl, ?_⟩, h4, h6⟩
          intro w G μ b o hc
          obtain ⟨vs, d1, d2⟩ := hc.values
          have d3 := d1.take t1.1.size
          have d4 := d1.drop t1.1.size
          rw [hd, VRs] at d4
          obtain ⟨v, vc, e1, d5, d6⟩ := d4
          rw [VRs] at d6
          obtain ⟨v2, vc2, rfl, d10, d11⟩ := d6
          have d7 := JN t1.1 μ _ xa _ ha d3
          have d8 := bX3 t1.2 μ _ xc vc2 hcc d11
          have d9 : VRs w G μ (enc t1.1 xa ++ .own (s + 1) t.size :: .own (s + 2) u.size :: bZM t1.2 xc) (vs.take t1.1.size ++ v :: v2 :: vc2) := VRs.append d7.bF (by rw [VRs]; exact ⟨v, _, rfl, d5, by rw [VRs]; exact ⟨v2, vc2, rfl, d10, d8.bF⟩⟩)
          rw [← e1, List.take_append_drop] at d9
          exact ⟨aT.vK d9 d2, by rw [d9.length, d1.length]⟩
        · cases h
      · cases h
    · cases h
  · cases h
def bJ5 {g:Tg}{b l'}(h:KZ g.t b g.l=some l'):g=⟨b,l'⟩:=by
 have⟨a,l⟩:=g;unfold KZ at h;grind
def bJI(d:aX n0 G μ H w){e t n l}(h:bQD e t H n=some l):H[n]?=some (some ⟨aI (.rows t) l,e,false,false,some ⟨.rows t,l⟩⟩):=by
 unfold bQD at h;split at h;rename_i k a;split at h;rename_i g i;split at h;rename_i r j;have⟨b,h⟩:=aJ h;simp only[oA]at b;simp only[oJ]at h;have c:=oE b.1.1;have ht:=(d.tags n k g (aG a) i).1;have f:=bJ5 j;rw[<- h,aG a];have⟨q,s,o,p,m⟩:=k;grind;grind;grind;grind
def aPR {t p x v}(h:bHB t p=some x)(a:VR w G μ p v):VR w G aH (.iptr (enc t x)) v:=by
 unfold bHB at h;split at h;rename_i cs;have⟨b,off,d,c,e⟩:=a;have⟨vs,d1,d2⟩:=e.values;exact⟨b,off,d,c,aT.vK (JN t aH cs x vs h d1) d2⟩;grind
def a8A:∀ ts {ps x vs},bZK ts ps=some x->VRs w G μ ps vs->VRs w G aH (aOU ts x) vs
 | [],[],x,vs,h,hv=>by simp only[aOU]; exact hv
 | [],_::_,x,vs,h,hv=>by cases h
 | _::_,[],x,vs,h,hv=>by cases h
 | t::r,p::ps,x,vs,h,hv=>by
  simp only[bZK]at h;split at h
  next y e=>
   split at h
   next f a=>simp only[oJ]at h;subst h;have⟨u,us,b,c,d⟩:=hv;exact⟨u,us,b,aPR e c,a8A r a d⟩
   grind
  grind
def aYT {p x}(h:bLS p=some x):p=.lit (.slice none 0 0):=by
 unfold bLS at h;split at h
 next o c=>
  cases a:(Nat.beq o 0&&Nat.beq c 0)with
  | false=>grind
  | true =>
   simp_all
 grind
def a3E {j p x}(h:bVS j p=some x):p=.mp j:=by
 unfold bVS at h;split at h;rw[oE (aJ h).1];grind
def aJ0 {g p x}(h:bUH g p=some x):p=.lit (.func (.func g) #[] #[]):=by
 unfold bUH at h;split at h;replace h:=(aJ h).1;simp_all;grind
def aES {g ts p x v}(h:bEY g ts p=some x)(f:VR w G μ p v):VR w G aH (.clo (.func g) [] (aOU ts x)) v:=by
 unfold bEY at h;split at h;have c:=oE (aJ h).1;have e:=(aJ h).2;subst c;have⟨b,cs,i,d,a⟩:=f;exact⟨b,cs,i,d,a8A ts e a⟩;grind
def aZS {j sz p x}(h:bLT j sz p=some x):p=.win j x.1 x.2 sz:=by
 unfold bLT at h;split at h;replace h:=aJ h;have⟨a,h⟩:=h;simp only[oA]at a;have c:=oE a.1;have b:=oE a.2;grind;grind
def bN3(c:aX n0 G μ H w):∀ k {p n x v},aUT k p H n=some x->VR w G μ p v->VR w G μ (OB k x n) v/\∀ i ,i<k.pos->bGP H[n+i]? (b0X k x n)[i]?
 | .int k,p,n,x,v,h,hv=>by
  have:=aSD h;simp only[List.cons.injEq,and_true]at this;subst this;exact⟨hv,λi hi=>absurd hi (Nat.not_lt_zero _)⟩
 | .bool,p,n,x,v,h,hv=>by
  have:=aPN h;simp only[List.cons.injEq,and_true]at this;subst this;exact⟨hv,λi hi=>absurd hi (Nat.not_lt_zero _)⟩
 | .str,p,n,x,v,h,hv=>by
  have:=aRI h;simp only[List.cons.injEq,and_true]at this;subst this;exact⟨hv,λi hi=>absurd hi (Nat.not_lt_zero _)⟩
 | .list t,p,n,x,v,h,hv=>by
  have:=JN (.list t) μ [p] x [v] h (by rw[VRs]; exact⟨v,[],rfl,hv,by rw[VRs]⟩);refine⟨?_,λi hi=>absurd hi (Nat.not_lt_zero _)⟩;simp only[enc]at this;have⟨y,l,d,a,_⟩:=this;cases d;exact a.bF
 | .agg t,p,n,x,v,h,hv=>by
  refine⟨?_,λi hi=>absurd hi (Nat.not_lt_zero _)⟩;simp only[aUT]at h;unfold bOI at h;split at h
  next cs=>rw[VR]at hv;obtain⟨vs,rfl,a⟩:=hv;simp only[OB];rw[VR];exact⟨vs,rfl,(JN t μ cs x vs.toList h a).bF⟩
  ·cases h
 | .own e t,p,n,x,v,h,hv=>by
  obtain⟨rfl,a⟩:=uZ c h;refine⟨hv,λi hi=>?_⟩;simp only[Kd.pos]at hi;have:i=0:=Z
  subst this;simp only[Nat.add_zero,a];exact .inl rfl
 | .box e t,p,n,x,v,h,hv=>by
  obtain⟨rfl,a⟩:=bG8 h;refine⟨hv,λi hi=>?_⟩;simp only[Kd.pos]at hi;have:i=0:=Z
  subst this;exact a
 | .ptr t,p,n,x,v,h,hv=>⟨(aPR h hv).bF,λi hi=>absurd hi (Nat.not_lt_zero _)⟩
 | .fn g,p,n,x,v,h,hv=>by
  have:=aJ0 h;subst this;exact⟨hv,λi hi=>absurd hi (Nat.not_lt_zero _)⟩
 | .mpk j,p,n,x,v,h,hv=>by
  have:=a3E h;subst this;exact⟨hv,λi hi=>absurd hi (Nat.not_lt_zero _)⟩
 | .nil0,p,n,x,v,h,hv=>by
  have:=aYT h;subst this;exact⟨hv,λi hi=>absurd hi (Nat.not_lt_zero _)⟩
 | .val,p,n,x,v,h,hv=>by
  have:=a0F (p:=p) (x:=x) h;subst this;exact⟨hv,λi hi=>absurd hi (Nat.not_lt_zero _)⟩
 | .nilI,p,n,x,v,h,hv=>by
  have:=aVK (p:=p) (x:=x) h;subst this;exact⟨hv,λi hi=>absurd hi (Nat.not_lt_zero _)⟩
 | .clo g ts,p,n,x,v,h,hv=>⟨(aES h hv).bF,λi hi=>absurd hi (Nat.not_lt_zero _)⟩
 | .win j sz,p,n,x,v,h,hv=>by
  have:=aZS h;subst this;exact⟨hv,λi hi=>absurd hi (Nat.not_lt_zero _)⟩
 | .bown e et t,p,n,x,v,h,hv=>by
  obtain⟨rfl,a,b⟩:=bBQ c h;refine⟨hv,λi hi=>?_⟩;simp only[Kd.pos]at hi;rcases(show i=0\/i=1 by omega)with rfl|rfl
  ·simp only[Nat.add_zero,a];exact .inl rfl
  ·simp only[b];exact .inl rfl
 | .bque e et t,p,n,x,v,h,hv=>by
  obtain⟨rfl,a,b⟩:=bBW c h;refine⟨hv,λi hi=>?_⟩;simp only[Kd.pos]at hi;rcases(show i=0\/i=1 by omega)with rfl|rfl
  ·exact a
  ·simp only[b];exact .inl rfl
 | .bag e t1 et t t2,p,n,x,v,h,hv=>by
  obtain⟨rfl,a,b⟩:=bGT c h;refine⟨hv,λi hi=>?_⟩;simp only[Kd.pos]at hi;rcases(show i=0\/i=1 by omega)with rfl|rfl
  ·exact a
  ·simp only[b];exact .inl rfl
 | .bag2 e t1 et t eu u,p,n,x,v,h,hv=>by
  obtain⟨rfl,a,b,f⟩:=bBX c h;refine⟨hv,λi hi=>?_⟩;simp only[Kd.pos]at hi;rcases(show i=0\/i=1\/i=2 by omega)with rfl|rfl|rfl
  ·exact a
  ·simp only[b];exact .inl rfl
  ·simp only[f];exact .inl rfl
 | .hnd sz,p,n,x,v,h,hv=>by
  refine⟨?_,λi hi=>absurd hi (Nat.not_lt_zero _)⟩;have:=a0W (μ:=μ) (vs:=[v]) h (by rw[VRs]; exact⟨v,[],rfl,hv,by rw[VRs]⟩);rw[VRs]at this;have⟨y,l,d,a,_⟩:=this;cases d;exact a.bF
 | .ar e t,p,n,x,v,h,hv=>by
  have a:=bJI c h;refine⟨by simp only[OB]; rw[VR]; trivial,λi hi=>?_⟩;simp only[Kd.pos]at hi;have:i=0:=Z
  subst this;simp only[Nat.add_zero,a];exact .inl rfl
def aJQ:∀ k x n,(b0X k x n).length=k.pos| .int _,_,_|.bool,_,_|.str,_,_|.list _,_,_|.agg _,_,_|.ptr _,_,_|.fn _,_,_|.nil0,_,_|.val,_,_|.nilI,_,_|.clo _ _,_,_|.win _ _,_,_|.hnd _,_,_|.mpk _,_,_=>rfl| .ar _ _,_,_=>rfl| .own _ _,_,_=>rfl| .box _ _,_,_=>rfl| .bown _ _ _,_,_=>rfl| .bque _ _ _,_,_=>rfl| .bag _ _ _ _ _,_,_=>rfl| .bag2 _ _ _ _ _ _,_,_=>rfl
def aYE:∀ sh x n,(bB8 sh x n).length=bB1 sh| [],_,_=>rfl|(_,k)::r,(x,xs),n=>by simp only[bB8,oH,aJQ,aYE r xs,bB1]
def a4F sh x:(WN sh x).length=bB1 sh:=aYE sh x 0
def aW8(c:aX n0 G μ H w)(d:∀ t,VR w G μ (cR F t) (a.tmps.getD t undef)):∀ sh {n x},bUF sh F H n=some x->(∀ t,VR w G μ (cR (KT sh x n) t) (a.tmps.getD t undef))/\∀ i ,i<bB1 sh->bGP H[n+i]? (bB8 sh x n)[i]?
 | [],n,x,h=>⟨λt=>by simp only[KT,cR]; rw[VR]; trivial,λi hi=>absurd hi (Nat.not_lt_zero _)⟩
 | (t,k)::r,n,x,h=>by
  simp only[bUF]at h;split at h
  next y f=>
   split at h
   ·rename_i m b;simp only[oJ]at h;subst h;have⟨g,j⟩:=bN3 c k f (d t);have⟨l,e⟩:=aW8 c d r b;refine⟨λs=>?_,λi hi=>?_⟩
    ·simp only[KT];rw[eY];grind
    ·simp only[bB8];rcases oG i k.pos with hl|hl
     ·rw[List.getElem?_append_left (by rw[aJQ]; exact hl)];grind
     ·rw[List.getElem?_append_right (by rw[aJQ]; exact hl),aJQ];have:=e (i-k.pos) (by simp only[bB1]at hi; omega);grind
   ·cases h
  ·cases h
def bKS(a:aX n0 G μ H w){e ty p q H1 v}(h:bVF e ty H p=some (q,H1))(N:VR w G μ p v) :
  ∃ μ',Ext n0 w G μ w G μ'/\aX n0 G μ' H1 w/\VR w G μ' q v:=by
 unfold bVF at h;split at h
 next r lo n sz=>
  obtain⟨hb,d⟩:(Nat.beq lo 0&&Nat.beq sz ty.size)=true/\(match RI e ty (.own r sz) H r with
   | some l=>some (PV.own H.length sz,(H.set r none)++[some (⟨aI ty (l.take n),e,true,false,some ⟨ty,l.take n⟩⟩:Blk)])
   | none=>none)=some (q,H1):=by
   grind
  rw[oA]at hb;have P:=oE hb.1;have k:=oE hb.2;subst P; subst k;split at d
  next l K=>
   obtain⟨rfl,rfl⟩:=d;have⟨_,g⟩:=uZ a K;have⟨b,c,m,z,a2,a3,a4,a5,Q,_,F⟩:=N;have ht:=(a.tags r _ _ g rfl).2;rw[ht]at a5;cases a5;have hlen:(l.take n).length=n:=by rw[List.length_take]; change 0+n<=l.length at Q; omega
   have E:=wB a r;have x:(H.set r none).length=H.length:=zr
   have C:=SE a (some b) (some n);have o:Ext n0 w G μ w G (upd μ (H.set r none).length (some b) (some n)):=by rw[x]; exact C
   refine⟨_,C,?_,?_⟩;have:=SG E o ⟨aI ty (l.take n),e,true,false,some ⟨ty,l.take n⟩⟩ (λ_ _ _ _ _=>rfl) ?_ ?_ ?_ (VG E o (λt l k A=>by cases k) (λ_ _ _=>rfl) (λj R O D d=>by cases d; exact(a.rows.sep j b O).2.2.2 r _ g rfl z));grind;rintro J f;cases f;have⟨c1,A,B,M⟩:=a.blk r _ b g z;rw[F]at B;refine⟨c1,A,?_,λh=>(by cases h),λh=>(by cases h),M.2.2⟩;have I:=aT.mono o.toMono rfl _ _ B;refine aT.mk λi p hp=>?_;rw[<- yV]at hp;have hi:i<(aI ty l).length/\(aI ty l)[i]?=some p:=W;exact I.get hi.2;grind;intro s k' J L D f d;cases d;have⟨y,u⟩:=zI L;exact u (a.inj s r k' _ b y g D rfl f z);rw[VR,GO];refine⟨n,rZ _ _ _ _,.inr ⟨b,c,mH _ _ _ _,by rw[a2,F,Nat.zero_mul],a3,?_,rfl⟩⟩;grind
  cases d
 cases h
def NN:∀ sh F H,I n0 wi Gi μi nt F H a w->I n0 wi Gi μi nt (NQ sh F H).1 (NQ sh F H).2 a w
 | [],F,H,hI=>hI
 | (t,k0)::r,F,H,hI=>by
  have skip:I n0 wi Gi μi nt (NQ r F H).1 (NQ r F H).2 a w:=NN r F H hI;unfold NQ;split
  ·exact hI
  next heq=>
   cases heq;split
   ·rename_i s sz ht;split
    ·rename_i k n;split
     ·rename_i g v;have⟨G,μ,e,c,d⟩:=hI;have f:=d.slot t;rw[ht]at f;cases l:k.frozen with
      | true =>
       refine NN r _ _ ⟨G,μ,e,c,d.named ?_⟩;exact(U3 c f n v (λb h=>h) (λb p=>by
        have⟨_,_,_,_,y,_⟩:=c.blk s k b (aG n) p;exact y l)).bF
      | false =>
       have⟨i,m⟩:=aJZ c (aG n) l;refine NN r _ _ ⟨_,μ,e.trans i,m,(d.mono i.toMono).named ?_⟩;exact(U3 (G':=G.or λx=>μ.loc s=some x) c f n v (λb h=>.inl h) (λb p=>.inr p)).bF
     ·grind
    ·grind
   ·grind
  next heq=>
   cases heq;split
   ·rename_i s u ht;cases j:Nat.beq u _ with
    | true =>
     have j:=oE j;subst j;split
     next q H1 o=>have⟨G,μ,e,c,d⟩:=hI;have f:=d.slot t;rw[ht]at f;have⟨G',μ',i,m,v1⟩:=aX0 c o f;exact NN r _ _ ⟨G',μ',e.trans i,m,(d.mono i.toMono).named v1.bF⟩
     ·grind
    | false=>exact skip
   ·grind
  next heq=>
   cases heq;split
   next q H1 o=>have⟨G,μ,e,c,d⟩:=hI;have f:=d.slot t;have⟨μ',i,m,v1⟩:=bKS c o f;exact NN r _ _ ⟨G,μ',e.trans i,m,(d.mono i.toMono).named v1⟩
   ·grind
  ·grind
def OH {sh x}(h:aE4 sh F H=some x)(c:∀ r,μi.loc r=none/\μi.len r=none)(b:I n0 wi Gi μi nt F H a w):I n0 wi Gi μi nt (KT sh x 0) (WN sh x) a w:=by
 unfold aE4 at h;replace b:=NN sh F H b;split at h;rename_i l H1 hd;rw[hd]at b;split at h
 next F' H' ht=>
  have⟨k,h⟩:=aJ h;have⟨⟨G,μ,e,f,d⟩,_⟩:=bAY ht (λr _=>c r) b;have⟨g,j⟩:=aW8 f d.slot sh h;have hH:∀ i:Nat,bGP H'[i]? (WN sh x)[i]?:=by
   intro i;rcases oG i (bB1 sh)with hl|hl
   ·have:=j i hl;rwa[Nat.zero_add]at this
   ·have m:=oE k;exact .inl (by rw[List.getElem?_eq_none Z,List.getElem?_eq_none (by rw[a4F]; omega)])
  exact⟨G,μ,e,f.bPV hH,d.size,g,d.defers⟩
 grind
end
end Go.PM
