/- Texts of one proof, joined (4). -/
import Derived.Scope
import Derived.Test.YtbjdceodppagoaaGreatDoorQJ3
set_option linter.unusedSimpArgs false
set_option linter.unusedVariables false
noncomputable section
namespace Go.PM
open Go Go.RowKit
def aGR(m:List Nat) (es:List Edge):Nat:=es.foldl (λs e=>bif Region.binds .any e then s ||| (2^e.on ||| m.getD e.on 0) else s) 0
def RX(m:List Nat):Nat->List Oper->Bool
 | _,[]=>true
 | j,o::l=>Nat.beq (m.getD j 0) (aGR m o.after.toList)&&o.after.toList.all (λe=>!Region.binds .any e||Nat.blt e.on j)&&RX m (j+1) l
def aF3(ops:Array Oper)(m:List Nat)(j:Nat)(oj:Oper):Nat->List Oper->Bool
 | _,[]=>true
 | i,oi::l=>bif Nat.blt i j then ((m.getD j 0).testBit i||oi.apart ops oj)&&aF3 ops m j oj (i+1) l else true
def aF4(ops:Array Oper)(m:List Nat):Nat->List Oper->Bool
 | _,[]=>true
 | j,oj::l=>aF3 ops m j oj 0 ops.toList&&aF4 ops m (j+1) l
def kW(ops:Array Oper):List Nat:=(Region.before ops).toList
def RE(ops:Array Oper):Bool:=RX (kW ops) 0 ops.toList&&aF4 ops (kW ops) 0 ops.toList
def aWR(F:Frm) (o:Oper):Option Nat:=match o.op with
 | .load _ a=>match ev F a with
  | .hptr r _=>some r
  | _=>none
 | .store _ a _=>match ev F a with
  | .hptr r _=>some r
  | _=>none
 | _=>none
def U0:Option Nat->Option Nat->Bool
 | some a,some b=>!Nat.beq a b
 | _,_=>false
abbrev a5C:=List (Nat×Nat×Option Nat)
def bDZ:List Nat:=[]
def aIN:Op->Bool
 | .call c=>match c.callee with
  | .value (.func g)=>aA4 bDZ g
  | _=>false
 | _=>false
def isVar(o:Oper):Bool:=match o.guard,o.op,o.dst with
 | none,.alloc _,some _=>true
 | _,_,_=>false
def aJT(o:Oper):Bool:=match o.guard,o.dst with
 | none,some _=>aIN o.op
 | _,_=>false
def aCG(o:Oper):Bool:=isVar o||aJT o
def a8M:List Oper->Nat
 | []=>0
 | o::r=>bif aJT o then a8M r+1 else a8M r
def Y9(X:Heap)(q:Nat):Bool:=match X[q]? with|some none=>true|_=>false
theorem YY {X q}:Y9 X q=true↔X[q]?=some none:=by
 unfold Y9;grind
def aNV:Option Tg->Bool
 | some g=>g.t.plain
 | none=>false
def aRK(q:Nat) (v:PV) (X H:Heap):Option (PV×Heap×Nat):=match X with
 | []=>bif dR v&&dV v then some (v,H,0) else none
 | [some k]=>match v with
  | .own r sz=>bif Nat.beq r 0&&Nat.blt q H.length&&Y9 H q&&aNV k.tag then some (.own q sz,H.set q (some k),2) else none
  | _=>none
 | _=>none
def aTK:List Oper->Nat
 | []=>0
 | o::r=>bif aCG o then aTK r+1 else aTK r
def N4(m:Option Nat)(o:Oper)(k:Nat):Option Nat:=match m with
 | none=>none
 | some b=>bif aCG o then some (b+k) else none
def stepT(r:Option Nat)(P:Program)(cl:Callee)(l:List Oper)(o:Oper)(F:Frm)(H:Heap):Option (PV×Heap×Nat):=match r with
 | none=>xV P cl l o F H
 | some q=>match o.op with
  | .alloc t=>match DP P t with
   | some z=>bif Nat.blt q H.length then some (.hptr q 0,H.set q (some ⟨lits z.cells,t,false,false,none⟩),2) else none
   | none=>none
  | .call _=>bif dR.noRefs (o.op.operands.toList.map (ev F))&&dV.noRows (o.op.operands.toList.map (ev F)) then match xV P cl l o F []with
    | some (v,X,_)=>aRK q v X H
    | none=>none
   else none
  | _=>none
def aH3(r:Option Nat)(F:Frm)(o:Oper):Option Nat:=match r with
 | none=>aWR F o
 | some q=>some q
def inP(p:Nat->Bool):PV->Bool
 | .hptr r _=>p r
 | .hs r _ _ _ _=>p r
 | .own r _=>p r
 | .op r _ _ _=>p r
 | .win r _ _ _=>p r
 | .qs r _=>p r
 | .agg cs|.tuple cs=>inPs p cs
 | .clo _ f c=>inPs p f&&inPs p c
 | _=>true
where inPs (p:Nat->Bool):List PV->Bool
 | []=>true
 | q::qs=>inP p q&&inPs p qs
def a0W(b m r:Nat):Bool:=Nat.blt r b||(Nat.ble b r&&Nat.testBit m (r-b))
def a2E(p:Nat->Bool):Option Blk->Bool
 | some k=>k.tag.isSome||inP.inPs p k.cells
 | none=>true
def aNA(p:Nat->Bool):Heap->Bool
 | []=>true
 | x::r=>a2E p x&&aNA p r
def bF4(p:Nat->Bool)(q:Option Nat)(c:Nat)(H:Heap):Bool:=bif Nat.blt 1 c then (match q with
 | some q=>a2E p (gS H q)
 | none=>aNA p H) else true
def okT(m:Option Nat)(mk k:Nat)(q:Option Nat)(c:Nat)(v:PV)(H:Heap):Bool:=match m with
 | none=>true
 | some b=>inP (a0W b (mk ||| 2^k)) v&&bF4 (a0W b (mk ||| 2^k)) q c H
def aQM(b:Nat):Frm->Bool
 | []=>true
 | (_,p)::r=>below b p&&aQM b r
def a1H:List Oper->Bool
 | []=>false
 | o::r=>(match o.op with|.load ..=>true|_=>false)||a1H r
def a9S(l:List Oper):List Oper->Bool
 | []=>true
 | o::r=>(match o.op with
  | .makeSlice ..=>a5V l o.dst
  | .box ..|.buildSlice ..=>false
  | .call c=>(match c.callee with|.builtin .append|.builtin .copy|.builtin .clear=>false|_=>true)
  | _=>true)&&a9S l r
def bES(l:List Oper):Bool:=Nat.blt 0 (aTK l)&&a1H l&&a9S l l
def aE4(ops:Array Oper)(H:Heap):Option Nat:=bif Nat.blt 0 (a8M ops.toList)||Nat.blt 1 (aTK ops.toList)||bES ops.toList then some H.length else none
def a90(m:Option Nat)(n:Nat)(H:Heap):Heap:=match m with
 | none=>H
 | some _=>H++List.replicate n none
def aU9(m:Option Nat)(F:Frm)(H:Heap):Bool:=match m with
 | none=>true
 | some b=>aQM b F&&UM b H
def YI(P:Program)(cl:Callee)(nt:Nat)(m:Option Nat)(ms:List Nat)(l:List Oper)(F:Frm)(H:Heap):Nat->Option (Frm×Heap×a5C)
 | 0=>some (F,H,[])
 | k+1=>match YI P cl nt m ms l F H k with
  | some (F,H,hl)=>match l[k]? with
   | some o=>match stepT (N4 m o k) P cl l o F H with
    | some (v,H',c)=>bif okT m (ms.getD k 0) k (aH3 (N4 m o k) F o) c v H' then (fPV v λv=>match VA nt F o.dst v with
     | some F'=>bif Nat.beq c 0 then some (F',H',hl) else aGJ H' λH'=>some (F',H',(k,c,aH3 (N4 m o k) F o)::hl)
     | none=>none) else none
    | none=>none
   | none=>none
  | none=>none
def a2L(m:List Nat)(j:Nat)(d:Nat)(b:Option Nat):a5C->Bool
 | []=>true
 | (i,c,b')::r=>(!(Nat.blt 1 c||Nat.blt 1 d)||U0 b b'||(m.getD j 0).testBit i)&&a2L m j d b r
def aA7(m:List Nat):a5C->Bool
 | []=>true
 | (j,d,b)::r=>a2L m j d b r&&aA7 m r
def UR(P:Program)(cl:Callee)(nt:Nat)(ops:Array Oper)(F:Frm)(H:Heap):Option (Frm×Heap) :=
 bif RE ops&&aU9 (aE4 ops H) F H then match YI P cl nt (aE4 ops H) (kW ops) ops.toList F (a90 (aE4 ops H) ops.toList.length H) ops.toList.length with
  | some (F',H',hl)=>bif aA7 (kW ops) hl then some (F',H') else none
  | none=>none else none
theorem aRI {P cl nt md ms l F H}:∀ {n F' H' hl},YI P cl nt md ms l F H n=some (F',H',hl)->∃ news ,F'=news++F/\news.length=aLC (l.take n)
 | 0,F',H',hl,h=>by
  simp only[YI,oJ,oP]at h;exact⟨[],h.1.symm,rfl⟩
 | n+1,F',H',hl,h=>by
  simp only[YI]at h;split at h
  next F1 H1 hl1 h1=>
   obtain⟨n1,e1,l1⟩:=aRI h1;split at h
   ·rename_i o ho;split at h
    ·rename_i v H2 c hs;obtain⟨_,h⟩:=aJ h;rw[VH]at h;split at h
     ·rename_i F2 hp;rw[D1]at h;obtain⟨n2,e2,l2⟩:=aQN hp;have he:F'=F2:=W
      refine⟨n2++n1,by rw[he,e2,e1,List.append_assoc],?_⟩;have hd:∀ (a:List Oper) (b:Oper),aLC (a++[b])=aLC a+bFJ b.dst:=by
       intro a b
       induction a with
       | nil=>simp only[List.nil_append,aLC]; generalize b.dst=d; cases d <;> rfl
       | cons x a ih =>
        simp only[List.cons_append,aLC];grind
      obtain⟨hlt,gS⟩:=oO.1 ho;rw[List.take_succ_eq_append_getElem hlt,gS,hd,oH,l1,l2];omega
     ·cases h
    ·cases h
   ·cases h
  ·cases h
theorem aTU {P cl nt ops F F' H H'}(h:UR P cl nt ops F H=some (F',H')):∃ news ,F'=news++F/\news.length=aLC ops.toList:=by
 obtain⟨_,h⟩:=aJ h;split at h
 next F2 H2 hl hs=>
  cases hh:aA7 (kW ops) hl with
  | false=>grind
  | true =>
   have:=aRI hs;grind
 grind
theorem QQ {m:List Nat}{b}:∀ (es:List Edge) s,(es.foldl (λs e=>bif Region.binds .any e then s ||| (2^e.on ||| m.getD e.on 0) else s) s).testBit b=true ->
  s.testBit b=true\/∃ e∈es,Region.binds .any e=true/\(b=e.on\/(m.getD e.on 0).testBit b=true)
 | [],s,h=>.inl h
 | e::es,s,h=>by
  rcases QQ es _ h with h1|⟨e',h1,h2⟩
  ·grind
  grind
theorem aI5 {m}:∀ {l j i o},RX m j l=true->l[i]?=some o->m.getD (j+i) 0=aGR m o.after.toList/\∀ e∈o.after,Region.binds .any e=true->e.on<j+i
 | [],j,i,o,_,ho=>W
 | p::l,j,i,o,h,ho=>by
  simp only[RX,oA,List.all_eq_true]at h;obtain⟨⟨h1,h2⟩,h3⟩:=h;cases i with
  | zero =>
   simp only[List.getElem?_cons_zero,oJ]at ho;subst ho;refine⟨oE h1,λe he hb=>?_⟩;have:=h2 e (Array.mem_toList_iff.2 he)
   simp_all
  | succ i =>
   have:=aI5 h3 (by simpa using ho);grind
theorem aNM {ops m j oj}:∀ {l k i oi},aF3 ops m j oj k l=true->l[i]?=some oi->k+i<j->(m.getD j 0).testBit (k+i)=true\/oi.apart ops oj=true
 | [],k,i,oi,_,ho,_=>by simp at ho
 | p::l,k,i,oi,h,ho,hlt=>by
  simp only[aF3]at h;have hk:Nat.blt k j=true:=Nat.ble_eq_true_of_le Z;rw[hk]at h;simp only[oC,oA]at h;cases i with
  | zero =>
   grind
  | succ i =>
   have:=aNM (i:=i) h.2 (by simpa using ho) Z;grind
theorem aJ3 {ops m}:∀ {l k j oj},aF4 ops m k l=true->l[j]?=some oj->aF3 ops m (k+j) oj 0 ops.toList=true
 | [],k,j,oj,_,ho=>W
 | p::l,k,j,oj,h,ho=>by
  simp only[aF4,oA]at h;cases j with
  | zero =>
   grind
  | succ j =>
   have:=aJ3 h.2 (by simpa using ho);grind
section
variable {P:Program} {cl:Callee} {n0:Nat->Prop} {nt:Nat} {wi:World} {Gi:Gd} {μi:Mp} {ops:Array Oper} {F:Frm} {H:Heap}
structure Trace (P:Program) (cl:Callee) (nt:Nat) (ops:Array Oper) (F:Frm) (H:Heap) (F':Frm) (H':Heap) where
 Fs:Nat->Frm
 Hs:Nat->Heap
 vs:Nat->PV
 cs:Nat->Nat
 f0:Fs 0=F
 h0:Hs 0=H
 fn:Fs ops.size=F'
 hn:Hs ops.size=H'
 md:Option Nat
 step:∀ i o,ops[i]?=some o->stepT (N4 md o i) P cl ops.toList o (Fs i) (Hs i)=some (vs i,Hs (i+1),cs i)/\VA nt (Fs i) o.dst (vs i)=some (Fs (i+1))/\okT md ((kW ops).getD i 0) i (aH3 (N4 md o i) (Fs i) o) (cs i) (vs i) (Hs (i+1))=true
 bs:Nat->Option Nat
 hbs:∀ i o,ops[i]?=some o->bs i=aH3 (N4 md o i) (Fs i) o
 hits:∀ i j,i<j->j<ops.size->cs i≠0->cs j≠0->1<cs i\/1<cs j->U0 (bs j) (bs i)=true\/((kW ops).getD j 0).testBit i=true
 loc:∀ i o q,ops[i]?=some o->bs i=some q->cs i≠0->∀ H2:Heap,H2[q]?=(Hs i)[q]?->∃ H3 c,stepT (N4 md o i) P cl ops.toList o (Fs i) H2=some (vs i,H3,c)/\H3=if 1<cs i then H2.set q (((Hs (i+1))[q]?).getD none) else H2
theorem aXC {md ms l}:∀ {n k r},YI P cl nt md ms l F H n=some r->k<=n->∃ s,YI P cl nt md ms l F H k=some s
 | 0,k,r,h,hk=>W
 | n+1,k,r,h,hk=>by
  rcases oG k (n+1)with hl|hl
  ·simp only[YI]at h;split at h
   next s hs=>exact aXC hs Z
   grind
  grind
theorem aQ7 {m j d b}:∀ {hl i c b'},a2L m j d b hl=true->(i,c,b')∈hl->1<c\/1<d->U0 b b'=true\/(m.getD j 0).testBit i=true
 | [],i,c,_,_,h,_=>W
 | (i',c',b0)::r,i,c,b',h,hm,hc=>by
  simp only[a2L,oA,Bool.or_eq_true,Bool.not_eq_true',Bool.or_eq_false_iff]at h;rcases List.mem_cons.1 hm with he|hm
  ·rcases h.1 with (⟨h1,h2⟩|h1)|h1
   ·rcases hc with hc|hc
    ·have:Nat.blt 1 _=true:=Nat.ble_eq_true_of_le hc;grind
    ·have:Nat.blt 1 d=true:=Nat.ble_eq_true_of_le hc;grind
   ·grind
   grind
  ·exact aQ7 h.2 hm hc
theorem aZX {H H2 q}(h:H2[q]?=H[q]?):gS H2 q=gS H q:=by unfold gS; grind
theorem aZ4 {l:List Oper} {o:Oper} {F:Frm} {H H':Heap} {v:PV} {c q:Nat} (h:xV P cl l o F H=some (v,H',c)) (hb:aWR F o=some q) (hc:c≠0) (H2:Heap) (hq:H2[q]?=H[q]?) :
  ∃ H3 c',xV P cl l o F H2=some (v,H3,c')/\H3=if 1<c then H2.set q ((H'[q]?).getD none) else H2:=by
 have hgq:=aZX hq;unfold aWR at hb;split at hb
 next t a ho=>
  split at hb
  next r off hev=>
   obtain rfl:=oB hb;have hm:mkData P F l o=none:=by simp only[mkData,ho]
   have hz:∀ H,opz P cl l F H o=match ZE P H t (.hptr r off)with|some (v,c)=>some (v,H,c)|none=>none:=λH=>by simp only[opz,ho,opx,typed,hev,aP5,oD,opu]; rfl
   unfold xV at h ⊢;rw[hm]at h ⊢;split at h
   ·simp only[hz]at h ⊢;have hx:ZE P H2 t (.hptr r off)=ZE P H t (.hptr r off):=by simp only[ZE,hgq]
    rw[hx];cases hl:ZE P H t (.hptr r off)with
    | none=>rw[hl]at h; cases h
    | some p =>
     obtain⟨v1,c1⟩:=p;rw[hl]at h;simp only[oJ,oP]at h;obtain⟨rfl,rfl,rfl⟩:=h;have h1:c1=1:=by
      simp only[ZE]at hl;grind
     grind
   ·grind
   ·cases h
  ·cases hb
 next t a x ho=>
  split at hb
  next r off hev=>
   obtain rfl:=oB hb;have hm:mkData P F l o=none:=by simp only[mkData,ho]
   have hz:∀ H,opz P cl l F H o=match aI6 P H t (.hptr r off) (ev F x)with|some H'=>some (.lit undef,H',2)|none=>none:=λH=>by simp only[opz,ho,opx,typed,hev,aP5,oD,opu]; rfl
   unfold xV at h ⊢;rw[hm]at h ⊢;split at h
   ·simp only[hz]at h ⊢;cases hl:aI6 P H t (.hptr r off) (ev F x)with
    | none=>rw[hl]at h; cases h
    | some H1 =>
     rw[hl]at h;obtain⟨rfl,rfl,rfl⟩:=h;unfold aI6 at hl ⊢;cases hcs:uN (ev F x)with
     | none=>rw[hcs]at hl; cases hl
     | some new =>
      cases hsz:sP P t with
      | none=>rw[hcs,hsz]at hl; cases hl
      | some n =>
       rw[hcs,hsz]at hl;simp only at hl ⊢;obtain⟨hb1,hl⟩:=aJ hl;rw[hb1,oC];unfold aEP at hl ⊢;rw[hgq];cases hk:gS H r with
       | none=>rw[hk]at hl; cases hl
       | some k =>
        rw[hk]at hl;simp only at hl ⊢;obtain⟨hb2,hl⟩:=aJ hl;rw[hb2,oC];obtain rfl:=oB hl;refine⟨_,_,rfl,?_⟩;have hlt:r<H.length:=by
         unfold PM.gS at hk;split at hk
         next k' hk'=> exact(oO.1 hk').1
         ·cases hk
        rw[List.getElem?_set_self hlt]; rfl
   ·simp only[oJ,oP]at h;exact absurd h.2.2.symm hc
   ·cases h
  ·cases hb
 ·cases hb
theorem R3 {q v X H v' H' c}(h:aRK q v X H=some (v',H',c)):(∃ sz k,v=.own 0 sz/\X=[some k]/\v'=.own q sz/\H'=H.set q (some k)/\c=2/\q<H.length/\H[q]?=some none/\aNV k.tag=true) \/
  (X=[]/\(dR v&&dV v)=true/\v'=v/\H'=H/\c=0):=by
 unfold aRK at h;split at h
 ·grind
 next k=>
  split at h
  next r sz=>obtain⟨hb,h⟩:=aJ h;simp only[oA]at hb;obtain⟨⟨⟨h1,h2⟩,h3⟩,h4⟩:=hb;have h1:=oE h1;obtain⟨rfl,rfl,rfl⟩:=h;exact .inl ⟨sz,k,by grind,rfl,rfl,rfl,rfl,fX h2,YY.1 h3,h4⟩
  grind
 grind
theorem a4C {r l o F H H' v c q}(h:stepT r P cl l o F H=some (v,H',c))(hb:aH3 r F o=some q)(hc:c≠0) H2 (hq:H2[q]?=H[q]?) :
  ∃ H3 c',stepT r P cl l o F H2=some (v,H3,c')/\H3=if 1<c then H2.set q ((H'[q]?).getD none) else H2:=by
 cases r with
 | none=>exact aZ4 h hb hc H2 hq
 | some q' =>
  obtain rfl:=oB (show some q'=some q from hb);simp only[stepT]at h ⊢;split at h
  next t ho=>
   cases hz:DP P t with
   | none=>rw[hz]at h; cases h
   | some z =>
    rw[hz]at h;simp only at h ⊢;obtain⟨hlt,h⟩:=aJ h;obtain⟨rfl,rfl,rfl⟩:=h;have hlt:=fX hlt;have hlt2:q'<H2.length:=W
    rw[if_pos O,bW,oT hlt2,oC,List.getElem?_set_self hlt];grind
  ·obtain⟨hnr,h⟩:=aJ h;rw[hnr,oC];split at h
   ·rename_i v1 X c1 hs;rcases R3 h with ⟨sz,k,rfl,rfl,rfl,rfl,rfl,h1,h2,h3⟩|⟨_,_,_,_,h0⟩
    case inr=>exact absurd h0 hc
    have h4:q'<H2.length:=W
    rw[if_pos O,List.getElem?_set_self h1];refine⟨_,2,?_,rfl⟩;simp only[aRK,Nat.beq_refl,bW,oT h4,YY.2 (hq.trans h2),h3,Bool.and_self,oC,Option.getD_some]
   ·cases h
  ·cases h
theorem a8A(hcl:dA P cl){md F' H' hl}(h:YI P cl nt md (kW ops) ops.toList F H ops.toList.length=some (F',H',hl))(hh:aA7 (kW ops) hl=true):∃ T:Trace P cl nt ops F H F' H',T.md=md:=by
 have hlen:ops.toList.length=ops.size:=R
 let st:Nat->Frm×Heap×a5C:=λk=>(YI P cl nt md (kW ops) ops.toList F H k).getD ([],[],[])
 have hst:∀ k,k<=ops.size->YI P cl nt md (kW ops) ops.toList F H k=some (st k):=λk hk=>by
  obtain⟨s,hs⟩:=aXC h (k:=k) Z;grind
 let op:Nat->PV×Heap×Nat:=λi=>match ops[i]? with|some o=>(stepT (N4 md o i) P cl ops.toList o (st i).1 (st i).2.1).getD (.junk,[],0)|none=>(.junk,[],0)
 have hop:∀ i o,ops[i]?=some o->stepT (N4 md o i) P cl ops.toList o (st i).1 (st i).2.1=some (op i)/\(op i).2.1=(st (i+1)).2.1/\VA nt (st i).1 o.dst (op i).1=some (st (i+1)).1/\(st (i+1)).2.2=(bif Nat.beq (op i).2.2 0 then (st i).2.2 else (i,(op i).2.2,aH3 (N4 md o i) (st i).1 o)::(st i).2.2)/\okT md ((kW ops).getD i 0) i (aH3 (N4 md o i) (st i).1 o) (op i).2.2 (op i).1 (op i).2.1=true:=by
  intro i o ho;have hi:i<ops.size:=(Array.getElem?_eq_some_iff.1 ho).1;have h1:=hst (i+1) Z;simp only[YI,hst i Z]at h1;have ho':ops.toList[i]?=some o:=by simpa using ho
  rw[ho']at h1;simp only at h1;split at h1
  next v H1 c hs=>
   have he:op i=(v,H1,c):=by simp only[op,ho,hs,Option.getD_some]
   obtain⟨hok,h1⟩:=aJ h1;rw[VH]at h1;split at h1
   next F1 hp=>rw[D1]at h1;grind
   ·cases h1
  ·cases h1
 let bk:Nat->Option Nat:=λi=>match ops[i]? with|some o=>aH3 (N4 md o i) (st i).1 o|none=>none
 have hmem:∀ k,k<=ops.size->∀ i,i<k->(op i).2.2≠0->(i,(op i).2.2,bk i)∈(st k).2.2:=by
  intro k
  induction k with
  | zero=>intro _ i hi; omega
  | succ k ih =>
   intro hk i hi hc;obtain⟨o,ho⟩:∃ o,ops[k]?=some o:=⟨ops[k],Array.getElem?_eq_getElem Z⟩;rw[(hop k o ho).2.2.2.1];rcases oG i k with hl|hl
   ·have:=ih Z i hl hc;cases Nat.beq (op k).2.2 0 with
    | true=>exact this
    | false=>exact List.mem_cons_of_mem _ this
   ·have:i=k:=Z
    subst this;have:Nat.beq (op i).2.2 0=false:=aCU hc;rw[this];have hbk:bk i=aH3 (N4 md o i) (st i).1 o:=by simp only[bk,ho]
    rw[hbk];exact List.mem_cons_self
 have hlast:st ops.size=(F',H',hl):=by
  have:=hst ops.size (oM _);rw[<- hlen,h]at this;simpa using this.symm
 have hhits:∀ k,k<=ops.size->aA7 (kW ops) (st k).2.2=true:=by
  intro k hk;obtain⟨d,rfl⟩:∃ d,k=ops.size-d:=⟨ops.size-k,by omega⟩;clear hk
  induction d with
  | zero=>rw[Nat.sub_zero,hlast]; exact hh
  | succ d ih =>
   rcases Nat.eq_zero_or_pos (ops.size-d)with h0|h0
   ·have:ops.size-(d+1)=ops.size-d:=Z
    rw[this]; exact ih
   ·have e:ops.size-d=(ops.size-(d+1))+1:=Z
    obtain⟨o,ho⟩:∃ o,ops[ops.size-(d+1)]?=some o:=⟨_,Array.getElem?_eq_getElem Z⟩;have h4:=(hop _ o ho).2.2.2.1;rw[<- e]at h4;rw[h4]at ih;cases hb:Nat.beq (op (ops.size-(d+1))).2.2 0 with
    | true=>rw[hb]at ih; exact ih
    | false =>
     rw[hb]at ih;simp only[oD,aA7,oA]at ih;exact ih.2
 refine⟨⟨λi=>(st i).1,λi=>(st i).2.1,λi=>(op i).1,λi=>(op i).2.2,?_,?_,by simp only[hlast],by simp only[hlast],md,?_,bk,?_,?_,?_⟩,rfl⟩
 ·have h0:=hst 0 (Nat.zero_le _);simp only[YI,oJ]at h0;rw[<- h0]
 ·have h0:=hst 0 (Nat.zero_le _);simp only[YI,oJ]at h0;rw[<- h0]
 ·intro i o ho;obtain⟨h1,h2,h3,_,h5⟩:=hop i o ho;exact⟨by rw[h1,<- h2],h3,by rw[<- h2]; exact h5⟩
 ·intro i o ho;simp only[bk,ho]
 ·intro i j hij hj hi hcj hc;obtain⟨o,ho⟩:∃ o,ops[j]?=some o:=⟨ops[j],Array.getElem?_eq_getElem hj⟩;have h1:=hhits (j+1) Z;rw[(hop j o ho).2.2.2.1,aCU hcj]at h1;simp only[oD,aA7,oA]at h1;have hbk:bk j=aH3 (N4 md o j) (st j).1 o:=by simp only[bk,ho]
  rw[hbk];exact aQ7 h1.1 (hmem j Z i hij hi) hc
 ·intro i o q ho hq hc H2 h2;obtain⟨h1,h3,_,_,_⟩:=hop i o ho;have hbk:bk i=aH3 (N4 md o i) (st i).1 o:=by simp only[bk,ho]
  have h4:stepT (N4 md o i) P cl ops.toList o (st i).1 (st i).2.1=some ((op i).1,(st (i+1)).2.1,(op i).2.2):=by rw[h1,<- h3]
  exact a4C h4 (hbk ▸ hq) hc H2 h2
section
variable {F':Frm} {H':Heap}
def TR(ops:Array Oper)(i:Nat):Option Tmp:=(ops[i]?).bind (·.dst)
def uM(T:Trace P cl nt ops F H F' H')(S:Nat->Bool)(t:Nat):Nat->PV
 | 0=>bM F t
 | k+1=>if S k=true/\TR ops k=some t then T.vs k else uM T S t k
def XC(T:Trace P cl nt ops F H F' H')(k:Nat)(H2:Heap):Heap:=match T.bs k with
 | some q=>H2.set q (((T.Hs (k+1))[q]?).getD none)
 | none=>T.Hs (k+1)
def fK(T:Trace P cl nt ops F H F' H')(S:Nat->Bool):Nat->Heap
 | 0=>H
 | k+1=>if S k=true/\1<T.cs k then XC T k (fK T S k) else fK T S k
variable (T:Trace P cl nt ops F H F' H')
theorem aXZ {nt F F' d v}(h:VA nt F d v=some F') t:bM F' t=if d=some t then v else bM F t:=by
 cases d with
 | none=>simp only[VA,oJ]at h; grind
 | some u =>
  simp only[VA]at h;cases hb:Nat.blt u nt with
  | false=>grind
  | true =>
   rw[hb]at h;simp only[oC,oJ]at h;subst h;rw[bT];grind
theorem aFO t:∀ k,k<=ops.size->uM T (λ_=>true) t k=bM (T.Fs k) t
 | 0,_=>by rw[uM,T.f0]
 | k+1,hk=>by
  obtain⟨o,ho⟩:∃ o,ops[k]?=some o:=⟨ops[k],Array.getElem?_eq_getElem Z⟩;rw[uM,aFO t k Z,aXZ (T.step k o ho).2.1 t];simp only[TR,ho,Option.bind_some,true_and]
theorem Q0 {S S'}{t:Nat}:∀ {k},(∀ j,j<k->TR ops j=some t->S j=S' j)->uM T S t k=uM T S' t k
 | 0,_=>rfl
 | k+1,h=>by
  rw[uM,uM,Q0 λj hj=>h j Z];grind
theorem UX {S}{t k:Nat}:∀ {n},k<=n->(∀ j,k<=j->j<n->TR ops j=some t->S j=false)->uM T S t n=uM T S t k
 | 0,hk,_=>W
 | n+1,hk,h=>by
  rcases oG k (n+1)with hl|hl
  ·rw[uM,UX Z λj h1 h2=>h j h1 Z,if_neg];grind
  grind
theorem aYN(hcl:dA P cl){l o F H H' v c}(h:xV P cl l o F H=some (v,H',c)):(c<=1->H'=H)/\(c=0->∀ H2,xV P cl l o F H2=some (v,H2,0)):=by
 unfold xV at h ⊢;split at h
 ·split at h
  ·obtain⟨h1,h2⟩:=bCC hcl h;grind
  ·grind
  grind
 ·grind
 grind
theorem aIA(hcl:dA P cl){r l o F H H' v c}(h:stepT r P cl l o F H=some (v,H',c)):(c<=1->H'=H)/\(c=0->∀ H2,stepT r P cl l o F H2=some (v,H2,0)):=by
 cases r with
 | none=>exact aYN hcl h
 | some q =>
  simp only[stepT]at h;split at h
  ·grind
  next cc hcc=>
   obtain⟨hnr,h⟩:=aJ h;split at h
   ·rename_i v1 X c1 hs;rcases R3 h with ⟨_,_,_,_,_,_,rfl,_⟩|⟨rfl,h1,rfl,rfl,rfl⟩
    ·simp
    ·refine⟨λ_=>rfl,λ_ H2=>?_⟩;simp only[stepT,hcc];rw[<- hcc,hnr,oC,hs];simp only[aRK,h1,oC]
   grind
  grind
theorem Trace.bAP {k q}(hk:k<ops.size)(hq:T.bs k=some q)(hc:T.cs k≠0):T.Hs (k+1)=if 1<T.cs k then (T.Hs k).set q (((T.Hs (k+1))[q]?).getD none) else T.Hs k:=by
 obtain⟨o,ho⟩:∃ o,ops[k]?=some o:=⟨ops[k],Array.getElem?_eq_getElem hk⟩;obtain⟨H3,c,h1,h2⟩:=T.loc k o q ho hq hc (T.Hs k) rfl;rw[(T.step k o ho).1]at h1;grind
theorem X3(hcl:dA P cl):∀ k,k<=ops.size->fK T (λ_=>true) k=T.Hs k
 | 0,_=>by rw[fK,T.h0]
 | k+1,hk=>by
  obtain⟨o,ho⟩:∃ o,ops[k]?=some o:=⟨ops[k],Array.getElem?_eq_getElem Z⟩;rw[fK,X3 hcl k Z]
  by_cases hc:1<T.cs k
  ·rw[if_pos ⟨rfl,hc⟩];unfold XC;cases hq:T.bs k with
   | none=>rfl
   | some q =>
    have:=T.bAP Z hq Z;grind
  ·rw[if_neg (λh=>hc h.2)];exact((aIA hcl (T.step k o ho).1).1 Z).symm
theorem FD {S S'}:∀ {k},(∀ j,j<k->1<T.cs j->S j=S' j)->fK T S k=fK T S' k
 | 0,_=>rfl
 | k+1,h=>by
  rw[fK,fK,FD λj hj=>h j Z];grind
theorem UN {S k}:∀ {n},k<=n->(∀ j,k<=j->j<n->1<T.cs j->S j=false)->fK T S n=fK T S k
 | 0,hk,_=>W
 | n+1,hk,h=>by
  rcases oG k (n+1)with hl|hl
  ·rw[fK,UN Z λj h1 h2=>h j h1 Z,if_neg];grind
  grind
theorem aQG {q:Nat} {S S':Nat->Bool}:∀ {n:Nat},(∀ j,j<n->1<T.cs j->T.bs j=none\/T.bs j=some q->S j=S' j)->(fK T S n).length=(fK T S' n).length/\(fK T S n)[q]?=(fK T S' n)[q]?
 | 0,_=>⟨rfl,rfl⟩
 | n+1,h=>by
  obtain⟨e1,e2⟩:=aQG (q:=q) (S:=S) (S':=S') (n:=n) λj hj=>h j Z
  rw[fK,fK]
  by_cases hd:1<T.cs n
  ·cases hb:T.bs n with
   | none =>
    have:=h n Z hd (.inl hb);rw[this]
    by_cases hs:S' n=true
    ·rw[if_pos ⟨hs,hd⟩,if_pos ⟨hs,hd⟩];simp only[XC,hb,and_self]
    ·grind
   | some p =>
    by_cases hpq:p=q
    ·subst hpq;have:=h n Z hd (.inr hb);rw[this]
     by_cases hs:S' n=true
     ·rw[if_pos ⟨hs,hd⟩,if_pos ⟨hs,hd⟩];simp only[XC,hb,List.length_set];grind
     ·grind
    ·have key:∀ X:Heap,(XC T n X).length=X.length/\(XC T n X)[q]?=X[q]?:=λX=>by
      simp only[XC,hb,List.length_set,true_and];grind
     grind
  ·grind
theorem aKI {i:Nat} {S S':Nat->Bool} (hx:1<T.cs i) (hi:S i=false) (hi':S' i=true) (hne:∀ j,j≠i->S' j=S j) (hlate:∀ j,i<j->j<ops.size->1<T.cs j->S j=true->U0 (T.bs j) (T.bs i)=true) :
  ∀ n,i<n->n<=ops.size->fK T S' n=XC T i (fK T S n)
 | 0,h,_=>Z
 | n+1,h,hn=>by
  rcases oG i n with hl|hl
  ·rw[fK,aKI hx hi hi' hne hlate n hl Z,fK,hne n Z]
   by_cases hc:S n=true/\1<T.cs n
   ·rw[if_pos hc,if_pos hc];have:=hlate n hl Z hc.2 hc.1;cases hb1:T.bs n with
    | none=>rw[hb1]at this; cases this
    | some p =>
     cases hb2:T.bs i with
     | none=>rw[hb1,hb2]at this; cases this
     | some q =>
      rw[hb1,hb2]at this;simp only[U0,Bool.not_eq_true']at this;have hne:p≠q:=λe=>by rw[e,Nat.beq_refl]at this; cases this
      simp only[XC,hb1,hb2];exact List.set_comm _ _ (Ne.symm hne)
   ·grind
  ·have:i=n:=Z
   subst this;rw[fK,if_pos ⟨hi',hx⟩,fK,if_neg (λh=>by rw[hi]at h; cases h.1)]
   congr 1
   exact FD T λj hj _=>hne j Z
theorem aVQ S:∀ k,∃ F1,∀ t,bM F1 t=uM T S t k
 | 0=>⟨F,λt=>rfl⟩
 | k+1=>by
  obtain⟨F1,h1⟩:=aVQ S k
  by_cases hS:S k=true
  ·cases hd:TR ops k with
   | none=>exact⟨F1,λt=>by rw[h1,uM]; grind⟩
   | some d =>
    refine⟨a4V F1 d (T.vs k),λt=>?_⟩;rw[aJN,h1,uM];grind
  ·exact⟨F1,λt=>by rw[h1,uM]; grind⟩
theorem cZ.congr {w G μ F F' a}(h:cZ w G μ nt F a)(he:∀ t,bM F' t=bM F t):cZ w G μ nt F' a:=⟨h.size,λt=>by rw[he]; exact h.slot t,h.defers⟩
theorem I.congr {F F' H a w}(h:I n0 wi Gi μi nt F H a w)(he:∀ t,bM F' t=bM F t):I n0 wi Gi μi nt F' H a w:=by
 obtain⟨G,μ,e,hW,hF⟩:=h;exact⟨G,μ,e,hW,hF.congr he⟩
theorem aGU {o:Oper}{F F' H}(h:∀ t∈o.looksAt ops,bM F' t=bM F t):xV P cl ops.toList o F' H=xV P cl ops.toList o F H:=by
 have hev:∀ x∈o.op.operands,ev F' x=ev F x:=λx hx=>by
  cases x with
  | tmp t=>exact h t (List.mem_append_left _ (List.mem_filterMap.2 ⟨.tmp t,by simpa using hx,rfl⟩))
  | _=>rfl
 have hg:guardOf F' ops.toList o=guardOf F ops.toList o:=by
  unfold guardOf;split
  ·rfl
  next j want hgu=>
   split
   ·rename_i p hp;split
    ·rename_i t ht;rw[h t (List.mem_append_right _ (by
      rw[hgu];have hp:ops[j]?=some p:=by simpa using hp
      simp[hp,ht]))]
    ·rfl
   ·rfl
 have hm:mkData P F' ops.toList o=mkData P F ops.toList o:=by
  unfold mkData;split
  next t x y ho=>rw[hev x (by rw[ho]; simp[Op.operands]),hev y (by rw[ho]; simp[Op.operands])]
  ·rfl
 have hz:opz P cl ops.toList F' H o=opz P cl ops.toList F H o:=by
  unfold opz;rw[a4W hev];split
  next t x y ho=>rw[hev x (by rw[ho]; simp[Op.operands]),hev y (by rw[ho]; simp[Op.operands])]
  ·rfl
 unfold xV;grind
def V0(m:List Nat) (S:Nat->Bool):Prop:=∀ j,S j=true->∀ i,(m.getD j 0).testBit i=true->S i=true
theorem aJK {p p' i}(h1:p i=true)(h2:p' i=false)(h3:∀ j,j≠i->p' j=p j):∀ n,i<n->(List.range n).countP p'+1=(List.range n).countP p
 | 0,h=>Z
 | n+1,h=>by
  rw[List.range_succ,List.countP_append,List.countP_append];rcases oG i n with hl|hl
  ·have:=aJK h1 h2 h3 n hl;grind
  ·have e:(List.range i).countP p'=(List.range i).countP p:=List.countP_congr λj hj=>by
    grind
   grind
theorem a6G {G:Gd} {μ:Mp} {H:Heap} {w:World} (hW:aO n0 G μ H w) {q:Nat} (hq:q<H.length) (hn:μ.loc q=none) (c:Array Value) (t:TypeId) :
  Ext n0 w G μ (w.alloc (.cells c t)) G ⟨λs=>if s=q then some w.heap.size else μ.loc s,μ.len,λs=>if s=q then 0 else μ.sh s⟩/\aO n0 G ⟨λs=>if s=q then some w.heap.size else μ.loc s,μ.len,λs=>if s=q then 0 else μ.sh s⟩ (H.set q (some ⟨lits c,t,false,false,none⟩)) (w.alloc (.cells c t)):=by
 have hnew:(w.alloc (.cells c t)).heap[w.heap.size]?=some (.cells c t (0,0)):=by
  show (w.heap.push _)[w.heap.size]?=_;simp
 have e0:=CP hW (.cells c t) none none;have e:Ext n0 w G μ (w.alloc (.cells c t)) G ⟨λs=>if s=q then some w.heap.size else μ.loc s,μ.len,λs=>if s=q then 0 else μ.sh s⟩:={ e0 with
  map:=λr b hb=>W
  len:=λr n h=>h
  sh:=λr b hb=>by
   show (if r=q then 0 else μ.sh r)=μ.sh r;rw[if_neg (by rintro rfl; rw[hn]at hb; cases hb)] }
 have key:∀ (s:Nat) (k1:Blk),(H.set q (some ⟨lits c,t,false,false,none⟩))[s]?=some (some k1)->(s=q/\k1=⟨lits c,t,false,false,none⟩)\/(s≠q/\H[s]?=some (some k1)):=W
 refine⟨e,?_,?_,?_,hW.lt.step e.good λb hb=>Nat.lt_of_lt_of_le (hW.lt b hb) e.size,?_,λb hb=>hW.base b (oR e.size hb),?_⟩
 case refine_5 =>
  refine hW.rows.step e.toMono.aG e.size (λ_=>rfl) (λj b hj=>⟨Below.heap_alloc _ _ _ (hW.rows.sep j b hj).1,id,λs k1 hs hf1 hl=>?_⟩) (λs k1 t1 l1 hs hg1 ht1=>?_)
  ·rcases key s k1 hs with ⟨rfl,rfl⟩|⟨hne,hs'⟩
   ·simp only[if_true]at hl;cases hl;exact absurd (hW.rows.sep j _ hj).1 (Nat.lt_irrefl _)
   ·grind
  ·grind
 ·intro s k1 b hs hb;rcases key s k1 hs with ⟨rfl,rfl⟩|⟨hne,hs'⟩
  ·simp only[if_true]at hb;cases hb;refine⟨c,hnew,?_,λ_=>by simp[lits],λh=>(by cases h),λ_=>⟨hW.base _ (oM _),λhG=>Nat.lt_irrefl _ (hW.lt _ hG)⟩⟩;refine aL.mk λi p hp=>?_
   obtain⟨v,h1,h2⟩:=(zB (w:=w.alloc (.cells c t)) (G:=G) (μ:=⟨λx=>if x=s then some w.heap.size else μ.loc x,μ.len,λx=>if x=s then 0 else μ.sh x⟩) c).get hp
   simp_all
  ·simp only[if_neg hne]at hb;obtain⟨c',h2,h3,h4⟩:=hW.blk s k1 b hs' hb;have e1:(w.alloc (.cells c t)).heap[b]?=w.heap[b]?:=Below.heap_alloc _ _ _ (kM h2);simp only[if_neg hne];exact⟨c',e1.trans h2,aL.mono e.toMono e1 _ _ h3,h4⟩
 ·intro s k1 g hs hg;rcases key s k1 hs with ⟨rfl,rfl⟩|⟨hne,hs'⟩
  ·cases hg
  ·exact hW.tags s k1 g hs' hg
 ·intro s1 s2 k1 k2 b h1 h2 f1 f2 m1 m2;rcases key s1 k1 h1 with ⟨rfl,rfl⟩|⟨l1,h1'⟩ <;> rcases key s2 k2 h2 with ⟨e2,rfl⟩|⟨l2,h2'⟩
  ·grind
  ·simp only[if_true]at m1;simp only[if_neg l2]at m2;cases m1;exact absurd (hW.pK h2' m2) (Nat.lt_irrefl _)
  ·subst e2;simp only[if_true]at m2;simp only[if_neg l1]at m1;cases m2;exact absurd (hW.pK h1' m1) (Nat.lt_irrefl _)
  ·simp only[if_neg l1]at m1;simp only[if_neg l2]at m2;exact hW.inj s1 s2 k1 k2 b h1' h2' f1 f2 m1 m2
 ·intro r hr;rw[List.length_set]at hr;have:=hW.top r hr;exact⟨by show (if r=q then _ else _)=_; rw[if_neg Z]; exact this.1,this.2⟩
theorem aUJ {o}(h:aCG o=true):o.guard=none/\(∃ d,o.dst=some d)/\((∃ t,o.op=.alloc t)\/∃ c,o.op=.call c):=by
 unfold aCG at h;rw[Bool.or_eq_true]at h;rcases h with h|h
 ·unfold isVar at h;grind
 ·unfold aJT at h;split at h
  ·unfold aIN at h;grind
  grind
theorem aIV {m o k q}(h:N4 m o k=some q):∃ b,m=some b/\q=b+k/\aCG o=true:=by
 unfold N4 at h;grind
def aSJ(T:Trace P cl nt ops F H F' H') (n0:Nat->Prop) (wi:World) (Gi:Gd) (μi:Mp):Prop :=
 ∀ (S:Nat->Bool) (F1:Frm) (w:World) (a:Act),V0 (kW ops) S->(∀ t,bM F1 t=uM T S t ops.size)->I n0 wi Gi μi nt F1 (fK T S ops.size) a w->∀ i o q,ops[i]?=some o->S i=false->N4 T.md o i=some q ->
  ∃ G μ,Ext n0 wi Gi μi w G μ/\aO n0 G μ (fK T S ops.size) w/\cZ w G μ nt F1 a/\μ.loc q=none/\((fK T S ops.size)[q]?=some none->μ.len q=none)
theorem aQT {b}:∀ {F} t,aQM b F=true->below b (bM F t)=true
 | [],t,_=>rfl
 | (u,p)::F,t,h=>by
  simp only[aQM,oA]at h;rw[bT];split
  ·grind
  ·exact aQT t h.2
mutual
theorem aWP {p p':Nat->Bool} (h:∀ r,p r=true->p' r=true):∀ v:PV,inP p v=true->inP p' v=true
 | .lit _,_|.vals ..,_|.iptr _,_|.tl ..,_|.tp ..,_|.junk,_|.row ..,_|.rp ..,_|.mp _,_|.tm _,_=>rfl
 | .own r _,hv=>h r hv
 | .op r _ _ _,hv=>h r hv
 | .win r _ _ _,hv=>h r hv
 | .qs r _,hv=>h r hv
 | .hptr r _,hv=>h r hv
 | .hs r _ _ _ _,hv=>h r hv
 | .agg cs,hv=>by simp only[inP]at hv ⊢; exact MC h cs hv
 | .tuple cs,hv=>by simp only[inP]at hv ⊢; exact MC h cs hv
 | .clo _ f c,hv=>by
  simp only[inP,oA]at hv ⊢;exact⟨MC h f hv.1,MC h c hv.2⟩
theorem MC {p p':Nat->Bool} (h:∀ r,p r=true->p' r=true):∀ l:List PV,inP.inPs p l=true->inP.inPs p' l=true
 | [],_=>rfl
 | q::l,hv=>by
  simp only[inP.inPs,oA]at hv ⊢;exact⟨aWP h q hv.1,MC h l hv.2⟩
end
mutual
theorem aR0 {m:Nat} {p:Nat->Bool} (h:∀ r,r<m->p r=true):∀ v:PV,below m v=true->inP p v=true
 | .lit _,_|.vals ..,_|.iptr _,_|.tl ..,_|.tp ..,_|.junk,_|.row ..,_|.rp ..,_|.mp _,_|.tm _,_=>rfl
 | .own r _,hv=>h r (fX (by simpa only[below]using hv))
 | .op r _ _ _,hv=>h r (fX (by simpa only[below]using hv))
 | .win r _ _ _,hv=>h r (fX (by simpa only[below]using hv))
 | .qs r _,hv=>h r (fX (by simpa only[below]using hv))
 | .hptr r _,hv=>h r (fX (by simpa only[below]using hv))
 | .hs r _ _ _ _,hv=>h r (fX (by simpa only[below]using hv))
 | .agg cs,hv=>by simp only[below]at hv; simp only[inP]; exact MS h cs hv
 | .tuple cs,hv=>by simp only[below]at hv; simp only[inP]; exact MS h cs hv
 | .clo _ f c,hv=>by
  simp only[below,oA]at hv;simp only[inP,oA];exact⟨MS h f hv.1,MS h c hv.2⟩
theorem MS {m:Nat} {p:Nat->Bool} (h:∀ r,r<m->p r=true):∀ l:List PV,below.belows m l=true->inP.inPs p l=true
 | [],_=>rfl
 | q::l,hv=>by
  simp only[below.belows,oA]at hv;simp only[inP.inPs,oA];exact⟨aR0 h q hv.1,MS h l hv.2⟩
end
mutual
theorem a5Z {p:Nat->Bool} {w:World} {G:Gd} {μ μ':Mp} (h:∀ r,p r=true->μ'.loc r=μ.loc r/\μ'.len r=μ.len r/\μ'.sh r=μ.sh r):∀ (q:PV) (v:Value),inP p q=true->VR w G μ q v->VR w G μ' q v
 | .lit u,v,_,hv=>by rw[VR]at hv ⊢; exact hv
 | .vals ..,v,_,hv=>by rw[VR]at hv ⊢; exact hv
 | .iptr _,v,_,hv=>by rw[VR]at hv ⊢; exact hv
 | .tl ..,v,_,hv=>by rw[VR]at hv ⊢; exact hv
 | .tp ..,v,_,hv=>by rw[VR]at hv ⊢; exact hv
 | .row ..,v,_,hv=>by rw[VR]at hv ⊢; exact hv
 | .rp ..,v,_,hv=>by rw[VR]at hv ⊢; exact hv
 | .mp _,v,_,hv=>by rw[VR]at hv ⊢; exact hv
 | .tm _,v,_,hv=>by rw[VR]at hv ⊢; exact hv
 | .junk,v,_,hv=>by rw[VR]; trivial
 | .hptr r off,v,hb,hv=>by
  have:=h r hb;rw[VR]at hv ⊢; rw[this.1,this.2.2]; exact hv
 | .hs r off l c s,v,hb,hv=>by
  have:=h r hb;rw[VR]at hv ⊢; rw[this.1,this.2.2]; exact hv
 | .own r s,v,hb,hv=>by
  have:=h r hb;rw[VR]at hv ⊢; rw[this.1,this.2.1,this.2.2]; exact hv
 | .op r i off s,v,hb,hv=>by
  have:=h r hb;rw[VR]at hv ⊢; rw[this.1,this.2.2]; exact hv
 | .win r lo n s,v,hb,hv=>by
  have:=h r hb;rw[VR]at hv ⊢; rw[this.1,this.2.1,this.2.2]; exact hv
 | .qs r s,v,hb,hv=>by
  have:=h r hb;rw[VR]at hv ⊢; rw[this.1,this.2.1,this.2.2]; exact hv
 | .agg cs,v,hb,hv=>by
  rw[VR]at hv ⊢;obtain⟨vs,h1,h2⟩:=hv;exact⟨vs,h1,aCZ h cs _ (by simpa only[inP]using hb) h2⟩
 | .tuple cs,v,hb,hv=>by
  rw[VR]at hv ⊢;obtain⟨vs,h1,h2⟩:=hv;exact⟨vs,h1,aCZ h cs _ (by simpa only[inP]using hb) h2⟩
 | .clo fn f c,v,hb,hv=>by
  rw[VR]at hv ⊢;simp only[inP,oA]at hb;obtain⟨fs,cs,h1,h2,h3⟩:=hv;exact⟨fs,cs,h1,aCZ h f _ hb.1 h2,aCZ h c _ hb.2 h3⟩
theorem aCZ {p:Nat->Bool} {w:World} {G:Gd} {μ μ':Mp} (h:∀ r,p r=true->μ'.loc r=μ.loc r/\μ'.len r=μ.len r/\μ'.sh r=μ.sh r):∀ (ps:List PV) (vs:List Value),inP.inPs p ps=true->VRs w G μ ps vs->VRs w G μ' ps vs
 | [],vs,_,hv=>by rw[VRs]at hv ⊢; exact hv
 | q::ps,vs,hb,hv=>by
  rw[VRs]at hv ⊢;simp only[inP.inPs,oA]at hb;obtain⟨x,xs,h1,h2,h3⟩:=hv;exact⟨x,xs,h1,a5Z h q x hb.1 h2,aCZ h ps xs hb.2 h3⟩
end
theorem a0Q {p w G μ μ'}(h:∀ r,p r=true->μ'.loc r=μ.loc r/\μ'.len r=μ.len r/\μ'.sh r=μ.sh r){b off ps}(hn:inP.inPs p ps=true)(hc:aL w G μ b off ps):aL w G μ' b off ps:=by
 obtain⟨vs,h1,h2⟩:=hc.values;exact aL.nZ (aCZ h ps vs hn h1) h2
theorem aO1 {p:Nat->Bool}:∀ {H:Heap} {r:Nat} {k:Blk},aNA p H=true->H[r]?=some (some k)->k.tag.isSome=true\/inP.inPs p k.cells=true
 | [],r,k,_,h=>by simp at h
 | x::H,0,k,hp,h=>by
  simp only[List.getElem?_cons_zero,oJ]at h;subst h;simp only[aNA,a2E,oA,Bool.or_eq_true]at hp;exact hp.1
 | x::H,r+1,k,hp,h=>by
  simp only[aNA,oA]at hp;exact aO1 (H:=H) (r:=r) hp.2 (by simpa using h)
def aJ2(b:Nat) (S:Nat->Bool) (r:Nat):Bool:=Nat.blt r b||S (r-b)
theorem aAJ {b k S}(hS:V0 (kW ops) S)(hk:S k=true):∀ r,a0W b ((kW ops).getD k 0 ||| 2^k) r=true->aJ2 b S r=true:=by
 intro r h;unfold a0W at h;unfold aJ2;rw[Bool.or_eq_true]at h ⊢;rcases h with h|h
 ·grind
 ·right;rw[oA,Nat.testBit_or,Bool.or_eq_true]at h;rcases h.2 with h1|h1
  ·exact hS k hk _ h1
  grind
theorem aRC {b}(hm:T.md=some b)(hF:aQM b F=true){S}(hS:V0 (kW ops) S) t:∀ k,k<=ops.size->inP (aJ2 b S) (uM T S t k)=true
 | 0,_=>aR0 (λr hr=>by unfold aJ2; simp_all) _ (aQT t hF)
 | k+1,hk=>by
  obtain⟨o,ho⟩:∃ o,ops[k]?=some o:=⟨ops[k],Array.getElem?_eq_getElem Z⟩;rw[uM]
  by_cases hc:S k=true/\TR ops k=some t
  ·rw[if_pos hc];have h3:=(T.step k o ho).2.2;rw[hm]at h3;simp only[okT,oA]at h3;exact aWP (aAJ hS hc.1) _ h3.1
  ·rw[if_neg hc];exact aRC hm hF hS t k Z
theorem aI7 {b}(hm:T.md=some b)(hH:UM b H=true){S}(hS:V0 (kW ops) S):∀ k,k<=ops.size->∀ (r:Nat) x,(fK T S k)[r]?=some (some x)->x.tag.isSome=true\/inP.inPs (aJ2 b S) x.cells=true
 | 0,_,r,x,h=>by
  rcases aCT hH h with h|h
  ·grind
  ·exact .inr (MS (λr hr=>by unfold aJ2; rw[bW,oT hr]; rfl) _ h)
 | k+1,hk,r,x,h=>by
  obtain⟨o,ho⟩:∃ o,ops[k]?=some o:=⟨ops[k],Array.getElem?_eq_getElem Z⟩;rw[fK]at h
  by_cases hc:S k=true/\1<T.cs k
  ·rw[if_pos hc]at h;have h3:=(T.step k o ho).2.2;rw[<- T.hbs k o ho,hm]at h3;simp only[okT,oA,bF4]at h3;replace h3:=h3.2;rw[bW,oT hc.2,oC]at h3;unfold XC at h;split at h
   ·rename_i q hq;rw[hq]at h3;simp only at h3;rw[List.getElem?_set]at h
    by_cases hqr:q=r
    ·rw[if_pos hqr]at h;split at h
     ·have h5:=oB h;cases h6:(T.Hs (k+1))[q]? with
      | none=>rw[h6]at h5; cases h5
      | some y =>
       rw[h6]at h5;subst h5;have h7:gS (T.Hs (k+1)) q=some x:=by unfold PM.gS; rw[h6]
       rw[h7]at h3;simp only[a2E,Bool.or_eq_true]at h3;rcases h3 with h3|h3
       ·grind
       ·exact .inr (MC (aAJ hS hc.1) _ h3)
     ·cases h
    ·rw[if_neg hqr]at h;exact aI7 hm hH hS k Z r x h
   ·rename_i hq;rw[hq]at h3;rcases aO1 h3 h with h3|h3
    ·grind
    ·exact .inr (MC (aAJ hS hc.1) _ h3)
  ·rw[if_neg hc]at h;exact aI7 hm hH hS k Z r x h
def aTD(b:Nat)(S:Nat->Bool)(X:Heap)(μ:Mp):Mp:=⟨λr=>if b<=r/\S (r-b)=false then none else μ.loc r,λr=>if b<=r/\S (r-b)=false/\Y9 X r=true then none else μ.len r,μ.sh⟩
theorem aQI {b S X μ}:∀ s,aJ2 b S s=true->(aTD b S X μ).loc s=μ.loc s/\(aTD b S X μ).len s=μ.len s/\(aTD b S X μ).sh s=μ.sh s:=λs hs=>by
 have h:¬ (b<=s/\S (s-b)=false):=λh=>by
  unfold aJ2 at hs;rw[Bool.or_eq_true]at hs;rcases hs with hs|hs
  ·have:=fX hs; omega
  grind
 refine⟨?_,?_,rfl⟩
 ·show (if b<=s/\S (s-b)=false then none else μ.loc s)=μ.loc s;grind
 ·show (if b<=s/\S (s-b)=false/\Y9 X s=true then none else μ.len s)=μ.len s;grind
theorem a98(hmb:∀ b,T.md=some b->aQM b F=true/\UM b H=true/\∀ r,b<=r->μi.loc r=none/\μi.len r=none):aSJ T n0 wi Gi μi:=by
 intro S F1 w a hC hF1 hI i o q ho hS hr;obtain⟨b,hm,rfl,ha⟩:=aIV hr;obtain⟨hF,hH,hμ⟩:=hmb b hm;obtain⟨G,μ,e,hW,hFI⟩:=hI;refine⟨G,aTD b S (fK T S ops.size) μ,?_,?_,?_,?_,?_⟩
 ·exact { e with
   map:=λr x hx=>by
    show (if b<=r/\S (r-b)=false then none else μ.loc r)=some x;rw[if_neg (λh=>by rw[(hμ r h.1).1]at hx; cases hx)];exact e.map r x hx
   len:=λr x hx=>by
    show (if b<=r/\S (r-b)=false/\Y9 (fK T S ops.size) r=true then none else μ.len r)=some x;rw[if_neg (λh=>by rw[(hμ r h.1).2]at hx; cases hx)];exact e.len r x hx }
 ·refine⟨?_,?_,?_,hW.lt,?_,hW.base,hW.rows.bE2 λr=>?_⟩
  case refine_5 =>
   show (if b<=r/\S (r-b)=false then none else μ.loc r)=none\/(if b<=r/\S (r-b)=false then none else μ.loc r)=μ.loc r;grind
  ·intro r k x hk hx;change (if b<=r/\S (r-b)=false then none else μ.loc r)=some x at hx;split at hx
   ·cases hx
   ·obtain⟨c,h1,h2,h3⟩:=hW.blk r k x hk hx;refine⟨c,h1,?_,h3⟩;rcases aI7 T hm hH hC ops.size (oM _) r k hk with h4|h4
    ·obtain⟨g,hg⟩:=Option.isSome_iff_exists.1 h4;rw[(hW.tags r k g hk hg).1]at h2 ⊢;exact nR (iM _ _) h2
    ·exact a0Q aQI h4 h2
  ·intro r k g hk hg;obtain⟨h1,h2⟩:=hW.tags r k g hk hg;refine⟨h1,?_⟩;show (if b<=r/\S (r-b)=false/\Y9 (fK T S ops.size) r=true then none else μ.len r)=_;rw[if_neg (λh=>by have h3:=YY.1 h.2.2; rw[hk]at h3; cases h3)];exact h2
  ·intro r s k l x h1 h2 f1 f2 m1 m2;change (if b<=r/\S (r-b)=false then none else μ.loc r)=some x at m1;change (if b<=s/\S (s-b)=false then none else μ.loc s)=some x at m2;split at m1
   ·cases m1
   ·split at m2
    ·cases m2
    ·exact hW.inj r s k l x h1 h2 f1 f2 m1 m2
  ·intro r hr;have:=hW.top r hr;refine⟨?_,?_⟩
   ·show (if b<=r/\_ then _ else _)=_;grind
   ·show (if b<=r/\S (r-b)=false/\Y9 (fK T S ops.size) r=true then none else μ.len r)=_;grind
 ·refine⟨hFI.size,λt=>?_,hFI.defers⟩;have hv:=hFI.slot t;rw[hF1]at hv ⊢;exact a5Z aQI _ _ (aRC T hm hF hC t ops.size (oM _)) hv
 ·show (if b<=b+i/\S (b+i-b)=false then none else μ.loc (b+i))=none;rw[if_pos ⟨Nat.le_add_right _ _,by rw[Nat.add_sub_cancel_left]; exact hS⟩]
 ·intro hx;show (if b<=b+i/\S (b+i-b)=false/\Y9 (fK T S ops.size) (b+i)=true then none else μ.len (b+i))=none;rw[if_pos ⟨Nat.le_add_right _ _,by rw[Nat.add_sub_cancel_left]; exact hS,YY.2 hx⟩]
theorem bBZ {G:Gd} {μ:Mp} {H:Heap} {w:World} (hW:aO n0 G μ H w) {q:Nat} (hq:q<H.length) (hn:μ.loc q=none) (hl:μ.len q=none) {w':World} {G':Gd} {μ':Mp} {k:Blk} {sz:Nat} {v:Value}
  (e:Ext (uF w) w G.bare aG w' G' μ') (hW':aO (uF w) G' μ' [some k] w') (hv:VR w' G' μ' (.own 0 sz) v) (ht:aNV k.tag=true) :
  ∃ μ2,Ext n0 w G μ w' (G'.with G) μ2/\aO n0 (G'.with G) μ2 (H.set q (some k)) w'/\VR w' (G'.with G) μ2 (.own q sz) v:=by
 have e2:Ext n0 w G μ w' (G'.with G) ⟨λs=>if s=q then μ'.loc 0 else μ.loc s,λs=>if s=q then μ'.len 0 else μ.len s,λs=>if s=q then μ'.sh 0 else μ.sh s⟩:={
  good:=e.good
  map:=λr b hb=>W
  len:=λr b hb=>W
  room:=e.room
  sh:=λr b hb=>W
  row:=λ_ _ h=>h
  os:=e.os
  tape:=e.tape
  output:=e.output
  size:=e.size
  old:=λb hb _=>e.old b hb (Nat.not_le.2 hb)
  new:=λb hb=>by
   rcases e.new b hb with h|h
   ·exact .inl h
   ·exact .inr (hW.base b h) }
 have hnew:∀ b,μ'.loc 0=some b->∃ c,w'.heap[b]?=some (.cells c k.ty (0,0))/\aL w' G' μ' b (μ'.sh 0) k.cells/\(k.grown=false->c.size=k.cells.length)/\(k.frozen=true->G' b)/\(k.frozen=false->uF w b/\¬ G' b):=λb hb=>hW'.blk 0 k b rfl hb
 obtain⟨g,hg,hgp⟩:∃ g,k.tag=some g/\g.t.plain=true:=by
  cases hk:k.tag with
  | none=>rw[hk]at ht; cases ht
  | some g=>rw[hk]at ht; exact⟨g,rfl,ht⟩
 obtain⟨hgc,hgl⟩:=hW'.tags 0 k g rfl hg;have key:∀ (s:Nat) (k1:Blk),(H.set q (some k))[s]?=some (some k1)->(s=q/\k1=k)\/(s≠q/\H[s]?=some (some k1)):=W
 refine⟨_,e2,⟨?_,?_,?_,hW'.lt,?_,λb hb=>hW.base b (oR e.size hb),?_⟩,?_⟩
 ·intro s k1 b hs hb;rcases key s k1 hs with ⟨rfl,rfl⟩|⟨hne,hs'⟩
  ·simp only[if_true]at hb;obtain⟨c,h1,h2,h3,h4,h5⟩:=hnew b hb;simp only[if_true];refine⟨c,h1,?_,h3,h4,λhf=>⟨hW.base b (h5 hf).1,(h5 hf).2⟩⟩;rw[hgc]at h2 ⊢;exact uY (G:=G') (G':=G'.with G) (λb h=>h) _ _ _ _ (xN _ hgp _) (nR (iM _ _) h2)
  ·simp only[if_neg hne]at hb;obtain⟨c',h2,h3,h4,h5,h6⟩:=hW.blk s k1 b hs' hb;have hlt:=hW.pK hs' hb;have e1:w'.heap[b]?=w.heap[b]?:=e.old b hlt (Nat.not_le.2 hlt);simp only[if_neg hne];refine⟨c',e1.trans h2,aL.mono e2.toMono e1 _ _ h3,h4,λhf=>(e.good b (h5 hf)).1,λhf=>⟨(h6 hf).1,λhg=>?_⟩⟩;rcases e.new b hg with h|h
   ·exact(h6 hf).2 h
   ·grind
 ·intro s k1 g1 hs hg1;rcases key s k1 hs with ⟨rfl,rfl⟩|⟨hne,hs'⟩
  ·grind
  ·simp only[if_neg hne];exact hW.tags s k1 g1 hs' hg1
 ·intro s1 s2 k1 k2 b h1 h2 f1 f2 m1 m2;rcases key s1 k1 h1 with ⟨rfl,rfl⟩|⟨l1,h1'⟩ <;> rcases key s2 k2 h2 with ⟨e2,rfl⟩|⟨l2,h2'⟩
  ·grind
  ·simp only[if_true]at m1;simp only[if_neg l2]at m2;obtain⟨_,_,_,_,_,h5⟩:=hnew b m1;exact absurd (hW.pK h2' m2) (Nat.not_lt.2 (h5 f1).1)
  ·subst e2;simp only[if_true]at m2;simp only[if_neg l1]at m1;obtain⟨_,_,_,_,_,h5⟩:=hnew b m2;exact absurd (hW.pK h1' m1) (Nat.not_lt.2 (h5 f2).1)
  ·simp only[if_neg l1]at m1;simp only[if_neg l2]at m2;exact hW.inj s1 s2 k1 k2 b h1' h2' f1 f2 m1 m2
 ·intro r hr;rw[List.length_set]at hr;have:=hW.top r hr;exact⟨by show (if r=q then _ else _)=_; rw[if_neg Z]; exact this.1,by show (if r=q then _ else _)=_; rw[if_neg Z]; exact this.2⟩
 ·refine hW.rows.step e2.toMono.aG e.size (λ_=>rfl) (λj b hj=>?_) (λs k1 t1 l1 hs hg1 ht1=>?_)
  ·have hlt:=(hW.rows.sep j b hj).1;refine⟨e.old b hlt (Nat.not_le.2 hlt),λhg=>?_,λs k1 hs hf1 hl=>?_⟩
   ·rcases e.new b hg with h|h
    ·exact h
    ·exact absurd hlt (Nat.not_lt.2 h)
   ·rcases key s k1 hs with ⟨rfl,rfl⟩|⟨hne,hs'⟩
    ·simp only[if_true]at hl;obtain⟨_,_,_,_,_,h5⟩:=hnew b hl;exact absurd hlt (Nat.not_lt.2 (h5 hf1).1)
    ·simp only[if_neg hne]at hl;exact⟨s,k1,hs',hf1,hl⟩
  ·rcases key s k1 hs with ⟨rfl,rfl⟩|⟨hne,hs'⟩
   ·rw[hg]at ht1;cases ht1;cases hgp
   ·exact⟨k1,hs',rfl,rfl,rfl,by simp only[if_neg hne]⟩
 ·rw[VR]at hv ⊢;simp only[if_true];exact hv
theorem bBB {G:Gd} {μ:Mp} {H:Heap} {w:World} (hW:aO n0 G μ H w) {w':World} {G':Gd} {μ':Mp} (e:Ext (uF w) w G.bare aG w' G' μ') (hlt':∀ b,G' b->b<w'.heap.size):Ext n0 w G μ w' (G'.with G) μ/\aO n0 (G'.with G) μ H w':=by
 have e2:Ext n0 w G μ w' (G'.with G) μ:={
  good:=e.good
  map:=λ_ _ h=>h
  len:=λ_ _ h=>h
  room:=e.room
  row:=λ_ _ h=>h
  os:=e.os
  tape:=e.tape
  output:=e.output
  size:=e.size
  old:=λb hb _=>e.old b hb (Nat.not_le.2 hb)
  new:=λb hb=>by
   rcases e.new b hb with h|h
   ·exact .inl h
   ·exact .inr (hW.base b h) }
 have hback:∀ b,b<w.heap.size->G' b->G b:=λb hlt hg=>by
  rcases e.new b hg with h|h
  ·exact h
  ·grind
 refine⟨e2,hW.keep e2 ⟨λ_=>rfl,λj b hj=>?_⟩ ?_ hlt'⟩
 ·have hlt:=(hW.rows.sep j b hj).1;exact⟨e.old b hlt (Nat.not_le.2 hlt),hback b hlt⟩
 ·intro r k b hr hb;have hlt:=hW.pK hr hb;exact⟨e.old b hlt (Nat.not_le.2 hlt),hback b hlt⟩
def a9W:Frm->Frm
 | []=>[]
 | (t,p)::r=>(t,bif dR p&&dV p then p else .junk)::a9W r
theorem aOP t:∀ F ,bM (a9W F) t=bif dR (bM F t)&&dV (bM F t) then bM F t else .junk
 | []=>rfl
 | (u,p)::F=>by
  rw[a9W,bT,bT]
  by_cases h:t=u
  ·grind
  ·rw[if_neg h,if_neg h]; exact aOP t F
theorem aOK:∀ {l p},dR.noRefs l=true->p∈l->dR p=true
 | [],_,_,h=>W
 | q::l,p,h,hp=>by
  simp only[dR.noRefs,oA]at h;rcases List.mem_cons.1 hp with rfl|hp
  ·grind
  ·exact aOK h.2 hp
theorem aPA:∀ {l p},dV.noRows l=true->p∈l->dV p=true
 | [],_,_,h=>W
 | q::l,p,h,hp=>by
  simp only[dV.noRows,oA]at h;rcases List.mem_cons.1 hp with rfl|hp
  ·grind
  ·exact aPA h.2 hp
theorem bCE {P:Program} {ops:Array Oper} (hmask:RX (kW ops) 0 ops.toList=true) {Q:Exit->Act->World->Prop} {J:Array Bool->Act->World->Prop} (hend:∀ listed a w,(∀ i,i<ops.size->listed.getD i false=true)->J listed a w->Q .normal a w)
  (hstep:∀ (listed listed':Array Bool) (a:Act) (w:World) (i:Nat) (o:Oper),ops[i]?=some o->listed.size=ops.size->listed.getD i false=false->V0 (kW ops) (λi=>listed.getD i false)->(∀ b,((kW ops).getD i 0).testBit b=true->listed.getD b false=true) ->
   listed'.getD i false=true->(∀ j,j≠i->listed'.getD j false=listed.getD j false)->J listed a w->∀ K:Act->World->Prop,(∀ a' w',J listed' a' w'->K a' w')->wpOp P ops Q i K a w) {a:Act} {w:World} (hJ:J (Array.replicate ops.size false) a w) :
  wpAny P .any ops Q ops.size (Array.replicate ops.size false) a w:=by
 have hm:∀ i o,ops[i]?=some o->(kW ops).getD i 0=aGR (kW ops) o.after.toList/\∀ e∈o.after,Region.binds .any e=true->e.on<i:=λi o ho=>by
  have:=aI5 hmask (i:=i) (o:=o) (by simpa using ho);grind
 have hnone:∀ listed:Array Bool,listed.size=ops.size->Region.ready .any ops listed=[]->∀ i,i<ops.size->listed.getD i false=true:=by
  intro listed hsz hr i
  induction i using Nat.strongRecOn with
  | _ i ih =>
   intro hi;cases hli:listed.getD i false with
   | true=>rfl
   | false =>
    obtain⟨o,ho⟩:∃ o,ops[i]?=some o:=⟨ops[i],Array.getElem?_eq_getElem hi⟩;have:i∈Region.ready .any ops listed:=mem_ready.2 ⟨by
     have hlt:i<listed.size:=Z
     simpa[Array.getD,hlt]using hli,o,ho,λe he hb=>ih e.on ((hm i o ho).2 e he hb) (by have:=(hm i o ho).2 e he hb; omega)⟩
    grind
 have hfalse:∀ j,(Array.replicate ops.size false).getD j false=false:=λj=>by
  simp only[Array.getD]
  simp_all
 suffices key:∀ (fuel:Nat) (listed:Array Bool) (a:Act) (w:World),(List.range ops.size).countP (λi=>!listed.getD i false)=fuel->listed.size=ops.size->V0 (kW ops) (λi=>listed.getD i false)->J listed a w->wpAny P .any ops Q fuel listed a w by
  refine key ops.size _ _ _ ?_ R ?_ hJ
  ·simp_all
  ·intro j hj;grind
 intro fuel
 induction fuel with
 | zero =>
  intro listed a w hc hsz hcs hI;have hall:∀ i,i<ops.size->listed.getD i false=true:=λi hi=>by
   rw[List.countP_eq_zero]at hc;have:=hc i (List.mem_range.2 hi);simpa using this
  refine⟨?_,hend listed a w hall hI⟩;cases hr:Region.ready .any ops listed with
  | nil=>rfl
  | cons i r =>
   have:i∈Region.ready .any ops listed:=by rw[hr]; exact List.mem_cons_self
   obtain⟨h1,o,ho,_⟩:=mem_ready.1 this;have hi:i<ops.size:=(Array.getElem?_eq_some_iff.1 ho).1;have h2:=hall i hi;have hlt:i<listed.size:=Z
   simp only[Array.getD,hlt,dif_pos]at h1 h2;rw[h1]at h2; cases h2
 | succ fuel ih =>
  intro listed a w hc hsz hcs hI;refine⟨λhr=>hend listed a w (hnone listed hsz hr) hI,λi hi=>?_⟩;obtain⟨h1,o,ho,hdeps⟩:=mem_ready.1 hi;have hlt:i<ops.size:=(Array.getElem?_eq_some_iff.1 ho).1;have hlt':i<listed.size:=Z
  have hun:listed.getD i false=false:=by
   simp only[Array.getD,hlt',dif_pos]at h1 ⊢;exact h1
  have hahead:∀ b,((kW ops).getD i 0).testBit b=true->listed.getD b false=true:=λb hb=>by
   rw[(hm i o ho).1]at hb;rcases QQ _ _ hb with h0|⟨e,he,hbd,h2⟩
   ·simp at h0
   ·have he':=hdeps e (Array.mem_toList_iff.1 he) hbd;rcases h2 with rfl|h2
    ·exact he'
    ·exact hcs e.on he' b h2
  have hS':∀ j,j≠i->(listed.setIfInBounds i true).getD j false=listed.getD j false:=λj hj=>getD_set_ne false (λe=>hj e.symm)
  have hSi:(listed.setIfInBounds i true).getD i false=true:=by simp[Array.getD,hlt']
  refine hstep listed _ a w i o ho hsz hun hcs hahead hSi hS' hI _ λa' w' h=>ih _ a' w' ?_ (by simpa using hsz) ?_ h
  ·have:=aJK (p:=λi=>!listed.getD i false) (p':=λj=>!(listed.setIfInBounds i true).getD j false) (i:=i) (by simp only[hun,Bool.not_false]) (by simp only[hSi,Bool.not_true]) (λj hj=>by simp only[hS' j hj]) ops.size hlt;omega
  ·intro j hj b hb
   by_cases hji:j=i
   ·subst hji
    by_cases hbj:b=j
    ·subst hbj; exact hSi
    ·show (listed.setIfInBounds j true).getD b false=true;rw[hS' b hbj]; exact hahead b hb
   ·have hj':listed.getD j false=true:=by rw[<- hS' j hji]; exact hj
    by_cases hbi:b=i
    ·subst hbi; exact hSi
    ·show (listed.setIfInBounds i true).getD b false=true;rw[hS' b hbi]; exact hcs j hj' b hb
theorem bFD(T:Trace P cl nt ops F H F' H') (hcl:dA P cl) (hst:RE ops=true) {S S':Nat->Bool} (hcs:V0 (kW ops) S) {i:Nat} {o:Oper} (ho:ops[i]?=some o) (hun:S i=false)
  (hahead:∀ b,((kW ops).getD i 0).testBit b=true->S b=true) (hSi:S' i=true) (hS':∀ j,j≠i->S' j=S j) {F1:Frm} (hF1:∀ t,bM F1 t=uM T S t ops.size) :
  ∃ c1 F2,stepT (N4 T.md o i) P cl ops.toList o F1 (fK T S ops.size)=some (T.vs i,fK T S' ops.size,c1)/\VA nt F1 o.dst (T.vs i)=some F2/\∀ t,bM F2 t=uM T S' t ops.size:=by
 simp only[RE,oA]at hst;obtain⟨hmask,hpairs⟩:=hst;have hlt:i<ops.size:=(Array.getElem?_eq_some_iff.1 ho).1;have hap:∀ i j oi oj,ops[i]?=some oi->ops[j]?=some oj->i<j->((kW ops).getD j 0).testBit i=true\/oi.apart ops oj=true:=λi j oi oj hi hj hij=>by
  have:=aJ3 hpairs (j:=j) (oj:=oj) (by simpa using hj);rw[Nat.zero_add]at this;have:=aNM this (i:=i) (oi:=oi) (by simpa using hi) Z;grind
 have hbehind:∀ j,((kW ops).getD j 0).testBit i=true->S j=false:=λj hj=>by
  cases hlj:S j with
  | false=>rfl
  | true =>
   have h5:S i=true:=hcs j hlj i hj;grind
 have hwr:∀ t,(t∈o.looksAt ops\/o.dst=some t)->(∀ j,j<i->TR ops j=some t->S j=true)/\(∀ j,i<j->j<ops.size->TR ops j=some t->S j=false):=by
  intro t ht;refine⟨λj hj hd=>?_,λj hj hjs hd=>?_⟩
  ·cases hoj:ops[j]? with
   | none=>simp[TR,hoj]at hd
   | some oj =>
    simp only[TR,hoj,Option.bind_some]at hd;rcases hap j i oj o hoj ho hj with h3|h3
    ·grind
    ·obtain⟨a1,a2,a3⟩:=Oper.apart_spec h3;grind
  ·cases hoj:ops[j]? with
   | none=>simp[TR,hoj]at hd
   | some oj =>
    simp only[TR,hoj,Option.bind_some]at hd;rcases hap i j o oj ho hoj hj with h3|h3
    ·grind
    ·obtain⟨a1,a2,a3⟩:=Oper.apart_spec h3;grind
 have hslot:∀ t∈o.looksAt ops,uM T S t ops.size=bM (T.Fs i) t:=λt ht=>by
  obtain⟨w1,w2⟩:=hwr t (.inl ht);rw[UX T (k:=i) Z λj hj hjs hd=>by
   rcases oG i j with hl|hl
   ·grind
   ·have:j=i:=Z
    subst this; exact hun]
  rw[Q0 T (S':=λ_=>true) λj hj hd=>w1 j hj hd,aFO T t i Z]
 obtain⟨hstep,hput,-⟩:=T.step i o ho;have hord:∀ j,j<ops.size->1<T.cs j->T.cs i≠0->U0 (T.bs j) (T.bs i)=false->S j=decide (j<i):=λj hjs hx hc0 hap'=>by
  rcases Nat.lt_trichotomy j i with hl|hl|hl
  ·rw[oT hl];rcases T.hits j i hl hlt Z hc0 (.inl hx)with h3|h3
   ·have:U0 (T.bs j) (T.bs i)=true:=by
     revert h3
     cases T.bs j <;> cases T.bs i <;> simp only[U0,Bool.not_eq_true',imp_self,Bool.false_eq_true,false_implies]
     rename_i x y;intro h3;cases hxy:Nat.beq x y with
     | false=>rfl
     | true=>rw[oE hxy,Nat.beq_refl]at h3; cases h3
    rw[this]at hap'; cases hap'
   ·exact hahead j h3
  ·subst hl; rw[oF Z]; exact hun
  ·rw[oF Z];rcases T.hits i j hl hjs hc0 Z (.inr hx)with h3|h3
   ·rw[h3]at hap'; cases hap'
   ·exact hbehind j h3
 have hheap:T.cs i≠0->T.bs i=none->fK T S ops.size=T.Hs i:=λhc0 hb0=>by
  have ho':∀ j,j<ops.size->1<T.cs j->S j=decide (j<i):=λj hjs hx=>hord j hjs hx hc0 (by rw[hb0]; cases T.bs j <;> rfl)
  rw[UN T (k:=i) Z λj hj hjs hx=>by rw[ho' j hjs hx,oF Z]];rw[FD T (S':=λ_=>true) λj hj hx=>by rw[ho' j Z hx,oT hj],X3 T hcl i Z]
 have hheapq:∀ q,T.cs i≠0->T.bs i=some q->(fK T S ops.size)[q]?=(T.Hs i)[q]?:=λq hc0 hb0=>by
  have ho':∀ j,j<ops.size->1<T.cs j->T.bs j=none\/T.bs j=some q->S j=decide (j<i):=λj hjs hx hbj=>hord j hjs hx hc0 (by
   rw[hb0];rcases hbj with h|h <;> rw[h]
   ·rfl
   ·simp[U0])
  have h1:=(aQG T (q:=q) (S:=S) (S':=λj=>decide (j<i)) (n:=ops.size) ho').2;rw[h1,UN T (k:=i) Z λj hj hjs hx=>oF Z];rw[FD T (S':=λ_=>true) λj hj hx=>oT hj,X3 T hcl i Z]
 have hnewheap:fK T S' ops.size=if 1<T.cs i then XC T i (fK T S ops.size) else fK T S ops.size:=by
  by_cases hx:1<T.cs i
  ·rw[if_pos hx];refine aKI T hx hun hSi hS' (λj hj hjs hxj hlj=>?_) ops.size hlt (oM _);cases hap':U0 (T.bs j) (T.bs i)with
   | true=>rfl
   | false =>
    have:=hord j hjs hxj Z hap';rw[oF Z]at this;exact absurd hlj (by rw[this]; decide)
  ·rw[if_neg hx];refine FD T λj hj hxj=>?_
   exact hS' j (λe=>hx (e ▸ hxj))
 have hcg:∀ H2,stepT (N4 T.md o i) P cl ops.toList o F1 H2=stepT (N4 T.md o i) P cl ops.toList o (T.Fs i) H2:=λH2=>by
  have h0:∀ H2,xV P cl ops.toList o F1 H2=xV P cl ops.toList o (T.Fs i) H2:=λH2=>aGU λt ht=>by rw[hF1,hslot t ht]
  cases N4 T.md o i with
  | none=>exact h0 H2
  | some q =>
   have h5:∀ x∈o.op.operands,ev F1 x=ev (T.Fs i) x:=λx hx=>by
    cases x with
    | tmp t =>
     have h7:t∈o.looksAt ops:=List.mem_append_left _ (List.mem_filterMap.2 ⟨.tmp t,by simpa using hx,rfl⟩);show bM F1 t=bM (T.Fs i) t;rw[hF1,hslot t h7]
    | _=>rfl
   have h6:o.op.operands.toList.map (ev F1)=o.op.operands.toList.map (ev (T.Fs i)):=List.map_congr_left λx hx=>h5 x (by simpa using hx)
   simp only[stepT,h0,h6]
 have hop:∃ c1,stepT (N4 T.md o i) P cl ops.toList o F1 (fK T S ops.size)=some (T.vs i,fK T S' ops.size,c1):=by
  rw[hcg,hnewheap]
  by_cases hc0:T.cs i=0
  ·rw[hc0]at hstep ⊢;refine⟨0,(((aIA hcl hstep).2 rfl _).trans ?_)⟩;simp
  ·cases hb0:T.bs i with
   | none =>
    rw[hheap hc0 hb0];refine⟨T.cs i,hstep.trans ?_⟩
    by_cases hx:1<T.cs i
    ·rw[if_pos hx]; simp only[XC,hb0]
    ·rw[if_neg hx,(aIA hcl hstep).1 Z]
   | some q =>
    obtain⟨H3,c,h3,h4⟩:=T.loc i o q ho hb0 hc0 _ (hheapq q hc0 hb0);refine⟨c,h3.trans ?_⟩;rw[h4]; simp only[XC,hb0]
 obtain⟨c1,hop⟩:=hop;have hputF1:∃ F2,VA nt F1 o.dst (T.vs i)=some F2:=by
  cases hd:o.dst with
  | none=>exact⟨F1,rfl⟩
  | some d =>
   rw[hd]at hput;simp only[VA]at hput ⊢;cases hb:Nat.blt d nt with
   | true=>exact⟨_,rfl⟩
   | false=>rw[hb]at hput; cases hput
 obtain⟨F2,hF2⟩:=hputF1;refine⟨c1,F2,hop,hF2,λt=>?_⟩;rw[aXZ hF2 t]
 by_cases hd:o.dst=some t
 ·rw[if_pos hd];symm;rw[UX T (k:=i+1) Z λj hj hjs hdj=>by
   rw[hS' j Z];exact(hwr t (.inr hd)).2 j Z hjs hdj]
  rw[uM,if_pos ⟨hSi,by simp[TR,ho,hd]⟩]
 ·rw[if_neg hd,hF1];symm;refine Q0 T λj hj hdj=>hS' j ?_
  rintro rfl;simp only[TR,ho,Option.bind_some]at hdj;exact hd hdj
theorem a6A(hcl:dA P cl)(hst:RE ops=true)(hE:aSJ T n0 wi Gi μi){Q}(hQ:∀ a' w',I n0 wi Gi μi nt F' H' a' w'->Q .normal a' w'){a w}(hI:I n0 wi Gi μi nt F H a w) :
  wpAny P .any ops Q ops.size (Array.replicate ops.size false) a w:=by
 have hst2:=hst;simp only[RE,oA]at hst2;refine bCE hst2.1 (J:=λlisted a w=>∀ F1,(∀ t,bM F1 t=uM T (λi=>listed.getD i false) t ops.size)->I n0 wi Gi μi nt F1 (fK T (λi=>listed.getD i false) ops.size) a w) ?_ ?_ ?_
 ·intro listed a w hall hI;have h1:∀ t,bM F' t=uM T (λi=>listed.getD i false) t ops.size:=λt=>by rw[Q0 T (S':=λ_=>true) λj hj _=>hall j hj,aFO T t _ (oM _),T.fn]
  have h2:=hI F' h1;rw[FD T (S':=λ_=>true) λj hj _=>hall j hj,X3 T hcl _ (oM _),T.hn]at h2;grind
 ·intro listed listed' a w i o ho hsz hun hcs hahead hSi hS' hI K hK;obtain⟨F1,hF1⟩:=aVQ T (λi=>listed.getD i false) ops.size;have hI1:=hI F1 hF1;obtain⟨c1,F2,hop,hF2,hF3⟩:=bFD T hcl hst hcs ho hun hahead hSi hS' hF1;generalize hH1:fK T (λk=>listed'.getD k false) ops.size=H1 at hop;have hnext:∀ (a':Act) (w':World),(∃ F2,VA nt F1 o.dst (T.vs i)=some F2/\I n0 wi Gi μi nt F2 H1 a' w')->K a' w':=by
   rintro a' w' ⟨F4,hF4,hI2⟩;obtain rfl:F2=F4:=oB (hF2.symm.trans hF4);refine hK a' w' λF5 hF5=>?_
   rw[hH1];exact hI2.congr λt=>by rw[hF5,hF3]
  cases hr:N4 T.md o i with
  | some q =>
   obtain⟨G,μ,e,hW,hF,hnone,hlnone⟩:=hE (λi=>listed.getD i false) F1 w a hcs hF1 hI1 i o q ho hun hr;obtain⟨b,_,_,ha⟩:=aIV hr;obtain⟨hg,⟨d,hd⟩,hkind⟩:=aUJ ha;rw[hr]at hop;rcases hkind with ⟨t,hop'⟩|⟨cc,hop'⟩
   case inr =>
    simp only[stepT,hop']at hop;obtain⟨hnr,hop⟩:=aJ hop;split at hop
    ·rename_i v1 X c2 hs;have hcut:xV P cl ops.toList o (a9W F1) []=some (v1,X,c2):=by
      rw[<- hs];refine aGU λt ht=>?_
      rw[aOP];have h7:Operand.tmp t∈o.op.operands:=by
       unfold Oper.looksAt at ht;rw[hg]at ht;simp only[Option.toList,List.append_nil,List.mem_filterMap]at ht;obtain⟨x,h8,h9⟩:=ht;cases x with
       | tmp u=>simp only[oJ]at h9; subst h9; simpa using h8
       | _=>cases h9
      rw[oA]at hnr;have h8:dR (bM F1 t)=true:=aOK hnr.1 (List.mem_map.2 ⟨.tmp t,by rw[<- hop']; simpa using h7,rfl⟩);have h9:dV (bM F1 t)=true:=aPA hnr.2 (List.mem_map.2 ⟨.tmp t,by rw[<- hop']; simpa using h7,rfl⟩);rw[h8,h9]; rfl
     have hW0:aO (uF w) G.bare aG [] w:=⟨λr k b h=>by simp at h,λr k g h=>by simp at h,λr s k l b h=>by simp at h,hW.lt,λ_ _=>⟨rfl,rfl⟩,λ_ h=>h,rQ.none _ _ (λ_=>rfl) _ _ (λr k h=>by simp at h)⟩;have hF0:cZ w G.bare aG nt (a9W F1) a:=⟨hF.size,λt=>by
      rw[aOP];cases hn:(dR (bM F1 t)&&dV (bM F1 t))with
      | true =>
       rw[oA]at hn;exact EX (G:=G) (G':=G.bare) (λb h=>h) _ _ _ hn.2 (nC _ _ hn.1 (hF.slot t))
      | false=>rw[oD,VR]; trivial,hF.defers⟩
     unfold wpOp;rw[ho];simp only;rcases XP hcl hcut hW0 hF0 with ⟨k1,k2⟩|⟨k1,k2,k3⟩
     ·rw[if_pos k1];refine .inl (k2 _ _ λv' w' G' μ' e' hW' hv'=>?_);rcases R3 hop with ⟨sz,k,rfl,rfl,hv,hH,_,hq,hqn,htag⟩|⟨rfl,hn1,hv,hH,_⟩
      case inr =>
       obtain⟨m1,m2⟩:=bBB hW e' hW'.lt;rw[oA]at hn1;exact hnext _ _ ⟨F2,hF2,_,μ,e.trans m1,by rw[hH]; exact m2,(hF.mono m1.toMono).aX2 hF2 (by rw[hv]; exact(EX (G:=G') (G':=G'.with G) (λb h=>h) _ _ _ hn1.2 (nC _ _ hn1.1 hv')).aV)⟩
      obtain⟨μ2,m1,m2,m3⟩:=bBZ hW hq hnone (hlnone hqn) e' hW' hv' htag;exact hnext _ _ ⟨F2,hF2,_,μ2,e.trans m1,by rw[hH]; exact m2,(hF.mono m1.toMono).aX2 hF2 (by rw[hv]; exact m3)⟩
     ·rw[k1,if_neg O];subst k3;rcases R3 hop with ⟨_,_,_,h9,_⟩|⟨_,_,hv,hH,_⟩
      ·cases h9
      ·exact hnext _ _ ⟨F2,hF2,G,μ,e,by rw[hH]; exact hW,hF.aX2 hF2 (by rw[hv,k2,VR])⟩
    ·cases hop
   simp only[stepT,hop']at hop;cases hz:DP P t with
   | none=>rw[hz]at hop; cases hop
   | some z =>
    rw[hz]at hop;simp only at hop;obtain⟨hq,hop⟩:=aJ hop;simp only[oJ,oP]at hop;obtain⟨hv,hH,-⟩:=hop;obtain⟨e1,e2⟩:=a6G hW (fX hq) hnone z.cells t;unfold wpOp;rw[ho];simp only;rw[if_pos (yI hF (b:=true) (by simp only[guardOf,hg]))];refine .inl ?_;have hok:KL P n0 w G μ o a (T.vs i) H1:=by
     refine .value (s:=Instr.alloc t true (.tuple #[])) (by simp only[execOp,hop']) ?_;refine⟨.pointer (some ⟨w.heap.size,0,none⟩),w.alloc (.cells z.cells t),G,_,?_,e1,by rw[<- hH]; exact e2,?_⟩
     ·have hzv:(zeroValue t).run P w=.ok z w:=by
       unfold DP at hz;split at hz
       next i hi=>simp[zeroValue,CM hi,hz]
       ·cases hz
      simp only[Instr.alloc,Sem.run_bind,hzv,Result.andThen_ok,newVar];simp[newRow]
     ·rw[<- hv,VR];exact⟨w.heap.size,by show (if q=q then _ else _)=_; rw[if_pos rfl],by simp⟩
    exact hok _ _ λv' w' G' μ' e' hW' hv=>hnext _ _ ⟨F2,hF2,G',μ',e.trans e',hW',(hF.mono e'.toMono).aX2 hF2 hv⟩
  | none =>
  rw[hr]at hop;replace hop:xV P cl ops.toList o F1 (fK T (λi=>listed.getD i false) ops.size)=some (T.vs i,H1,c1):=hop;obtain⟨G,μ,e,hW,hF⟩:=hI1;unfold wpOp;rw[ho];simp only;rcases XP hcl hop hW hF with ⟨k1,k2⟩|⟨k1,k2,k3⟩
  ·rw[if_pos k1];exact .inl (k2 _ _ λv' w' G' μ' e' hW' hv=>hnext _ _ ⟨F2,hF2,G',μ',e.trans e',hW',(hF.mono e'.toMono).aX2 hF2 hv⟩)
  ·rw[k1,if_neg O];exact hnext _ _ ⟨F2,hF2,G,μ,e,by rw[k3]; exact hW,hF.aX2 hF2 (by rw[k2,VR])⟩
 ·intro F1 hF1;have hfalse:∀ j,(Array.replicate ops.size false).getD j false=false:=λj=>by
   simp only[Array.getD];split <;> simp
  rw[UN T (k:=0) (Nat.zero_le _) λj _ _ _=>hfalse j];exact hI.congr λt=>by rw[hF1,UX T (k:=0) (Nat.zero_le _) λj _ _ _=>hfalse j]; rfl
theorem a0F {G μ H w}(hW:aO n0 G μ H w) n:aO n0 G μ (H++List.replicate n none) w:=by
 have key:∀ (r:Nat) k,(H++List.replicate n none)[r]?=some (some k)->H[r]?=some (some k):=W
 exact⟨λr k b h=>hW.blk r k b (key r k h),λr k g h=>hW.tags r k g (key r k h),λr s k l b h1 h2=>hW.inj r s k l b (key r k h1) (key s l h2),hW.lt,λr hr=>hW.top r W,hW.base,hW.rows.bDE id (λ_ _ h=>h) (λr k h=>⟨key r k h,rfl⟩)⟩
theorem aBF {b n}:∀ {H:Heap},UM b H=true->UM b (H++List.replicate n none)=true
 | [],_=>by
  induction n with
  | zero=>rfl
  | succ n ih=>exact ih
 | none::H,h=>aBF (H:=H) h
 | some k::H,h=>by
  simp only[UM,oA,List.cons_append]at h ⊢;exact⟨h.1,aBF h.2⟩
theorem a4B {H0} (T:Trace P cl nt ops F H0 F' H') (hcl:dA P cl) (hst:RE ops=true) (hE:aSJ T n0 wi Gi μi) {a w Q} (hI:I n0 wi Gi μi nt F H0 a w)
  (hQ:∀ a' w',I n0 wi Gi μi nt F' H' a' w'->Q .normal a' w'):wpAny P .any ops Q ops.size (Array.replicate ops.size false) a { w with drawn:=w.drawn+1 }:=by
 obtain⟨G,μ,e,hW,hF⟩:=hI;exact a6A T hcl hst hE hQ ⟨G,μ,e.trans (aHN (Nat.le_add_right _ _)),WJ hW _,hF.mono (aCN _)⟩
theorem aAW(hcl:dA P cl) {a w Q} (h:UR P cl nt ops F H=some (F',H')) (hI:I n0 wi Gi μi nt F H a w)
  (hQ:∀ a' w',I n0 wi Gi μi nt F' H' a' w'->Q .normal a' w'):wpAny P .any ops Q ops.size (Array.replicate ops.size false) a { w with drawn:=w.drawn+1 }:=by
 obtain⟨hst,h⟩:=aJ h;rw[oA]at hst;split at h
 next F2 H2 hl hs=>
  obtain⟨hh,h⟩:=aJ h;obtain⟨rfl,rfl⟩:=h;obtain⟨T,hT⟩:=a8A hcl hs hh;have hI0:=hI;obtain⟨G,μ,e,hW,hF⟩:=hI;refine a4B T hcl hst.1 ?_ ?_ hQ
  ·refine a98 T λb hb=>?_
   rw[hT]at hb;have h2:=hst.2;rw[hb]at h2 ⊢;simp only[aU9,oA]at h2;refine⟨h2.1,aBF h2.2,λr hr=>?_⟩;obtain⟨_,hb⟩:=aJ hb;simp only[oJ]at hb;subst hb;refine⟨?_,?_⟩
   ·cases hx:μi.loc r with
    | none=>rfl
    | some x =>
     have:=e.map r x hx;rw[(hW.top r hr).1]at this;grind
   ·cases hx:μi.len r with
    | none=>rfl
    | some x =>
     have:=e.len r x hx;rw[(hW.top r hr).2]at this;grind
  ·cases aE4 ops H with
   | none=>exact hI0
   | some b=>exact⟨G,μ,e,a0F hW _,hF⟩
 ·cases h
theorem aEC(hcl:dA P cl) (hP:P.follows .mixedOrders=true) {id a w Q} (h:UR P cl nt ops F H=some (F',H')) (hI:I n0 wi Gi μi nt F H a w)
  (hQ:∀ a' w',I n0 wi Gi μi nt F' H' a' w'->Q .normal a' w'):(Code.region id ops true).wp P Q a w:=wp_region_any hP (aAW hcl h hI hQ)
end
end
inductive Ex where
 | normal
 | exit (id:Nat)
 | ret
def Ex.to:Ex->Exit
 | .normal=>.normal
 | .exit id=>.exit id
 | .ret=>.ret
structure Cfg where
 nt:Nat
 keep:Nat
 l8:List Nat
 loops:List (Nat×bAO)
 floor:Nat
def settle {α:Type} (m:Nat):Nat->Frm->(Frm->α)->α
 | 0,F,k=>k F
 | _+1,[],k=>k []
 | n+1,(t,p)::r,k=>bif T6 m t then settle m n r (λr=>k ((t,p)::r)) else settle m n r k
def cA:Code->Nat
 | .region id _ _=>id
 | .seq a _=>cA a
 | .block _ a=>cA a
 | .loop a=>cA a
 | .scope a=>cA a
 | .cond _ a _=>cA a
 | _=>0
def aWQ:List (Nat×bAO)->Nat->Option bAO
 | [],_=>none
 | (i,m)::r,id=>bif Nat.beq i id then some m else aWQ r id
def aC0 {α}(F:Frm):List Nat->(Frm->α)->α
 | [],k=>k []
 | t::r,k=>fPV (bM F t) λp=>aC0 F r λr=>k ((t,p)::r)
def a8P(cfg:Cfg)(id:Nat)(F:Frm)(H:Heap)(k:Frm->Heap->Option (Ex×Frm×Heap)):Option (Ex×Frm×Heap) :=
 match aWQ cfg.loops id with
 | none=>aC0 F cfg.l8 λF=>k F H
 | some pl=>bif Nat.ble cfg.floor pl.base then match tidy pl F H with
  | some (F',H')=>k F' H'
  | none=>none
  else none
abbrev Out:=Option (Ex×Frm×Heap)
def iter(f:Frm->Heap->Out):Nat->Frm->Heap->Out
 | 0,_,_=>none
 | n+1,F,H=>match f F H with
  | some (.normal,F',H')=>iter f n F' H'
  | r=>r
def exec(P:Program)(cl:Callee)(cfg:Cfg)(L:Nat):Code->Frm->Heap->Out
 | .skip,F,H=>some (.normal,F,H)
 | .label _,F,H=>some (.normal,F,H)
 | .region _ ops draw,F,H=>match (bif draw then UR P cl cfg.nt ops F H else PL P cl cfg.nt ops.toList ops.toList F H)with
  | some (F',H')=>settle cfg.keep (aLC ops.toList) F' λF'=>some (.normal,F',H')
  | none=>none
 | .seq a b,F,H=>match exec P cl cfg L a F H with
  | some (.normal,F',H')=>exec P cl cfg L b F' H'
  | r=>r
 | .cond c a b,F,H=>match ev F c with
  | .lit (.bool t)=>bif t then exec P cl cfg L a F H else exec P cl cfg L b F H
  | _=>none
 | .block id a,F,H=>match exec P cl cfg L a F H with
  | some (.exit i,F',H')=>bif Nat.beq i id then some (.normal,F',H') else some (.exit i,F',H')
  | r=>r
 | .loop a,F,H=>iter (λF H=>a8P cfg (cA a) F H λF H=>exec P cl cfg L a F H) L F H
 | .exit id,F,H=>some (.exit id,F,H)
 | .scope a,F,H=>exec P cl cfg L a F H
 | .ret,F,H=>some (.ret,F,H)
 | _,_,_=>none
section
variable {P:Program} {cl:Callee} {cfg:Cfg} {L:Nat} {n0:Nat->Prop} {wi:World} {Gi:Gd} {μi:Mp}
def Off(m:Nat) (F:Frm):Prop:=∀ t,T6 m t=false->bM F t=.junk
theorem aE1 {α} m F:∀ news (k:Frm->α),∃ F',settle m news.length (news++F) k=k F'/\(Off m F->∀ t,bM F' t=if T6 m t then bM (news++F) t else .junk)
 | [],k=>⟨F,rfl,λh t=>by
  cases hb:T6 m t with
  | true=>rfl
  | false=>simpa using h t hb⟩
 | (s,p)::news,k=>by
  simp only[List.length_cons,List.cons_append,settle];cases hs:T6 m s with
  | true =>
   obtain⟨F',h1,h2⟩:=aE1 m F news λr=>k ((s,p)::r)
   refine⟨(s,p)::F',h1,λh t=>?_⟩;rw[bT,bT,h2 h t];grind
  | false =>
   obtain⟨F',h1,h2⟩:=aE1 m F news k;refine⟨F',h1,λh t=>?_⟩;rw[bT,h2 h t];grind
theorem aD1 {α} F:∀ l (k:Frm->α),∃ F',aC0 F l k=k F'/\∀ t,bM F' t=bM F t\/bM F' t=.junk
 | [],k=>⟨[],rfl,λt=>.inr rfl⟩
 | s::l,k=>by
  simp only[aC0,VH];obtain⟨F',h1,h2⟩:=aD1 F l λr=>k ((s,bM F s)::r)
  refine⟨(s,bM F s)::F',h1,λt=>?_⟩;rw[bT];grind
theorem I.a4S {nt F F' H a w}(h:I n0 wi Gi μi nt F H a w)(hF:∀ t,bM F' t=bM F t\/bM F' t=.junk):I n0 wi Gi μi nt F' H a w:=by
 obtain⟨G,μ,e,hW,hI⟩:=h;refine⟨G,μ,e,hW,hI.size,λt=>?_,hI.defers⟩;rcases hF t with h1|h1
 ·rw[h1]; exact hI.slot t
 ·rw[h1,VR]; simp
def bFM(P:Program) (n0:Nat->Prop) (wi:World) (Gi:Gd) (μi:Mp) (nt:Nat) (c:Code) (a:Act) (w:World) (r:Ex×Frm×Heap):Prop :=
 c.wp P (λe a' w'=>e=r.1.to/\I n0 wi Gi μi nt r.2.1 r.2.2 a' w') a w
def a7C(P:Program) (n0:Nat->Prop) (wi:World) (Gi:Gd) (μi:Mp) (cfg:Cfg) (c:Code) (a:Act) (w:World) (r:Ex×Frm×Heap):Prop :=
 bFM P n0 wi Gi μi cfg.nt c a w r/\Off cfg.keep r.2.1
theorem aZW {c}{f:Frm->Heap->Out}(hf:∀ F H a w r,f F H=some r->I n0 wi Gi μi cfg.nt F H a w->Off cfg.keep F->a7C P n0 wi Gi μi cfg c a w r):∀ {n F H a w r},
  iter f n F H=some r->I n0 wi Gi μi cfg.nt F H a w->Off cfg.keep F->a7C P n0 wi Gi μi cfg (.loop c) a w r:=by
 intro n F H a w r h hI hO;constructor
 ·refine wp_loop_ghost (λk a w=>∃ F H,iter f k F H=some r/\I n0 wi Gi μi cfg.nt F H a w/\Off cfg.keep F) n ⟨F,H,h,hI,hO⟩ ?_;rintro k a w ⟨F,H,h,hI,hO⟩;cases k with
  | zero=>cases h
  | succ k =>
   simp only[iter]at h;split at h
   next F' H' hs=>obtain⟨h1,h2⟩:=hf F H a w _ hs hI hO;refine wp_mono h1 ?_;rintro e a' w' ⟨rfl,hI'⟩;exact⟨k,by omega,F',H',h,hI',h2⟩
   ·rename_i hno;obtain⟨ex,F',H'⟩:=r;refine wp_mono (hf F H a w _ h hI hO).1 ?_;rintro e a' w' ⟨rfl,hI'⟩;cases ex with
    | normal=>exact absurd h (hno F' H')
    | exit id=>exact⟨rfl,hI'⟩
    | ret=>exact⟨rfl,hI'⟩
 ·induction n generalizing F H a w with
  | zero=>cases h
  | succ n ih =>
   simp only[iter]at h;split at h
   next F' H' hs=>obtain⟨h1,h2⟩:=hf F H a w _ hs hI hO;obtain⟨e,a',w',⟨_,hI'⟩,_⟩:=h1 default [] [];grind
   ·exact(hf F H a w _ h hI hO).2
theorem tU(hcl:dA P cl)(hP:P.follows .mixedOrders=true)(hfl:∀ r,cfg.floor<=r->μi.loc r=none/\μi.len r=none):∀ c F H a w r,exec P cl cfg L c F H=some r->I n0 wi Gi μi cfg.nt F H a w->Off cfg.keep F->a7C P n0 wi Gi μi cfg c a w r
 | .skip,F,H,a,w,r,h,hI,hO=>by
  simp only[exec,oJ]at h;subst h;exact⟨wp_skip ⟨rfl,hI⟩,hO⟩
 | .label l,F,H,a,w,r,h,hI,hO=>by
  simp only[exec,oJ]at h;subst h;exact⟨wp_label ⟨rfl,hI⟩,hO⟩
 | .region id ops draw,F,H,a,w,r,h,hI,hO=>by
  simp only[exec]at h;split at h
  next F' H' hr=>
   obtain⟨news,e1,l1⟩:∃ news:Frm,F'=news++F/\news.length=aLC ops.toList:=by
    cases draw with
    | true=>exact aTU hr
    | false=>exact aJW hr
   obtain⟨F2,h2,h3⟩:=aE1 (α:=Out) cfg.keep F news λF'=>some (.normal,F',H')
   rw[<- l1,e1,h2]at h;simp only[oJ]at h;subst h;have h3:=h3 hO;refine⟨?_,λt ht=>by rw[h3 t,ht]; rfl⟩;have hw:∀ t,bM F2 t=bM F' t\/bM F2 t=.junk:=λt=>W
   cases draw with
   | true=>exact aEC hcl hP hr hI λa' w' h'=>⟨rfl,h'.a4S hw⟩
   | false=>exact wp_region_list (CA hcl ops.toList F H a w hr hI λa' w' h'=>⟨rfl,h'.a4S hw⟩)
  ·cases h
 | .seq x y,F,H,a,w,r,h,hI,hO=>by
  simp only[exec]at h;split at h
  next F' H' hx=>
   obtain⟨h1,h2⟩:=tU hcl hP hfl x F H a w _ hx hI hO;refine⟨wp_seq (wp_mono h1 ?_),?_⟩
   ·rintro e a' w' ⟨rfl,hI'⟩;exact(tU hcl hP hfl y F' H' a' w' r h hI' h2).1
   ·obtain⟨e,a',w',⟨_,hI'⟩,_⟩:=h1 default [] [];exact(tU hcl hP hfl y F' H' a' w' r h hI' h2).2
  next hno=>
   obtain⟨ex,F',H'⟩:=r;obtain⟨h1,h2⟩:=tU hcl hP hfl x F H a w _ h hI hO;refine⟨wp_seq (wp_mono h1 ?_),h2⟩;rintro e a' w' ⟨rfl,hI'⟩;cases ex with
   | normal=>exact absurd h (hno F' H')
   | exit id=>exact⟨rfl,hI'⟩
   | ret=>exact⟨rfl,hI'⟩
 | .cond c x y,F,H,a,w,r,h,hI,hO=>by
  simp only[exec]at h;split at h
  next t ht=>
   obtain⟨G,μ,e,hW,hF⟩:=hI;have hc:=cC hF c;rw[ht,VR]at hc;cases t with
   | true =>
    obtain⟨h1,h2⟩:=tU hcl hP hfl x F H a w r h ⟨G,μ,e,hW,hF⟩ hO;exact⟨wp_cond hc h1,h2⟩
   | false =>
    obtain⟨h1,h2⟩:=tU hcl hP hfl y F H a w r h ⟨G,μ,e,hW,hF⟩ hO;exact⟨wp_cond hc h1,h2⟩
  ·cases h
 | .block id x,F,H,a,w,r,h,hI,hO=>by
  simp only[exec]at h;split at h
  next i F' H' hx=>
   obtain⟨h1,h2⟩:=tU hcl hP hfl x F H a w _ hx hI hO;have hr:r=(if i=id then .normal else .exit i,F',H'):=by
    cases hi:Nat.beq i id with
    | true =>
     rw[hi]at h;simp only[oC,oJ]at h;rw[if_pos (oE hi),h]
    | false =>
     rw[hi]at h;simp only[oD,oJ]at h;rw[if_neg (λe=>by rw[e]at hi; simp at hi),h]
   subst hr;refine⟨wp_block (wp_mono h1 ?_),h2⟩;rintro e a' w' ⟨rfl,hI'⟩;simp only[Ex.to,Exit.inBlock];split
   ·exact⟨rfl,hI'⟩
   ·exact⟨rfl,hI'⟩
  next hno=>
   obtain⟨ex,F',H'⟩:=r;obtain⟨h1,h2⟩:=tU hcl hP hfl x F H a w _ h hI hO;refine⟨wp_block (wp_mono h1 ?_),h2⟩;rintro e a' w' ⟨rfl,hI'⟩;cases ex with
   | normal=>exact⟨rfl,hI'⟩
   | exit i=>exact absurd h (hno i F' H')
   | ret=>exact⟨rfl,hI'⟩
 | .loop x,F,H,a,w,r,h,hI,hO=>by
  simp only[exec]at h;refine aZW (λF H a w r h hI hO=>?_) h hI hO;unfold a8P at h;split at h
  ·obtain⟨F',h1,h2⟩:=aD1 (α:=Out) F cfg.l8 λF=>exec P cl cfg L x F H
   simp only[h1]at h;exact tU hcl hP hfl x F' H a w r h (hI.a4S h2) λt ht=>by
    rcases h2 t with h3|h3
    ·rw[h3]; exact hO t ht
    ·exact h3
  next pl hpl=>
   obtain⟨hb,h⟩:=aJ h;split at h
   next F' H' hti=>obtain⟨h1,h2⟩:=aPE hti (λr hr=>hfl r (oR (oL hb) hr)) hI;exact tU hcl hP hfl x F' H' a w r h h1 λt ht=>h2 t (hO t ht)
   ·cases h
 | .exit id,F,H,a,w,r,h,hI,hO=>by
  simp only[exec,oJ]at h;subst h;exact⟨wp_exit ⟨rfl,hI⟩,hO⟩
 | .scope x,F,H,a,w,r,h,hI,hO=>by
  simp only[exec]at h;obtain⟨h1,h2⟩:=tU hcl hP hfl x F H a w r h hI hO;refine⟨wp_scope_straight (wp_mono h1 ?_),h2⟩;rintro e a' w' ⟨rfl,hI'⟩;obtain⟨ex,F',H'⟩:=r;cases ex <;> exact⟨rfl,hI'⟩
 | .ret,F,H,a,w,r,h,hI,hO=>by
  simp only[exec,oJ]at h;subst h;exact⟨wp_ret ⟨rfl,hI⟩,hO⟩
 | .rangeFunc ..,F,H,a,w,r,h,hI,hO=>by simp only[exec]at h; cases h
 | .goto l,F,H,a,w,r,h,hI,hO=>by simp only[exec]at h; cases h
 | .refuse s,F,H,a,w,r,h,hI,hO=>by simp only[exec]at h; cases h
end
def aG8(P:Program) (F:Frm) (H:Heap):ResultVar->Option PV
 | .tmp t=>some (bM F t)
 | .cell t ty=>match ZE P H ty (bM F t)with|some (v,_)=>some v|none=>none
def o9(P:Program)(F:Frm)(H:Heap):List ResultVar->Option (List PV)
 | []=>some []
 | r::rs=>match aG8 P F H r,o9 P F H rs with
  | some v,some vs=>some (v::vs)
  | _,_=>none
def j6:List PV->PV
 | [v]=>v
 | vs=>.tuple vs
def start(m:Nat):Nat->List PV->Frm
 | _,[]=>[]
 | i,p::ps=>bif T6 m i then (i,p)::start m (i+1) ps else start m (i+1) ps
def aL1(P:Program) (cl:Callee) (cfg:Cfg) (L:Nat) (fn:Func) (args:List PV) (H:Heap):Option (PV×Frm×Heap) :=
 match fn.body with
 | some c=>bif Nat.ble args.length fn.ntmps&&Nat.beq fn.ntmps cfg.nt then match exec P cl { cfg with floor:=H.length } L c (start cfg.keep 0 args) H with
  | some (.normal,F,H')|some (.ret,F,H')=>match o9 P F H' fn.results.toList with
   | some vs=>some (j6 vs,F,H')
   | none=>none
  | _=>none
  else none
 | none=>none
section
variable {P:Program} {cl:Callee} {cfg:Cfg} {L:Nat} {n0:Nat->Prop} {w:World} {G:Gd} {μ:Mp} {H:Heap}
theorem aFX m:∀ ps i t,bM (start m i ps) t=if i<=t/\T6 m t=true then (ps[t-i]?).getD .junk else .junk
 | [],i,t=>by simp[start,bM]
 | p::ps,i,t=>by
  simp only[start];have ih:=aFX m ps (i+1) t;cases hi:T6 m i with
  | true =>
   rw[oC,bT,ih];grind
  | false =>
   grind
theorem a2O m ps:Off m (start m 0 ps):=λt ht=>by rw[aFX,ht]; rfl
theorem mE {args vs n m}(h:VRs w G μ args vs.toList)(hn:args.length<=n):cZ w G μ n (start m 0 args) ⟨vs++Array.replicate (n-vs.size) undef,[]⟩ where
 size:=by
  have :=by simpa using h.length
  grind
 slot t:=by
  rw[aFX]
  by_cases hb:T6 m t=true
  case neg=>rw[if_neg (λh=>hb h.2),VR]; trivial
  rw[if_pos ⟨Nat.zero_le _,hb⟩,Nat.sub_zero];cases ht:args[t]? with
  | none=>simp only[Option.getD_none]; rw[VR]; trivial
  | some p =>
   obtain⟨v,h1,h2⟩:=h.get ht;have hv :=by simpa using h1
   have hlt :=(Array.getElem?_eq_some_iff.1 hv).1;have:(vs++Array.replicate (n-vs.size) undef).getD t undef=v:=by rw[Array.getD_eq_getD_getElem?,Array.getElem?_append_left hlt,hv]; rfl
   grind
 defers:=rfl
def aUW(tmps:Array Value):ResultVar->Sem Value
 | .tmp t=>pure (tmps.getD t undef)
 | .cell b t=>do loadVar t (<- asAddr (tmps.getD b undef))
theorem wA fn tmps:results fn tmps=(do let vs <- fn.results.mapM (aUW tmps); pure (if h:vs.size=1 then vs[0] else .tuple vs)):=by rfl
theorem lK {nt F a}(hW:aO n0 G μ H w)(hF:cZ w G μ nt F a):∀ {rs vs},o9 P F H rs=some vs->∃ us ,(rs.mapM (aUW a.tmps)).run P w=.ok us w/\VRs w G μ vs us
 | [],vs,h=>by
  simp only[o9,oJ]at h;subst h;exact⟨[],rfl,by rw[VRs]⟩
 | r::rs,vs,h=>by
  simp only[o9]at h;split at h
  next v vs' hv hvs=>
   simp only[oJ]at h;subst h;obtain⟨us,h1,h2⟩:=lK hW hF hvs;cases r with
   | tmp t =>
    simp only[aG8,oJ]at hv;subst hv;refine⟨a.tmps.getD t undef::us,?_,by rw[VRs]; exact⟨_,_,rfl,hF.slot t,h2⟩⟩;rw[List.mapM_cons];simp only[aUW,Sem.run_bind,Sem.run_pure,Result.andThen_ok,h1]
   | cell b t =>
    simp only[aG8]at hv;split at hv
    ·rename_i u c hu;simp only[oJ]at hv;subst hv;obtain⟨v',h3,h4⟩:=aKX (P:=P) hW (hF.slot b) hu;refine⟨v'::us,?_,by rw[VRs]; exact⟨_,_,rfl,h4,h2⟩⟩;have h5:(do loadVar t (<- asAddr (a.tmps.getD b undef)):Sem Value).run P w=.ok v' w:=by
      simp only[Instr.loadAt]at h3;cases hp:a.tmps.getD b undef <;> rw[hp]at h3 <;> simp[Instr.sureAddr]at h3
      rename_i ad;cases ad with
      | none=>simp[Instr.sureAddr]at h3
      | some ad=>simpa[asAddr,Instr.sureAddr]using h3
     rw[List.mapM_cons];simp only[aUW,Sem.run_bind]at h5 ⊢
     simp_all
    ·cases hv
  ·cases h
theorem mT {vs us}(h:VRs w G μ vs us):VR w G μ (j6 vs) (if hh:us.toArray.size=1 then us.toArray[0] else .tuple us.toArray):=by
 match vs,us,h with
 | [v],us,h =>
  obtain⟨x,xs,rfl,h1,h2⟩:=h;subst h2;simpa[j6]using h1
 | [],us,h =>
  subst h;exact⟨_,by simp; rfl,by simp[VRs]⟩
 | v::v2::vs,us,h =>
  have hl:=h.length;simp only[List.length_cons]at hl;have:¬ us.toArray.size=1:=by simp; omega
  rw[dif_neg this];exact⟨_,rfl,by omega⟩
theorem aPK(hcl:dA P cl) (hP:P.follows .mixedOrders=true) {g:FuncId} {fn:Func} (hg:P.funcs[g]?=some fn) {args:List PV} {vs:Array Value} {v:PV} {F:Frm} {H':Heap} (h:aL1 P cl cfg L fn args H=some (v,F,H'))
  (hW:aO n0 G μ H w) (hv:VRs w G μ args vs.toList):Calls P g vs w λe w'=>∃ v' G' μ',e=.returned v'/\Ext n0 w G μ w' G' μ'/\aO n0 G' μ' H' w'/\VR w' G' μ' v v':=by
 unfold aL1 at h;split at h
 next c hc=>
  cases hb:(Nat.ble args.length fn.ntmps&&Nat.beq fn.ntmps cfg.nt)with
  | false=>rw[hb]at h; cases h
  | true =>
   rw[hb]at h;simp only[oA]at hb;have h1:=oL hb.1;have h2:=oE hb.2;have hI:I n0 w G μ cfg.nt (start cfg.keep 0 args) H ⟨vs++Array.replicate (fn.ntmps-vs.size) undef,[]⟩ w:=⟨G,μ,Ext.refl _ _ _ _,hW,by rw[<- h2]; exact mE hv h1⟩;refine calls_of_wp hg hc ?_;have key:∀ ex F1 H1,exec P cl { cfg with floor:=H.length } L c (start cfg.keep 0 args) H=some (ex,F1,H1)->(match o9 P F1 H1 fn.results.toList with
     | some vs=>some (j6 vs,F1,H1)
     | none=>none)=some (v,F,H')->(ex=.normal\/ex=.ret)->Code.wp P c (bodyPost P fn λe w'=>∃ v' G' μ',e=.returned v'/\Ext n0 w G μ w' G' μ'/\aO n0 G' μ' H' w'/\VR w' G' μ' v v') ⟨vs++Array.replicate (fn.ntmps-vs.size) undef,[]⟩ w:=by
    intro ex F1 H1 hx hr hex;split at hr
    ·rename_i us hus;simp only[oJ,oP]at hr;obtain⟨rfl,rfl,rfl⟩:=hr;refine wp_mono (tU (cfg:={ cfg with floor:=H.length }) hcl hP (λr hr=>hW.top r hr) c _ H _ w _ hx hI (a2O _ _)).1 ?_;rintro e a' w' ⟨rfl,G',μ',e',hW',hF'⟩;obtain⟨ws,h3,h4⟩:=lK (P:=P) hW' hF' hus;have hres:(results fn a'.tmps).run P w'=.ok (if hh:ws.toArray.size=1 then ws.toArray[0] else .tuple ws.toArray) w':=by
      rw[wA,Array.mapM_eq_mapM_toList]
      simp_all
     have hpost:a'.defers=[]/\∃ v,(results fn a'.tmps).run P w'=.ok v w'/\(∃ v' G'' μ'',Ending.returned v=.returned v'/\Ext n0 w G μ w' G'' μ''/\aO n0 G'' μ'' H1 w'/\VR w' G'' μ'' (j6 us) v') :=
      ⟨hF'.defers,_,hres,_,G',μ',rfl,e',hW',mT h4⟩
     rcases hex with rfl|rfl
     ·exact hpost
     ·exact hpost
    ·cases hr
   grind
 ·cases h
end
def YS(f:PV->Option PV):List PV->Option (List PV)
 | []=>some []
 | p::ps=>match f p with
  | some q=>match YS f ps with
   | some qs=>some (q::qs)
   | none=>none
  | none=>none
def inl(fz:Bool) (H:Heap):Nat->PV->Option PV
 | _,.lit v=>some (.lit v)
 | _,.vals cs n cap=>some (.vals cs n cap)
 | _,.iptr cs=>some (.iptr cs)
 | _,.tl t l cap e=>some (.tl t l cap e)
 | _,.tp t l i off e=>some (.tp t l i off e)
 | _,.row j lo n sz=>some (.row j lo n sz)
 | _,.own r _=>match gS H r with
  | some k=>match k.tag with
   | some g=>bif k.frozen||!fz then some (q9 g.t g.l none) else none
   | none=>none
  | none=>none
 | _,.win r lo n sz=>match gS H r with
  | some k=>match k.tag with
   | some g=>bif (k.frozen||!fz)&&Nat.beq sz g.t.size then some (q9 g.t ((g.l.drop lo).take n) none) else none
   | none=>none
  | none=>none
 | n+1,.hs r off len _ sz=>match gS H r with
  | some k=>bif (k.frozen||!fz)&&Nat.ble (off+len*sz) k.cells.length then match YS (λp=>inl fz H n p) ((k.cells.drop off).take (len*sz))with
    | some cs=>some (.vals cs len none)
    | none=>none
   else none
  | none=>none
 | n+1,.hptr r off=>match gS H r with
  | some k=>bif k.frozen||!fz then match YS (λp=>inl fz H n p) (k.cells.drop off)with
    | some cs=>some (.iptr cs)
    | none=>none
   else none
  | none=>none
 | n+1,.agg cs=>match YS (λp=>inl fz H n p) cs with|some qs=>some (.agg qs)|none=>none
 | n+1,.tuple cs=>match YS (λp=>inl fz H n p) cs with|some qs=>some (.tuple qs)|none=>none
 | n+1,.clo fn f c=>match YS (λp=>inl fz H n p) f,YS (λp=>inl fz H n p) c with
  | some f',some c'=>some (.clo fn f' c')
  | _,_=>none
 | _,_=>none
section
variable {P:Program} {n0:Nat->Prop} {w:World} {G G':Gd} {μ:Mp} {H:Heap}
theorem SB {f}(hf:∀ p q v,f p=some q->VR w G μ p v->VR w G' aG q v):∀ {ps qs vs},YS f ps=some qs->VRs w G μ ps vs->VRs w G' aG qs vs
 | [],qs,vs,h,hv=>by
  simp only[YS,oJ]at h;subst h;exact hv
 | p::ps,qs,vs,h,hv=>by
  simp only[YS]at h;split at h
  next q hq=>
   split at h
   next qs' hqs=>simp only[oJ]at h;subst h;obtain⟨x,xs,h1,h2,h3⟩:=hv;exact⟨x,xs,h1,hf p q x hq h2,SB hf hqs h3⟩
   grind
  grind
theorem aFY {f}(hf:∀ p q v,f p=some q->VR w G μ p v->VR w G' aG q v){b}:∀ {ps qs off},YS f ps=some qs->aL w G μ b off ps->aL w G' aG b off qs
 | [],qs,off,h,hv=>by
  simp only[YS,oJ]at h;subst h;trivial
 | p::ps,qs,off,h,hv=>by
  simp only[YS]at h;split at h
  next q hq=>
   split at h
   next qs' hqs=>simp only[oJ]at h;subst h;obtain⟨⟨v,h1,h2⟩,h3⟩:=hv;exact⟨⟨v,h1,hf p q v hq h2⟩,aFY hf hqs h3⟩
   grind
  grind
theorem L9(hW:aO n0 G μ H w){fz}(hR:∀ j b,G.row j=some b->G'.row j=some b)(hG:∀ b,G b->G' b)(hB:∀ r k b,H[r]?=some (some k)->(k.frozen=true\/fz=false)->μ.loc r=some b->G' b):∀ n p q v,inl fz H n p=some q->VR w G μ p v->VR w G' aG q v:=by
 have hm:Mono w G aG w G' aG:=⟨λb hb=>⟨hG b hb,rfl⟩,λ_ _ h=>h,λ_ _ h=>h,λ_ _ h=>h,hR,λ_ _ _=>rfl⟩;have base:∀ (p q:PV) (v:Value),some p=some q->dR p=true->VR w G μ p v->VR w G' aG q v:=λp q v h hn hv=>by
  cases h;exact VR.mono hm _ _ (nC p v hn hv)
 have owned:∀ (r sz:Nat) (q:PV) (v:Value),(match gS H r with
  | some k=>match k.tag with
   | some g=>bif k.frozen||!fz then some (q9 g.t g.l none) else none
   | none=>none
  | none=>none)=some q->VR w G μ (.own r sz) v->VR w G' aG q v:=λr sz q v h hv=>by
  split at h
  next k hk=>
   split at h
   next g hg=>obtain⟨hb,h⟩:=aJ h;simp only[Bool.or_eq_true,Bool.not_eq_true']at hb;simp only[oJ]at h;subst h;exact E5 hW hv hk hg hG (λb h1=>hB r k b (aH hk) hb h1) hR
   ·cases h
  ·cases h
 have wind:∀ (r lo n sz:Nat) (q:PV) (v:Value),(match gS H r with
  | some k=>match k.tag with
   | some g=>bif (k.frozen||!fz)&&Nat.beq sz g.t.size then some (q9 g.t ((g.l.drop lo).take n) none) else none
   | none=>none
  | none=>none)=some q->VR w G μ (.win r lo n sz) v->VR w G' aG q v:=λr lo n sz q v h hv=>by
  split at h
  next k hk=>
   split at h
   next g hg=>obtain⟨hb,h⟩:=aJ h;simp only[oA,Bool.or_eq_true,Bool.not_eq_true']at hb;simp only[oJ]at h;subst h;exact aYE hW hv hk hg (oE hb.2) hG (λb h1=>hB r k b (aH hk) hb.1 h1) hR
   ·cases h
  ·cases h
 intro n
 induction n with
 | zero =>
  intro p q v h hv;cases p <;> simp only[inl]at h <;> first|(cases h; done)|exact base _ q v h rfl hv|exact owned _ _ q v h hv|exact wind _ _ _ _ q v h hv
 | succ n ih =>
  intro p q v h hv;cases p with
  | lit u=>simp only[inl]at h; exact base _ q v h rfl hv
  | vals cs k cap=>simp only[inl]at h; exact base _ q v h rfl hv
  | iptr cs=>simp only[inl]at h; exact base _ q v h rfl hv
  | junk=>simp only[inl]at h; cases h
  | tl t l cap e=>simp only[inl]at h; exact base _ q v h rfl hv
  | tp t l i off e=>simp only[inl]at h; exact base _ q v h rfl hv
  | own r sz=>simp only[inl]at h; exact owned r sz q v h hv
  | op r i off sz=>simp only[inl]at h; cases h
  | row j lo n sz=>simp only[inl]at h; exact base _ q v h rfl hv
  | rp j off=>simp only[inl]at h; cases h
  | mp j=>simp only[inl]at h; cases h
  | tm l=>simp only[inl]at h; cases h
  | qs r sz=>simp only[inl]at h; cases h
  | win r lo n sz=>simp only[inl]at h; exact wind r lo n sz q v h hv
  | hs r off len cap sz =>
   simp only[inl]at h;split at h
   ·rename_i k hk;cases hb:((k.frozen||!fz)&&Nat.ble (off+len*sz) k.cells.length)with
    | false=>rw[hb]at h; cases h
    | true =>
     rw[hb]at h;simp only[oC]at h;simp only[oA,Bool.or_eq_true,Bool.not_eq_true']at hb;split at h
     next cs hcs=>simp only[oJ]at h;subst h;rw[VR]at hv; rw[VR];obtain⟨b,c,h1,rfl,h3,_,_⟩:=hv;obtain⟨c',g2,g3,_⟩:=hW.blk r k b (aH hk) h1;refine⟨_,c,rfl,h3,λk hk=>(by cases hk),.inr ⟨b,μ.sh r+off,rfl,hB r k b (aH hk) hb.1 h1,?_⟩⟩;have:=g3.sub off (len*sz);exact aFY (λp q v h hv=>ih p q v h hv) hcs this
     ·cases h
   ·cases h
  | hptr r off =>
   simp only[inl]at h;split at h
   ·rename_i k hk;cases hb:(k.frozen||!fz)with
    | false=>rw[hb]at h; cases h
    | true =>
     rw[hb]at h;simp only[oC]at h;simp only[Bool.or_eq_true,Bool.not_eq_true']at hb;split at h
     next cs hcs=>simp only[oJ]at h;subst h;rw[VR]at hv; rw[VR];obtain⟨b,h1,rfl⟩:=hv;obtain⟨c',g2,g3,_⟩:=hW.blk r k b (aH hk) h1;refine⟨b,μ.sh r+off,rfl,hB r k b (aH hk) hb h1,?_⟩;have:=g3.drop off;exact aFY (λp q v h hv=>ih p q v h hv) hcs this
     ·cases h
   ·cases h
  | agg cs =>
   simp only[inl]at h;split at h
   next qs hqs=>simp only[oJ]at h;subst h;rw[VR]at hv ⊢;obtain⟨vs,h1,h2⟩:=hv;exact⟨vs,h1,SB (λp q v h hv=>ih p q v h hv) hqs h2⟩
   ·cases h
  | tuple cs =>
   simp only[inl]at h;split at h
   next qs hqs=>simp only[oJ]at h;subst h;rw[VR]at hv ⊢;obtain⟨vs,h1,h2⟩:=hv;exact⟨vs,h1,SB (λp q v h hv=>ih p q v h hv) hqs h2⟩
   ·cases h
  | clo fn f c =>
   simp only[inl]at h;split at h
   next f' c' hf hc=>simp only[oJ]at h;subst h;rw[VR]at hv ⊢;obtain⟨fs,cs,h1,h2,h3⟩:=hv;exact⟨fs,cs,h1,SB (λp q v h hv=>ih p q v h hv) hf h2,SB (λp q v h hv=>ih p q v h hv) hc h3⟩
   ·cases h
def o3(P:Program) (g:FuncId) (args:List PV) (r:PV):Prop :=
 ∀ (w:World) (G:Nat->Prop) (vs:Array Value),Lt w G->VRs w (Gd.of G) aG args vs.toList ->
  (callFunc g vs).run P w=.ok (.enter g vs) w/\Calls P g vs w λe w'=>∃ v' G',e=.returned v'/\Ext (uF w) w (Gd.of G) aG w' (Gd.of G') aG/\(∀ b,G' b->b<w'.heap.size)/\VR w' (Gd.of G') aG r v'
def aLU:PV->Bool
 | .lit _=>true
 | _=>false
def aUI:PV->Bool
 | .lit _=>true
 | .agg cs=>cs.all aLU
 | _=>false
def flat:PV->Bool
 | .lit _=>true
 | .agg cs=>cs.all aLU
 | .tuple cs=>cs.all aUI
 | _=>false
theorem aI8 {w' G'}:∀ {ps vs},ps.all aLU=true->VRs w G aG ps vs->VRs w' G' μ ps vs
 | [],vs,_,h=>h
 | p::ps,vs,hf,h=>by
  simp only[List.all_cons,oA]at hf;obtain⟨x,xs,h1,h2,h3⟩:=h;refine⟨x,xs,h1,?_,aI8 hf.2 h3⟩;cases p <;> simp only[aLU]at hf <;> try grind
  exact h2
theorem aRS {w' G'}:∀ {ps vs},ps.all aUI=true->VRs w G aG ps vs->VRs w' G' μ ps vs
 | [],vs,_,h=>h
 | p::ps,vs,hf,h=>by
  simp only[List.all_cons,oA]at hf;obtain⟨x,xs,h1,h2,h3⟩:=h;refine⟨x,xs,h1,?_,aRS hf.2 h3⟩;cases p <;> simp only[aUI]at hf <;> try grind
  ·exact h2
  ·obtain⟨us,q1,q2⟩:=h2;exact⟨us,q1,aI8 hf.1 q2⟩
theorem bA0 {w' G' p v}(hf:flat p=true)(h:VR w G aG p v):VR w' G' μ p v:=by
 cases p <;> simp only[flat]at hf <;> try grind
 ·exact h
 ·obtain⟨vs,h1,h2⟩:=h;exact⟨vs,h1,aI8 hf h2⟩
 ·obtain⟨vs,h1,h2⟩:=h;exact⟨vs,h1,aRS hf h2⟩
theorem aRD(hW:aO n0 G μ H w) {w':World} {G0 G1:Gd} (hG:∀ b,G b->G0 b) (hG0:∀ b,G0 b->G b\/∃ r,μ.loc r=some b) (e:Ext (uF w) w G0 aG w' G1 aG) (hlt:∀ b,G1 b->b<w'.heap.size) {G':Gd}
  (hG':∀ b,G' b->G b\/w.heap.size<=b/\b<w'.heap.size) (hGG':∀ b,G b->G' b) (hrow:∀ j,G'.row j=G.row j):Ext n0 w G μ w' G' μ/\aO n0 G' μ H w':=by
 have e':Ext n0 w G μ w' G' μ:={
  good:=λb hb=>⟨hGG' b hb,e.old b (hW.lt b hb) (Nat.not_le.2 (hW.lt b hb))⟩
  map:=λ_ _ h=>h
  len:=λ_ _ h=>h
  room:=e.room
  row:=λj b h=>by rw[hrow]; exact h
  os:=e.os
  tape:=e.tape
  output:=e.output
  size:=e.size
  old:=λb hb _=>e.old b hb (Nat.not_le.2 hb)
  new:=λb hb=>by
   rcases hG' b hb with h|h
   ·exact .inl h
   ·exact .inr (hW.base b h.1) }
 refine⟨e',hW.keep e' ⟨hrow,λj b hj=>?_⟩ ?_ ?_⟩
 ·have hlt:=(hW.rows.sep j b hj).1;refine⟨e.old b hlt (Nat.not_le.2 hlt),λhb'=>?_⟩;rcases hG' b hb' with h|h
  ·exact h
  ·omega
 ·intro r k b hr hb;have hlt:b<w.heap.size:=hW.pK hr hb;refine⟨e.old b hlt (Nat.not_le.2 hlt),λhb'=>?_⟩;rcases hG' b hb' with h|h
  ·exact h
  ·omega
 ·intro b hb;rcases hG' b hb with h|h
  ·exact Nat.lt_of_lt_of_le (hW.lt b h) e.size
  ·exact h.2
theorem aQ5(hW:aO n0 G μ H w) {g:FuncId} {args qs:List PV} {r:PV} {n:Nat} {vs:List Value} (hp:o3 P g qs r) (hq:YS (inl false H n) args=some qs) (hn:dV.noRows qs=true) (hf:flat r=true) (hv:VRs w G μ args vs):vG P n0 w G μ g vs.toArray r H:=by
 have hlive:∀ r k b,H[r]?=some (some k)->μ.loc r=some b->b<w.heap.size:=λr k b hr hb=>by exact hW.pK hr hb
 have hvs:VRs w (⟨λb=>b<w.heap.size,G.row⟩:Gd) aG qs vs:=SB (λp q v h hv=>L9 (G':=⟨λb=>b<w.heap.size,G.row⟩) hW (λ_ _ h=>h) (λb hb=>hW.lt b hb) (λr k b hr _ hb=>hlive r k b hr hb) n p q v h hv) hq hv;have hvs:VRs w (Gd.of λb=>b<w.heap.size) aG qs vs:=vA (G:=⟨λb=>b<w.heap.size,G.row⟩) (G':=Gd.of λb=>b<w.heap.size) (λb h=>h) _ _ _ hn hvs;obtain⟨h1,h2⟩:=hp w (λb=>b<w.heap.size) vs.toArray hW.lt.all (by simpa using hvs)
 refine⟨h1,h2.mono ?_⟩;rintro e w' ⟨v',G',rfl,e1,e2,e3⟩;have e4:Ext n0 w G μ w' G μ:={
  good:=λb hb=>⟨hb,e1.old b (hW.lt b hb) (Nat.not_le.2 (hW.lt b hb))⟩
  map:=λ_ _ h=>h
  len:=λ_ _ h=>h
  room:=e1.room
  row:=λ_ _ h=>h
  os:=e1.os
  tape:=e1.tape
  output:=e1.output
  size:=e1.size
  old:=λb hb _=>e1.old b hb (Nat.not_le.2 hb)
  new:=λb hb=>.inl hb }
 refine⟨v',G,μ,rfl,e4,hW.keep e4 ⟨λ_=>rfl,λj b hj=>⟨e1.old b (hW.rows.sep j b hj).1 (Nat.not_le.2 (hW.rows.sep j b hj).1),id⟩⟩ ?_ ?_,bA0 hf e3⟩
 ·intro r k b hr hb;exact⟨e1.old b (hlive r k b hr hb) (Nat.not_le.2 (hlive r k b hr hb)),id⟩
 ·intro b hb;exact Nat.lt_of_lt_of_le (hW.lt b hb) e1.size
theorem a4O(hW:aO n0 G μ H w) {g:FuncId} {args qs:List PV} {r:PV} {n:Nat} {vs:List Value} (hp:o3 P g qs r) (hq:YS (inl true H n) args=some qs) (hn:dV.noRows qs=true) (hv:VRs w G μ args vs):vG P n0 w G μ g vs.toArray r H:=by
 have hvs:VRs w G aG qs vs:=SB (λp q v h hv=>L9 hW (λ_ _ h=>h) (λb hb=>hb) (λr k b hr hf hb=>by
  obtain⟨c,h2,_,_,h5,_⟩:=hW.blk r k b hr hb;rcases hf with hf|hf
  ·exact h5 hf
  ·cases hf) n p q v h hv) hq hv
 have hvs:VRs w (Gd.of G.ok) aG qs vs:=vA (G:=G) (G':=Gd.of G.ok) (λb h=>h) _ _ _ hn hvs;obtain⟨h1,h2⟩:=hp w G.ok vs.toArray hW.lt (by simpa using hvs);refine⟨h1,h2.mono ?_⟩;rintro e w' ⟨v',G',rfl,e1,e2,e3⟩;obtain⟨e4,e5⟩:=aRD (G':=⟨G',G.row⟩) hW (G0:=Gd.of G.ok) (λb h=>h) (λb h=>.inl h) e1 e2 (λb hb=>by
  rcases e1.new b hb with h|h
  ·exact .inl h
  ·exact .inr ⟨h,e2 b hb⟩) (λb hb=>(e1.good b hb).1) (λ_=>rfl)
 exact⟨v',⟨G',G.row⟩,μ,rfl,e4,e5,(VR.mono (aUV (λb h=>h)) _ _ e3).aV⟩
end
def reach(H:Heap):Nat->PV->List Nat
 | n+1,.hs r _ _ _ _=>r::(match gS H r with|some k=>k.cells.flatMap (λp=>reach H n p)|none=>[])
 | n+1,.hptr r _=>r::(match gS H r with|some k=>k.cells.flatMap (λp=>reach H n p)|none=>[])
 | _,.own r _=>[r]
 | _,.op r _ _ _=>[r]
 | _,.win r _ _ _=>[r]
 | n+1,.agg cs=>cs.flatMap (λp=>reach H n p)
 | n+1,.tuple cs=>cs.flatMap (λp=>reach H n p)
 | n+1,.clo _ f c=>f.flatMap (λp=>reach H n p)++c.flatMap (λp=>reach H n p)
 | _,_=>[]
def depth:Nat:=16
def bGG(P:Program) (t:TypeId):Bool:=match P.info? t with
 | some i=>!i.hasPointers||(match P.underlying t with|some .string=>true|_=>false)
 | none=>false
def aMH(P:Program)(g:FuncId):Bool:=match P.funcs[g]? with
 | some fn=>fn.resultTypes.toList.all (bGG P)
 | none=>false
def callee(P:Program) (sh:FuncId->Bool) (pure:FuncId->List PV->Option PV) (shared:FuncId->List PV->Heap->Option (PV×Heap)):Callee:=λg args H =>
 bif sh g then match shared g args H with
  | some (r,H')=>some (r,H',2)
  | none=>none
 else bif dR.noRefs args then bif dV.noRows args then match pure g args with
  | some r=>some (r,H,0)
  | none=>none
  else none
 else bif aMH P g then match YS (λp=>inl false H depth p) args with
  | some qs=>bif dV.noRows qs then match pure g qs with
   | some r=>bif flat r then some (r,H,1) else none
   | none=>none
   else none
  | none=>none
 else match BU H (args.flatMap (λp=>reach H depth p))with
  | H1=>match YS (λp=>inl true H1 depth p) args with
   | some qs=>bif dV.noRows qs then match pure g qs with
    | some r=>some (r,H1,2)
    | none=>none
    else none
   | none=>none
section
variable {P:Program} {n0:Nat->Prop} {w:World} {G:Gd} {μ:Mp} {H:Heap}
theorem vG.trans {g vs r H' G1}(e:Ext n0 w G μ w G1 μ)(h:vG P n0 w G1 μ g vs r H'):vG P n0 w G μ g vs r H':=by
 refine⟨h.1,h.2.mono ?_⟩;rintro x w' ⟨v',G',μ',rfl,e1,e2,e3⟩;exact⟨v',G',μ',rfl,e.trans e1,e2,e3⟩
theorem aQ3 {sh pure shared} (hp:∀ g args r,pure g args=some r->o3 P g args r)
  (hs:∀ g args H r H',shared g args H=some (r,H')->∀ {n0 G μ w vs},aO n0 G μ H w->VRs w G μ args vs->vG P n0 w G μ g vs.toArray r H'):dA P (callee P sh pure shared) where
 call:=by
  intro g args H r H' c h n0 G μ w vs hW hv;unfold callee at h;cases hsh:sh g with
  | true =>
   rw[hsh]at h;simp only[oC]at h;split at h
   next r1 H1 hr=>simp only[oJ,oP]at h;obtain⟨rfl,rfl,rfl⟩:=h;exact hs g args H r1 H1 hr hW hv
   ·cases h
  | false =>
   rw[hsh]at h;simp only[oD]at h;cases hn:dR.noRefs args with
   | true =>
    rw[hn]at h;simp only[oC]at h;obtain⟨hnr,h⟩:=aJ h;split at h
    ·rename_i r1 hr;simp only[oJ,oP]at h;obtain⟨rfl,rfl,rfl⟩:=h;obtain⟨h1,h2⟩:=hp g args r1 hr w G.ok vs.toArray hW.lt (by simpa using vA (G:=G) (G':=Gd.of G.ok) (λb h=>h) _ _ _ hnr (cU _ _ hn hv));refine⟨h1,h2.mono ?_⟩;rintro e w' ⟨v',G',rfl,e1,e2,e3⟩;obtain⟨e4,e5⟩:=aRD (G':=⟨G',G.row⟩) hW (G0:=Gd.of G.ok) (λb h=>h) (λb h=>.inl h) e1 e2 (λb hb=>by
      rcases e1.new b hb with h|h
      ·exact .inl h
      ·exact .inr ⟨h,e2 b hb⟩) (λb hb=>(e1.good b hb).1) (λ_=>rfl)
     exact⟨v',⟨G',G.row⟩,μ,rfl,e4,e5,(VR.mono (aUV (λb h=>h)) _ _ e3).aV⟩
    ·cases h
   | false =>
    rw[hn]at h;simp only[oD]at h;cases hf:aMH P g with
    | true =>
     rw[hf]at h;simp only[oC]at h;split at h
     ·rename_i qs hq;obtain⟨hnr,h⟩:=aJ h;split at h
      ·rename_i r1 hr;cases hfl:flat r1 with
       | true =>
        rw[hfl]at h;simp only[oC,oJ,oP]at h;obtain⟨rfl,rfl,rfl⟩:=h;exact aQ5 hW (hp g qs r1 hr) hq hnr hfl hv
       | false=>rw[hfl]at h; cases h
      ·cases h
     ·cases h
    | false =>
     rw[hf]at h;simp only[oD]at h;split at h
     ·rename_i qs hq;obtain⟨hnr,h⟩:=aJ h;split at h
      next r1 hr=>simp only[oJ,oP]at h;obtain⟨rfl,rfl,rfl⟩:=h;obtain⟨G1,e1,hW1⟩:=CE (args.flatMap (λp=>reach H depth p)) H G hW;exact(a4O hW1 (hp g qs r1 hr) hq hnr (VRs.mono e1.toMono _ _ hv)).trans e1
      ·cases h
     ·cases h
 free:=by
  intro g args H r H' h;unfold callee at h ⊢;grind
 reads:=by
  intro g args H r H' h;unfold callee at h;cases hsh:sh g with
  | true =>
   rw[hsh]at h;simp only[oC]at h;split at h
   ·simp only[oJ,oP]at h;exact absurd h.2.2 O
   ·cases h
  | false =>
   rw[hsh]at h;simp only[oD]at h;cases hn:dR.noRefs args with
   | true =>
    rw[hn]at h;simp only[oC]at h;obtain⟨_,h⟩:=aJ h;split at h
    ·simp only[oJ,oP]at h;exact absurd h.2.2 O
    ·cases h
   | false =>
    rw[hn]at h;simp only[oD]at h;cases hf:aMH P g with
    | true =>
     rw[hf]at h;simp only[oC]at h;split at h
     ·obtain⟨_,h⟩:=aJ h;split at h
      ·rename_i r1 hr;cases hfl:flat r1 with
       | true =>
        rw[hfl]at h;simp only[oC,oJ,oP]at h;exact h.2.1.symm
       | false=>rw[hfl]at h; cases h
      ·cases h
     ·cases h
    | false =>
     rw[hf]at h;simp only[oD]at h;split at h
     ·obtain⟨_,h⟩:=aJ h;split at h
      ·simp only[oJ,oP]at h;exact absurd h.2.2 O
      ·cases h
     ·cases h
theorem KF {g:FuncId} {args:List PV} {v q:PV} {H':Heap} {n:Nat} (hs:∀ {n0 G μ w vs},aO n0 G μ [] w->VRs w G μ args vs->vG P n0 w G μ g vs.toArray v H') (hq:inl false H' n v=some q) (hn:dV q=true):o3 P g args q:=by
 intro w G vs hlt hv;have hW:aO (uF w) (Gd.of G) aG [] w:=⟨λr k b h=>by simp at h,λr k g h=>by simp at h,λr s k l b h=>by simp at h,hlt,λ_ _=>⟨rfl,rfl⟩,λ_ h=>h,rQ.none _ _ (λ_=>rfl) _ _ (λr k h=>by simp at h)⟩;obtain⟨h1,h2⟩:=hs hW hv;have hvs:vs.toList.toArray=vs:=R
 rw[hvs]at h1 h2;refine⟨h1,h2.mono ?_⟩;rintro e w' ⟨v',G1,μ1,rfl,e1,e2,e3⟩;refine⟨v',λb=>G1 b\/∃ r k,H'[r]?=some (some k)/\μ1.loc r=some b,rfl,?_,?_,?_⟩
 ·exact {
   good:=λb hb=>⟨.inl (e1.good b hb).1,(e1.good b hb).2⟩
   map:=λ_ _ h=>h
   len:=λ_ _ h=>h
   room:=e1.room
   row:=λ_ _ h=>h
   os:=e1.os
   tape:=e1.tape
   output:=e1.output
   size:=e1.size
   old:=e1.old
   new:=λb hb=>by
    rcases hb with hb|⟨r,k,hr,hb⟩
    ·exact e1.new b hb
    ·obtain⟨c,_,_,_,g5,g6⟩:=e2.blk r k b hr hb;cases hf:k.frozen with
     | true=>exact e1.new b (g5 hf)
     | false=>exact .inr (g6 hf).1 }
 ·rintro b (hb|⟨r,k,hr,hb⟩)
  ·exact e2.lt b hb
  ·exact e2.pK hr hb
 ·exact EX (G:=⟨λb=>G1 b\/∃ r k,H'[r]?=some (some k)/\μ1.loc r=some b,G1.row⟩) (G':=Gd.of _) (λb h=>h) _ _ _ hn
   (L9 (G':=⟨λb=>G1 b\/∃ r k,H'[r]?=some (some k)/\μ1.loc r=some b,G1.row⟩) e2 (λ_ _ h=>h) (λb hb=>.inl hb) (λr k b hr _ hb=>.inr ⟨r,k,hr,hb⟩) n v q v' hq e3)
theorem enters {g:Nat}{fn}(h:P.funcs[g]?=some fn)(hn:(fn.name== "runtime.NumGoroutine")=false)(hb:fn.body.isNone=false) xs w:(callFunc g xs).run P w=.ok (.enter g xs) w:=by
 unfold callFunc;simp only[Sem.run_bind,program,Sem.run,Result.andThen_ok,h,hn,hb];rfl
end
def aTG(H:Heap) (v:PV):Option PV:=match inl false H depth v with
 | some q=>bif dV q then some q else none
 | none=>none
theorem CR {H v q}(h:aTG H v=some q):inl false H depth v=some q/\dV q=true:=by
 unfold aTG at h;grind
def a92(P:Program) (cfgs:FuncId->Cfg) (sh:FuncId->Bool) (prim:FuncId->List PV->Option PV) (L:Nat):Nat->FuncId->List PV->Heap->Option (PV×Heap)
 | 0,_,_,_=>none
 | n+1,g,args,H=>match P.funcs[g]? with
  | some fn=>match aL1 P (callee P sh (λg as1=>match prim g as1 with
    | some r=>some r
    | none=>match a92 P cfgs sh prim L n g as1 []with
     | some (v,H')=>aTG H' v
     | none=>none) (λg as1 H=>a92 P cfgs sh prim L n g as1 H)) (cfgs g) L fn args H with
   | some (v,_,H')=>some (v,H')
   | none=>none
  | none=>none
def bF1(P:Program) (cfgs:FuncId->Cfg) (sh:FuncId->Bool) (prim:FuncId->List PV->Option PV) (L n:Nat) (g:FuncId) (args:List PV):Option PV :=
 match a92 P cfgs sh prim L n g args []with
 | some (v,H')=>aTG H' v
 | none=>none
structure LW (P:Program):Prop where
 mixed:P.follows .mixedOrders=true
 names:∀ (g:Nat) (fn:Func),P.funcs[g]?=some fn->(fn.name== "runtime.NumGoroutine")=false
section
variable {P:Program} {cfgs:FuncId->Cfg} {sh:FuncId->Bool} {prim:FuncId->List PV->Option PV} {L:Nat}
theorem a0G(hP:LW P)(hprim:∀ g args r,prim g args=some r->o3 P g args r):∀ n g args H r H',a92 P cfgs sh prim L n g args H=some (r,H') ->
  ∀ {n0 G μ w vs},aO n0 G μ H w->VRs w G μ args vs->vG P n0 w G μ g vs.toArray r H':=by
 intro n
 induction n with
 | zero=>intro g args H r H' h; cases h
 | succ n ih =>
  intro g args H r H' h n0 G μ w vs hW hv;simp only[a92]at h;split at h
  next fn hg=>
   split at h
   ·rename_i v F H1 hb;simp only[oJ,oP]at h;obtain⟨rfl,rfl⟩:=h;refine⟨enters hg (hP.names g fn hg) ?_ _ _,?_⟩
    ·unfold aL1 at hb;grind
    ·refine aPK (aQ3 ?_ ?_) hP.mixed hg hb hW (by simpa using hv)
     ·intro g' args' r' h';split at h'
      ·grind
      ·split at h'
       next v1 H2 hr=>exact KF (λhW hv=>ih g' args' [] v1 H2 hr hW hv) (CR h').1 (CR h').2
       ·cases h'
     ·intro g' args' H0 r' H2 h';exact ih g' args' H0 r' H2 h'
   ·cases h
  ·cases h
theorem aZT(hP:LW P)(hprim:∀ g args r,prim g args=some r->o3 P g args r){n g args r}(h:bF1 P cfgs sh prim L n g args=some r):o3 P g args r:=by
 unfold bF1 at h;split at h
 next v H' hr=>exact KF (λhW hv=>a0G hP hprim n g args [] v H' hr hW hv) (CR h).1 (CR h).2
 grind
end
def a9D:Operand->Nat
 | .tmp t=>2^t
 | _=>0
def bitsOf(m:Nat):List Operand->Nat
 | []=>m
 | .tmp t::r=>bitsOf (m ||| 2^t) r
 | _::r=>bitsOf m r
def M9(m d:Nat):Nat:=(m ||| d) ^^^ d
def a6Y(l:List Oper)(o:Oper):Nat:=match o.guard with
 | some (j,_)=>match l[j]? with
  | some p=>match p.dst with|some t=>2^t|none=>0
  | none=>0
 | none=>0
def aA1(l:List Oper):List Oper->Nat->Nat->Nat
 | [],_,acc=>acc
 | o::r,d,acc=>aA1 l r (match o.dst with|some t=>d ||| 2^t|none=>d) (acc ||| M9 (bitsOf (a6Y l o) o.op.operands.toList) d)
def I4:Code->Nat
 | .region _ ops _=>aA1 ops.toList ops.toList 0 0
 | .seq a b=>I4 a ||| I4 b
 | .cond c a b=>a9D c ||| I4 a ||| I4 b
 | .block _ a=>I4 a
 | .loop a=>I4 a
 | .scope a=>I4 a
 | _=>0
def UP:List ResultVar->Nat->Nat
 | [],m=>m
 | .tmp t::r,m=>UP r (m ||| 2^t)
 | .cell t _::r,m=>UP r (m ||| 2^t)
def aP(fn:Func):Nat:=match fn.body with
 | some c=>UP fn.results.toList (I4 c)
 | none=>0
def a1V(m:Nat):Nat->List Nat->List Nat
 | 0,l=>l
 | n+1,l=>a1V m n (bif T6 m n then n::l else l)
def bGP(P:Program)(g:FuncId):Cfg:=match P.funcs[g]? with
 | some fn=>⟨fn.ntmps,aP fn,a1V (aP fn) fn.ntmps [],[],0⟩
 | none=>⟨0,0,[],[],0⟩
inductive Kd where
 | int (k:IntKind)
 | bool
 | str
 | list (t:Ty)
 | agg (t:Ty)
 | own (e:TypeId) (t:Ty)
 | box (e:TypeId) (t:Ty)
 | ptr (t:Ty)
 | fn (g:FuncId)
 | nil0
 | val
 | nilI
 | clo (g:FuncId) (ts:List Ty)
 | win (j sz:Nat)
 | bown (e et:TypeId) (t:Ty)
 | bque (e et:TypeId) (t:Ty)
 | bag (e:TypeId) (t1:Ty) (et:TypeId) (t:Ty) (t2:Option Ty)
 | bag2 (e:TypeId) (t1:Ty) (et:TypeId) (t:Ty) (eu:TypeId) (u:Ty)
 | hnd (sz:Nat)
 | mpk (j:Nat)
 | ar (e:TypeId) (t:Ty)
@[reducible] def bAX:Option Ty->Type
 | none=>Unit
 | some t=>t.den
def bC2:(t:Option Ty)->bAX t->List PV
 | none,_=>[]
 | some t,x=>enc t x
@[reducible] def aBD:List Ty->Type
 | []=>Unit
 | t::r=>t.den×aBD r
@[reducible] def Kd.den:Kd->Type
 | .int _=>Int
 | .bool=>Bool
 | .str=>ByteArray
 | .list t=>List t.den
 | .agg t=>t.den
 | .own _ t=>List t.den
 | .box _ t=>t.den
 | .ptr t=>t.den
 | .fn _=>Unit
 | .nil0=>Unit
 | .val=>Value
 | .nilI=>Unit
 | .clo _ ts=>aBD ts
 | .win _ _=>Nat×Nat
 | .bown _ _ t=>List t.den
 | .bque _ _ t=>List t.den
 | .bag _ t1 _ t t2=>t1.den×List t.den×bAX t2
 | .bag2 _ t1 _ t _ u=>t1.den×List t.den×List u.den
 | .hnd _=>Nat×Nat×Nat
 | .mpk _=>Unit
 | .ar _ t=>List (List t.den)
abbrev Shape:=List (Nat×Kd)
@[reducible] def Shape.den:List (Nat×Kd)->Type
 | []=>Unit
 | (_,k)::r=>k.den×Shape.den r
def Kd.pos:Kd->Nat
 | .own _ _|.box _ _|.ar _ _=>1
 | .bown _ _ _=>2
 | .bque _ _ _=>2
 | .bag _ _ _ _ _=>2
 | .bag2 _ _ _ _ _ _=>3
 | _=>0
def ZX:(ts:List Ty)->aBD ts->List PV
 | [],_=>[]
 | t::r,(x,xs)=>.iptr (enc t x)::ZX r xs
def B8:(k:Kd)->k.den->Nat->PV
 | .int k,x,_=>.lit (.int k x)
 | .bool,x,_=>.lit (.bool x)
 | .str,x,_=>.lit (.string x)
 | .list t,l,_=>q9 t l none
 | .agg t,x,_=>.agg (enc t x)
 | .own _ t,_,n=>.own n t.size
 | .box _ _,_,n=>.hptr n 0
 | .ptr t,x,_=>.iptr (enc t x)
 | .fn g,_,_=>.lit (.func (.func g) #[] #[])
 | .nil0,_,_=>.lit (.slice none 0 0)
 | .val,x,_=>.lit x
 | .nilI,_,_=>.lit .nilIface
 | .clo g ts,x,_=>.clo (.func g) [] (ZX ts x)
 | .win j sz,x,_=>.win j x.1 x.2 sz
 | .bown _ _ _,_,n=>.hptr n 0
 | .bque _ _ _,_,n=>.hptr n 0
 | .bag _ _ _ _ _,_,n=>.hptr n 0
 | .bag2 _ _ _ _ _ _,_,n=>.hptr n 0
 | .hnd sz,x,_=>.row x.1 x.2.1 x.2.2 sz
 | .mpk j,_,_=>.mp j
 | .ar _ _,_,_=>.junk
def bD9:(k:Kd)->k.den->Nat->Heap
 | .own e t,l,_=>[some ⟨aI t l,e,true,false,some ⟨t,l⟩⟩]
 | .box e t,x,_=>[some ⟨enc t x,e,false,false,none⟩]
 | .bown e et t,l,n=>[some ⟨[.own (n+1) t.size],e,false,false,none⟩,some ⟨aI t l,et,true,false,some ⟨t,l⟩⟩]
 | .bque e et t,l,n=>[some ⟨[.qs (n+1) t.size],e,false,false,none⟩,some ⟨aI t l,et,true,false,some ⟨t,l⟩⟩]
 | .bag e t1 et t t2,x,n=>[some ⟨enc t1 x.1++.own (n+1) t.size::bC2 t2 x.2.2,e,false,false,none⟩,some ⟨aI t x.2.1,et,true,false,some ⟨t,x.2.1⟩⟩]
 | .bag2 e t1 et t eu u,x,n=>[some ⟨enc t1 x.1++[.own (n+1) t.size,.own (n+2) u.size],e,false,false,none⟩,some ⟨aI t x.2.1,et,true,false,some ⟨t,x.2.1⟩⟩,some ⟨aI u x.2.2,eu,true,false,some ⟨u,x.2.2⟩⟩]
 | .ar e t,l,_=>[some ⟨aI (.rows t) l,e,false,false,some ⟨.rows t,l⟩⟩]
 | .int _,_,_|.bool,_,_|.str,_,_|.list _,_,_|.agg _,_,_|.ptr _,_,_|.fn _,_,_|.nil0,_,_|.val,_,_|.nilI,_,_|.clo _ _,_,_|.win _ _,_,_|.hnd _,_,_|.mpk _,_,_=>[]
def CD:(sh:List (Nat×Kd))->Shape.den sh->Nat->Frm
 | [],_,_=>[]
 | (t,k)::r,(x,xs),n=>(t,B8 k x n)::CD r xs (n+k.pos)
def aQJ:(sh:List (Nat×Kd))->Shape.den sh->Nat->Heap
 | [],_,_=>[]
 | (_,k)::r,(x,xs),n=>bD9 k x n++aQJ r xs (n+k.pos)
def NC sh (x:Shape.den sh):Heap:=aQJ sh x 0
def EY(e:TypeId)(t:Ty)(p:PV)(H:Heap)(n:Nat):Option (List t.den) :=
 match p with
 | .own s sz=>bif Nat.beq s n&&Nat.beq sz t.size then match gS H n with
  | some k=>match k.tag with
   | some g=>match AY g.t t g.l with
    | some l=>bif Nat.beq k.ty e&&k.grown&&!k.frozen then some l else none
    | none=>none
   | none=>none
  | none=>none
  else none
 | _=>none
def aPB(e:TypeId)(t:Ty)(p:PV)(H:Heap)(n:Nat):Option t.den :=
 match p with
 | .hptr s off=>bif Nat.beq s n&&Nat.beq off 0 then match gS H n with
  | some k=>bif Nat.beq k.ty e&&!k.grown&&!k.frozen&&!k.tag.isSome then dec t k.cells else none
  | none=>none
  else none
 | _=>none
def aG7(e et:TypeId)(t:Ty)(p:PV)(H:Heap)(n:Nat):Option (List t.den) :=
 match p with
 | .hptr s off=>bif Nat.beq s n&&Nat.beq off 0 then match gS H n with
  | some k=>bif Nat.beq k.ty e&&!k.grown&&!k.frozen&&!k.tag.isSome then match k.cells with
   | [.own r sz]=>EY et t (.own r sz) H (n+1)
   | _=>none
   else none
  | none=>none
  else none
 | _=>none
def aHS(e et:TypeId)(t:Ty)(p:PV)(H:Heap)(n:Nat):Option (List t.den) :=
 match p with
 | .hptr s off=>bif Nat.beq s n&&Nat.beq off 0 then match gS H n with
  | some k=>bif Nat.beq k.ty e&&!k.grown&&!k.frozen&&!k.tag.isSome then match k.cells with
   | [.own r sz]=>bif Nat.beq sz t.size then EY et t (.own r sz) H (n+1) else none
   | [.qs r sz]=>bif Nat.beq sz t.size then EY et t (.own r sz) H (n+1) else none
   | _=>none
   else none
  | none=>none
  else none
 | _=>none
def bE7:(t:Option Ty)->List PV->Option (bAX t)
 | none,cs=>match cs with
  | []=>some ()
  | _::_=>none
 | some t,cs=>dec t cs
def aPH(e:TypeId)(t1:Ty)(et:TypeId)(t:Ty) t2 (p:PV)(H:Heap)(n:Nat):Option (t1.den×List t.den×bAX t2) :=
 match p with
 | .hptr s off=>bif Nat.beq s n&&Nat.beq off 0 then match gS H n with
  | some k=>bif Nat.beq k.ty e&&!k.grown&&!k.frozen&&!k.tag.isSome then match k.cells.drop t1.size with
   | .own r sz::rest=>match dec t1 (k.cells.take t1.size),EY et t (.own r sz) H (n+1),bE7 t2 rest with
    | some a,some l,some b=>some (a,l,b)
    | _,_,_=>none
   | _=>none
   else none
  | none=>none
  else none
 | _=>none
def aHW(e:TypeId)(t1:Ty)(et:TypeId)(t:Ty)(eu:TypeId)(u:Ty)(p:PV)(H:Heap)(n:Nat):Option (t1.den×List t.den×List u.den) :=
 match p with
 | .hptr s off=>bif Nat.beq s n&&Nat.beq off 0 then match gS H n with
  | some k=>bif Nat.beq k.ty e&&!k.grown&&!k.frozen&&!k.tag.isSome then match k.cells.drop t1.size with
   | [.own r sz,.own r2 sz2]=>match dec t1 (k.cells.take t1.size),EY et t (.own r sz) H (n+1),EY eu u (.own r2 sz2) H (n+2)with
    | some a,some l,some b=>some (a,l,b)
    | _,_,_=>none
   | _=>none
   else none
  | none=>none
  else none
 | _=>none
def a2J(e:TypeId)(t:Ty)(H:Heap)(n:Nat):Option (List (List t.den)):=match gS H n with
 | some k=>match k.tag with
  | some g=>match AY g.t (.rows t) g.l with
   | some l=>bif Nat.beq k.ty e&&!k.grown&&!k.frozen then some l else none
   | none=>none
  | none=>none
 | none=>none
def a0O(t:Ty):PV->Option t.den
 | .agg cs=>dec t cs
 | _=>none
def aUS(t:Ty):PV->Option t.den
 | .iptr cs=>dec t cs
 | _=>none
def bCZ:(ts:List Ty)->List PV->Option (aBD ts)
 | [],[]=>some ()
 | t::r,p::ps=>match aUS t p with
  | some x=>match bCZ r ps with
   | some xs=>some (x,xs)
   | none=>none
  | none=>none
 | _,_=>none
def a8L(j:Nat):PV->Option Unit
 | .mp i=>bif Nat.beq i j then some () else none
 | _=>none
def a6V(g:FuncId):PV->Option Unit
 | .lit (.func (.func f) first caps)=>bif Nat.beq f g&&Nat.beq first.size 0&&Nat.beq caps.size 0 then some () else none
 | _=>none
def aYP:PV->Option Unit
 | .lit (.slice none o c)=>bif Nat.beq o 0&&Nat.beq c 0 then some () else none
 | _=>none
def a0L:PV->Option Value
 | .lit v=>some v
 | _=>none
def aS5:PV->Option Unit
 | .lit .nilIface=>some ()
 | _=>none
theorem aH1 {p x}(h:a0L p=some x):p=.lit x:=by
 unfold a0L at h;grind
theorem aEA {p x}(h:aS5 p=some x):p=.lit .nilIface:=by
 unfold aS5 at h;grind
def aS0(g:FuncId) ts:PV->Option (aBD ts)
 | .clo (.func f) [] caps=>bif Nat.beq f g then bCZ ts caps else none
 | _=>none
def aYQ(j sz:Nat):PV->Option (Nat×Nat)
 | .win r lo n s=>bif Nat.beq r j&&Nat.beq s sz then some (lo,n) else none
 | _=>none
def aDM:(k:Kd)->PV->Heap->Nat->Option k.den
 | .int k,p,_,_=>aT3 k [p]
 | .bool,p,_,_=>aL3 [p]
 | .str,p,_,_=>aT7 [p]
 | .list t,p,_,_=>dec (.list t) [p]
 | .agg t,p,_,_=>a0O t p
 | .own e t,p,H,n=>EY e t p H n
 | .box e t,p,H,n=>aPB e t p H n
 | .ptr t,p,_,_=>aUS t p
 | .fn g,p,_,_=>a6V g p
 | .nil0,p,_,_=>aYP p
 | .val,p,_,_=>a0L p
 | .nilI,p,_,_=>aS5 p
 | .clo g ts,p,_,_=>aS0 g ts p
 | .win j sz,p,_,_=>aYQ j sz p
 | .bown e et t,p,H,n=>aG7 e et t p H n
 | .bque e et t,p,H,n=>aHS e et t p H n
 | .bag e t1 et t t2,p,H,n=>aPH e t1 et t t2 p H n
 | .bag2 e t1 et t eu u,p,H,n=>aHW e t1 et t eu u p H n
 | .hnd sz,p,_,_=>aUL sz [p]
 | .mpk j,p,_,_=>a8L j p
 | .ar e t,_,H,n=>a2J e t H n
def a6T:(sh:List (Nat×Kd))->Frm->Heap->Nat->Option (Shape.den sh)
 | [],_,_,_=>some ()
 | (t,k)::r,F,H,n=>match aDM k (bM F t) H n with
  | some x=>match a6T r F H (n+k.pos)with
   | some xs=>some (x,xs)
   | none=>none
  | none=>none
def aPJ:List (Nat×Kd)->List (Nat×TypeId×Option Ty)
 | []=>[]
 | (t,.own e ty)::r=>(t,e,some ty)::aPJ r
 | (t,.box e _)::r=>(t,e,none)::aPJ r
 | (t,.ar e ty)::r=>(t,e,some (.rows ty))::aPJ r
 | _::r=>aPJ r
def slotsOf:List (Nat×Kd)->List Nat
 | []=>[]
 | (t,_)::r=>t::slotsOf r
def aQC:List (Nat×Kd)->Nat
 | []=>0
 | (_,k)::r=>k.pos+aQC r
def a71(e:TypeId) (ty:Ty) (H:Heap):PV->Option (PV×Heap)
 | .win s lo n sz=>bif Nat.beq lo 0&&Nat.beq sz ty.size then match EY e ty (.own s sz) H s with
   | some l=>some (.own H.length sz,(H.set s none)++[some ⟨aI ty (l.take n),e,true,false,some ⟨ty,l.take n⟩⟩])
   | none=>none
  else none
 | _=>none
def B6:List (Nat×Kd)->Frm->Heap->Frm×Heap
 | [],F,H=>(F,H)
 | (t,.list _)::r,F,H=>match bM F t with
  | .own s _=>match gS H s with
   | some k=>match k.tag with
    | some g=>bif k.frozen then B6 r ((t,q9 g.t g.l none)::F) H else B6 r ((t,q9 g.t g.l none)::F) (H.set s (some { k with frozen:=true }))
    | none=>B6 r F H
   | none=>B6 r F H
  | _=>B6 r F H
 | (t,.hnd sz)::r,F,H=>match bM F t with
  | .own s sz2=>bif Nat.beq sz2 sz then match aUE H sz s with
   | some (q,H1)=>B6 r ((t,q)::F) H1
   | none=>B6 r F H
   else B6 r F H
  | _=>B6 r F H
 | (t,.own e ty)::r,F,H=>match a71 e ty H (bM F t)with
  | some (q,H1)=>B6 r ((t,q)::F) H1
  | none=>B6 r F H
 | _::r,F,H=>B6 r F H
def QR(sh:List (Nat×Kd)) (F:Frm) (H:Heap):Option (Shape.den sh) :=
 match B6 sh F H with
 | (F1,H1)=>match tidy ⟨slotsOf sh,aPJ sh,0⟩ F1 H1 with
  | some (F',H')=>bif Nat.beq H'.length (aQC sh) then a6T sh F' H' 0 else none
  | none=>none
section
variable {P:Program} {n0:Nat->Prop} {w wi:World} {G Gi:Gd} {μ μi μ':Mp} {H:Heap} {F:Frm} {a:Act} {nt:Nat}
theorem nP(hW:aO n0 G μ H w){e t p n l}(h:EY e t p H n=some l):p=.own n t.size/\H[n]?=some (some ⟨aI t l,e,true,false,some ⟨t,l⟩⟩):=by
 unfold EY at h;split at h
 next s sz=>
  replace h:=aJ h;obtain⟨hb,h⟩:=h;simp only[oA]at hb;have h1:=oE hb.1;have h2:=oE hb.2;subst h1; subst h2;split at h
  next k hk=>
   split at h
   ·rename_i g hg;split at h
    ·rename_i l' hc;obtain⟨hb,h⟩:=aJ h;simp only[oA]at hb;simp only[oJ]at h;subst h;have ht:=(hW.tags s k g (aH hk) hg).1;obtain⟨rfl,rfl⟩:=lF hc;rw[aH hk];obtain⟨k1,k2,k3,k4,k5⟩:=k
     simp_all
    ·cases h
   ·cases h
  ·cases h
 ·cases h
theorem aP1(hW:aO n0 G μ H w){e et t p n l}(h:aG7 e et t p H n=some l) :
  p=.hptr n 0/\H[n]?=some (some ⟨[.own (n+1) t.size],e,false,false,none⟩)/\H[n+1]?=some (some ⟨aI t l,et,true,false,some ⟨t,l⟩⟩):=by
 unfold aG7 at h;split at h
 next s off=>
  replace h:=aJ h;obtain⟨hb,h⟩:=h;simp only[oA]at hb;have h1:=oE hb.1;have h2:=oE hb.2;subst h1; subst h2;refine⟨rfl,?_⟩;split at h
  next k hk=>
   replace h:=aJ h;obtain⟨hc,h⟩:=h;simp only[oA,Bool.not_eq_true']at hc;obtain⟨⟨⟨c1,c2⟩,c3⟩,c4⟩:=hc;split at h
   ·rename_i r sz hcs;obtain⟨h3,h4⟩:=nP hW h;cases h3;rw[aH hk];obtain⟨k1,k2,k3,k4,k5⟩:=k
    simp_all
   ·cases h
  ·cases h
 ·cases h
def a6K(k k':Blk):Prop:=k.tag=none/\k'.ty=k.ty/\k'.grown=k.grown/\k'.frozen=k.frozen/\k'.tag=none/\∀ (w:World) (G:Gd) (μ:Mp) (b o:Nat),aL w G μ b o k.cells->aL w G μ b o k'.cells/\k'.cells.length=k.cells.length
def aUC(a b:Option (Option Blk)):Prop:=a=b\/∃ k k',a=some (some k)/\b=some (some k')/\a6K k k'
theorem aO.a1X (hW:aO n0 G μ H w){H'}(h:∀ r:Nat,aUC H[r]? H'[r]?):aO n0 G μ H' w:=by
 have key:∀ (r:Nat) (k':Blk),H'[r]?=some (some k')->∃ k,H[r]?=some (some k)/\(k=k'\/a6K k k')/\k'.frozen=k.frozen:=by
  intro r k' hr;rcases h r with h1|⟨k,k2,h1,h2,h3⟩
  ·grind
  ·rw[hr]at h2;cases h2;exact⟨k,h1,.inr h3,h3.2.2.2.1⟩
 refine⟨?_,?_,?_,hW.lt,?_,hW.base,hW.rows.step (Mono.refl _ _ _) (oM _) (λ_=>rfl) (λj b hj=>⟨rfl,id,λr k' hr hf hl=>?_⟩) (λr k' t l hr hg ht=>?_)⟩
 case refine_5 =>
  grind
 case refine_6 =>
  obtain⟨k,h1,h2,h3⟩:=key r k' hr;rcases h2 with rfl|⟨_,_,_,_,e4,_⟩
  ·grind
  ·grind
 ·intro r k' b hr hb;obtain⟨k,h1,h2,h3⟩:=key r k' hr;obtain⟨c,a1,a2,a3,a4⟩:=hW.blk r k b h1 hb;rcases h2 with rfl|⟨_,e1,e2,e3,_,e5⟩
  ·grind
  ·grind
 ·intro r k' g hr hg;obtain⟨k,h1,h2,_⟩:=key r k' hr;rcases h2 with rfl|⟨_,_,_,_,e4,_⟩
  ·exact hW.tags r k g h1 hg
  ·grind
 ·intro r s k l b hr hs fk fl m1 m2;obtain⟨k1,h1,_,h3⟩:=key r k hr;obtain⟨l1,h4,_,h6⟩:=key s l hs;exact hW.inj r s k1 l1 b h1 h4 (by rw[<- h3]; exact fk) (by rw[<- h6]; exact fl) m1 m2
 ·intro r hr;refine hW.top r ?_;rcases oG r H.length with hl|hl
  ·rcases h r with h1|⟨k,k',_,h2,_⟩
   ·grind
   ·grind
  ·exact hl
theorem aP6(hW:aO n0 G μ H w){e et t p n l}(h:aHS e et t p H n=some l) :
  p=.hptr n 0/\aUC H[n]? (some (some ⟨[.qs (n+1) t.size],e,false,false,none⟩))/\H[n+1]?=some (some ⟨aI t l,et,true,false,some ⟨t,l⟩⟩):=by
 unfold aHS at h;split at h
 ·replace h:=aJ h;obtain⟨hb,h⟩:=h;simp only[oA]at hb;have h1:=oE hb.1;have h2:=oE hb.2;subst h1; subst h2;refine⟨rfl,?_⟩;split at h
  next k hk=>
   replace h:=aJ h;obtain⟨hc,h⟩:=h;simp only[oA,Bool.not_eq_true']at hc;obtain⟨⟨⟨c1,c2⟩,c3⟩,c4⟩:=hc;have c1:=oE c1;split at h
   next r sz hcs=>obtain⟨_,h⟩:=aJ h;obtain⟨h3,h4⟩:=nP hW h;cases h3;refine⟨.inr ⟨k,_,aH hk,rfl,by simpa using c4,c1.symm,c2.symm,c3.symm,rfl,?_⟩,h4⟩;intro w G μ b o hc;rw[hcs]at hc ⊢;obtain⟨⟨v,u1,u2⟩,_⟩:=hc;refine⟨?_,rfl⟩;exact⟨⟨v,u1,a0B u2⟩,trivial⟩
   ·rename_i r sz hcs;obtain⟨_,h⟩:=aJ h;obtain⟨h3,h4⟩:=nP hW h;cases h3;refine⟨?_,h4⟩;rw[aH hk];obtain⟨k1,k2,k3,k4,k5⟩:=k;dsimp only at c1 c2 c3 c4 hcs;rw[hcs,c1,c2,c3];cases k5 with
    | none=>exact .inl rfl
    | some g=>simp at c4
   ·cases h
  ·cases h
 ·cases h
theorem aUP {e t p n x}(h:aPB e t p H n=some x):p=.hptr n 0/\aUC H[n]? (some (some ⟨enc t x,e,false,false,none⟩)):=by
 unfold aPB at h;split at h
 ·replace h:=aJ h;obtain⟨hb,h⟩:=h;simp only[oA]at hb;have h1:=oE hb.1;have h2:=oE hb.2;subst h1; subst h2;refine⟨rfl,?_⟩;split at h
  next k hk=>obtain⟨hc,h⟩:=aJ h;simp only[oA,Bool.not_eq_true']at hc;obtain⟨⟨⟨c1,c2⟩,c3⟩,c4⟩:=hc;have c1:=oE c1;refine .inr ⟨k,_,aH hk,rfl,by simp_all,c1.symm,c2.symm,c3.symm,rfl,?_⟩;intro w G μ b o hc;obtain⟨vs,d1,d2⟩:=hc.values;have d3:=yH t μ k.cells x vs h d1;exact⟨aL.nZ d3.aV d2,by rw[d3.length,d1.length]⟩
  grind
 grind
theorem bAU t μ cs x vs (h:bE7 t cs=some x)(hv:VRs w G μ cs vs):VRs w G aG (bC2 t x) vs:=by
 cases t with
 | none =>
  cases cs with
  | nil=>exact hv
  | cons p ps=>cases h
 | some t=>exact yH t μ cs x vs h hv
theorem aUF(hW:aO n0 G μ H w){e t1 et t t2 p n x}(h:aPH e t1 et t t2 p H n=some x) :
  p=.hptr n 0/\aUC H[n]? (some (some ⟨enc t1 x.1++.own (n+1) t.size::bC2 t2 x.2.2,e,false,false,none⟩))/\H[n+1]?=some (some ⟨aI t x.2.1,et,true,false,some ⟨t,x.2.1⟩⟩):=by
 unfold aPH at h;split at h
 next s off=>
  replace h:=aJ h;obtain⟨hb,h⟩:=h;simp only[oA]at hb;have h1:=oE hb.1;have h2:=oE hb.2;subst h1; subst h2;refine⟨rfl,?_⟩;split at h
  next k hk=>
   obtain⟨hc,h⟩:=aJ h;simp only[oA,Bool.not_eq_true']at hc;obtain⟨⟨⟨c1,c2⟩,c3⟩,c4⟩:=hc;have c1:=oE c1;split at h
   ·rename_i r sz rest hd;split at h
    ·rename_i xa xl xb ha hl hbb;simp only[oJ]at h;subst h;obtain⟨h3,h4⟩:=nP hW hl;cases h3;refine⟨.inr ⟨k,_,aH hk,rfl,by simpa using c4,c1.symm,c2.symm,c3.symm,rfl,?_⟩,h4⟩;intro w G μ b o hc;obtain⟨vs,d1,d2⟩:=hc.values;have d3:=d1.take t1.size;have d4:=d1.drop t1.size;rw[hd,VRs]at d4;obtain⟨v,vc,e1,d5,d6⟩:=d4;have d7:=yH t1 μ _ xa _ ha d3;have d8:=bAU t2 μ _ xb vc hbb d6;have d9:VRs w G μ (enc t1 xa++.own (s+1) t.size::bC2 t2 xb) (vs.take t1.size++v::vc):=VRs.append d7.aV (by rw[VRs]; exact⟨v,vc,rfl,d5,d8.aV⟩)
     rw[<- e1,List.take_append_drop]at d9;exact⟨aL.nZ d9 d2,by rw[d9.length,d1.length]⟩
    ·cases h
   ·cases h
  ·cases h
 ·cases h
theorem aP7(hW:aO n0 G μ H w){e t1 et t eu u p n x}(h:aHW e t1 et t eu u p H n=some x) :
  p=.hptr n 0/\aUC H[n]? (some (some ⟨enc t1 x.1++[.own (n+1) t.size,.own (n+2) u.size],e,false,false,none⟩))/\H[n+1]?=some (some ⟨aI t x.2.1,et,true,false,some ⟨t,x.2.1⟩⟩)/\H[n+2]?=some (some ⟨aI u x.2.2,eu,true,false,some ⟨u,x.2.2⟩⟩):=by
 unfold aHW at h;split at h
 next s off=>
  replace h:=aJ h;obtain⟨hb,h⟩:=h;simp only[oA]at hb;have h1:=oE hb.1;have h2:=oE hb.2;subst h1; subst h2;refine⟨rfl,?_⟩;split at h
  next k hk=>
   obtain⟨hc,h⟩:=aJ h;simp only[oA,Bool.not_eq_true']at hc;obtain⟨⟨⟨c1,c2⟩,c3⟩,c4⟩:=hc;have c1:=oE c1;split at h
   ·rename_i r sz r2 sz2 hd;split at h
    ·rename_i xa xl xb ha hl hbb;simp only[oJ]at h;subst h;obtain⟨h3,h4⟩:=nP hW hl;cases h3;obtain⟨h5,h6⟩:=nP hW hbb;cases h5;refine⟨.inr ⟨k,_,aH hk,rfl,by simpa using c4,c1.symm,c2.symm,c3.symm,rfl,?_⟩,h4,h6⟩;intro w G μ b o hc;obtain⟨vs,d1,d2⟩:=hc.values;have d3:=d1.take t1.size;have d4:=d1.drop t1.size;rw[hd]at d4;have d7:=yH t1 μ _ xa _ ha d3;have d9:VRs w G μ (enc t1 xa++[.own (s+1) t.size,.own (s+2) u.size]) (vs.take t1.size++vs.drop t1.size):=VRs.append d7.aV d4
     rw[List.take_append_drop]at d9;exact⟨aL.nZ d9 d2,by rw[d9.length,d1.length]⟩
    ·cases h
   ·cases h
  ·cases h
 ·cases h
theorem aW3 {g:Tg}{b l'}(h:AY g.t b g.l=some l'):g=⟨b,l'⟩:=by
 obtain⟨a,l⟩:=g;unfold AY at h;grind
theorem aWF(hW:aO n0 G μ H w){e t n l}(h:a2J e t H n=some l):H[n]?=some (some ⟨aI (.rows t) l,e,false,false,some ⟨.rows t,l⟩⟩):=by
 unfold a2J at h;split at h
 next k hk=>
  split at h
  next g hg=>
   split at h
   next l' hc=>obtain⟨hb,h⟩:=aJ h;simp only[oA]at hb;simp only[oJ]at h;have hb3:=oE hb.1.1;have ht:=(hW.tags n k g (aH hk) hg).1;have hge:=aW3 hc;rw[<- h,aH hk];obtain⟨k1,k2,k3,k4,k5⟩:=k;grind
   grind
  grind
 grind
theorem Y1 {t p x v}(h:aUS t p=some x)(hv:VR w G μ p v):VR w G aG (.iptr (enc t x)) v:=by
 unfold aUS at h;split at h
 next cs=>obtain⟨b,off,h1,h2,h3⟩:=hv;obtain⟨vs,d1,d2⟩:=h3.values;exact⟨b,off,h1,h2,aL.nZ (yH t aG cs x vs h d1) d2⟩
 grind
theorem aNB:∀ ts {ps x vs},bCZ ts ps=some x->VRs w G μ ps vs->VRs w G aG (ZX ts x) vs
 | [],[],x,vs,h,hv=>by simp only[ZX]; exact hv
 | [],_::_,x,vs,h,hv=>by cases h
 | _::_,[],x,vs,h,hv=>by cases h
 | t::r,p::ps,x,vs,h,hv=>by
  simp only[bCZ]at h;split at h
  next y hy=>
   split at h
   next ys hys=>simp only[oJ]at h;subst h;obtain⟨u,us,h1,h2,h3⟩:=hv;exact⟨u,us,h1,Y1 hy h2,aNB r hys h3⟩
   grind
  grind
theorem aGS {p x}(h:aYP p=some x):p=.lit (.slice none 0 0):=by
 unfold aYP at h;split at h
 next o c=>
  cases hb:(Nat.beq o 0&&Nat.beq c 0)with
  | false=>grind
  | true =>
   simp_all
 grind
theorem aJY {j p x}(h:a8L j p=some x):p=.mp j:=by
 unfold a8L at h;split at h
 ·rw[oE (aJ h).1]
 grind
theorem UD {g p x}(h:a6V g p=some x):p=.lit (.func (.func g) #[] #[]):=by
 unfold a6V at h;split at h
 ·replace h:=(aJ h).1
  simp_all
 grind
theorem QI {g ts p x v}(h:aS0 g ts p=some x)(hv:VR w G μ p v):VR w G aG (.clo (.func g) [] (ZX ts x)) v:=by
 unfold aS0 at h;split at h
 ·have h1:=oE (aJ h).1;have h2:=(aJ h).2;subst h1;obtain⟨fs,cs,e1,e2,e3⟩:=hv;exact⟨fs,cs,e1,e2,aNB ts h2 e3⟩
 grind
theorem aHJ {j sz p x}(h:aYQ j sz p=some x):p=.win j x.1 x.2 sz:=by
 unfold aYQ at h;split at h
 ·replace h:=aJ h;obtain⟨hb,h⟩:=h;simp only[oA]at hb;have h1:=oE hb.1;have h2:=oE hb.2;grind
 grind
theorem a0E(hW:aO n0 G μ H w):∀ k {p n x v},aDM k p H n=some x->VR w G μ p v->VR w G μ (B8 k x n) v/\∀ i ,i<k.pos->aUC H[n+i]? (bD9 k x n)[i]?
 | .int k,p,n,x,v,h,hv=>by
  have:=aBJ h;simp only[List.cons.injEq,and_true]at this;subst this;exact⟨hv,λi hi=>absurd hi (Nat.not_lt_zero _)⟩
 | .bool,p,n,x,v,h,hv=>by
  have:=YZ h;simp only[List.cons.injEq,and_true]at this;subst this;exact⟨hv,λi hi=>absurd hi (Nat.not_lt_zero _)⟩
 | .str,p,n,x,v,h,hv=>by
  have:=aAO h;simp only[List.cons.injEq,and_true]at this;subst this;exact⟨hv,λi hi=>absurd hi (Nat.not_lt_zero _)⟩
 | .list t,p,n,x,v,h,hv=>by
  have:=yH (.list t) μ [p] x [v] h (by rw[VRs]; exact⟨v,[],rfl,hv,by rw[VRs]⟩);refine⟨?_,λi hi=>absurd hi (Nat.not_lt_zero _)⟩;simp only[enc]at this;obtain⟨y,ys,h1,h2,_⟩:=this;cases h1;exact h2.aV
 | .agg t,p,n,x,v,h,hv=>by
  refine⟨?_,λi hi=>absurd hi (Nat.not_lt_zero _)⟩;simp only[aDM]at h;unfold a0O at h;split at h
  next cs=>rw[VR]at hv;obtain⟨vs,rfl,h2⟩:=hv;simp only[B8];rw[VR];exact⟨vs,rfl,(yH t μ cs x vs.toList h h2).aV⟩
  ·cases h
 | .own e t,p,n,x,v,h,hv=>by
  obtain⟨rfl,h2⟩:=nP hW h;refine⟨hv,λi hi=>?_⟩;simp only[Kd.pos]at hi;have:i=0:=Z
  subst this;simp only[Nat.add_zero,h2];exact .inl rfl
 | .box e t,p,n,x,v,h,hv=>by
  obtain⟨rfl,h2⟩:=aUP h;refine⟨hv,λi hi=>?_⟩;simp only[Kd.pos]at hi;have:i=0:=Z
  subst this;exact h2
 | .ptr t,p,n,x,v,h,hv=>⟨(Y1 h hv).aV,λi hi=>absurd hi (Nat.not_lt_zero _)⟩
 | .fn g,p,n,x,v,h,hv=>by
  have:=UD h;subst this;exact⟨hv,λi hi=>absurd hi (Nat.not_lt_zero _)⟩
 | .mpk j,p,n,x,v,h,hv=>by
  have:=aJY h;subst this;exact⟨hv,λi hi=>absurd hi (Nat.not_lt_zero _)⟩
 | .nil0,p,n,x,v,h,hv=>by
  have:=aGS h;subst this;exact⟨hv,λi hi=>absurd hi (Nat.not_lt_zero _)⟩
 | .val,p,n,x,v,h,hv=>by
  have:=aH1 (p:=p) (x:=x) h;subst this;exact⟨hv,λi hi=>absurd hi (Nat.not_lt_zero _)⟩
 | .nilI,p,n,x,v,h,hv=>by
  have:=aEA (p:=p) (x:=x) h;subst this;exact⟨hv,λi hi=>absurd hi (Nat.not_lt_zero _)⟩
 | .clo g ts,p,n,x,v,h,hv=>⟨(QI h hv).aV,λi hi=>absurd hi (Nat.not_lt_zero _)⟩
 | .win j sz,p,n,x,v,h,hv=>by
  have:=aHJ h;subst this;exact⟨hv,λi hi=>absurd hi (Nat.not_lt_zero _)⟩
 | .bown e et t,p,n,x,v,h,hv=>by
  obtain⟨rfl,h2,h3⟩:=aP1 hW h;refine⟨hv,λi hi=>?_⟩;simp only[Kd.pos]at hi;rcases(show i=0\/i=1 by omega)with rfl|rfl
  ·simp only[Nat.add_zero,h2];exact .inl rfl
  ·simp only[h3];exact .inl rfl
 | .bque e et t,p,n,x,v,h,hv=>by
  obtain⟨rfl,h2,h3⟩:=aP6 hW h;refine⟨hv,λi hi=>?_⟩;simp only[Kd.pos]at hi;rcases(show i=0\/i=1 by omega)with rfl|rfl
  ·exact h2
  ·simp only[h3];exact .inl rfl
 | .bag e t1 et t t2,p,n,x,v,h,hv=>by
  obtain⟨rfl,h2,h3⟩:=aUF hW h;refine⟨hv,λi hi=>?_⟩;simp only[Kd.pos]at hi;rcases(show i=0\/i=1 by omega)with rfl|rfl
  ·exact h2
  ·simp only[h3];exact .inl rfl
 | .bag2 e t1 et t eu u,p,n,x,v,h,hv=>by
  obtain⟨rfl,h2,h3,h4⟩:=aP7 hW h;refine⟨hv,λi hi=>?_⟩;simp only[Kd.pos]at hi;rcases(show i=0\/i=1\/i=2 by omega)with rfl|rfl|rfl
  ·exact h2
  ·simp only[h3];exact .inl rfl
  ·simp only[h4];exact .inl rfl
 | .hnd sz,p,n,x,v,h,hv=>by
  refine⟨?_,λi hi=>absurd hi (Nat.not_lt_zero _)⟩;have:=aIH (μ:=μ) (vs:=[v]) h (by rw[VRs]; exact⟨v,[],rfl,hv,by rw[VRs]⟩);rw[VRs]at this;obtain⟨y,ys,h1,h2,_⟩:=this;cases h1;exact h2.aV
 | .ar e t,p,n,x,v,h,hv=>by
  have h2:=aWF hW h;refine⟨by simp only[B8]; rw[VR]; trivial,λi hi=>?_⟩;simp only[Kd.pos]at hi;have:i=0:=Z
  subst this;simp only[Nat.add_zero,h2];exact .inl rfl
theorem TY:∀ k x n,(bD9 k x n).length=k.pos
 | .int _,_,_|.bool,_,_|.str,_,_|.list _,_,_|.agg _,_,_|.ptr _,_,_|.fn _,_,_|.nil0,_,_|.val,_,_|.nilI,_,_|.clo _ _,_,_|.win _ _,_,_|.hnd _,_,_|.mpk _,_,_=>rfl
 | .ar _ _,_,_=>rfl
 | .own _ _,_,_=>rfl
 | .box _ _,_,_=>rfl
 | .bown _ _ _,_,_=>rfl
 | .bque _ _ _,_,_=>rfl
 | .bag _ _ _ _ _,_,_=>rfl
 | .bag2 _ _ _ _ _ _,_,_=>rfl
theorem aGK:∀ sh x n,(aQJ sh x n).length=aQC sh
 | [],_,_=>rfl
 | (_,k)::r,(x,xs),n=>by simp only[aQJ,oH,TY,aGK r xs,aQC]
theorem aKL sh x:(NC sh x).length=aQC sh:=aGK sh x 0
theorem aFS(hW:aO n0 G μ H w)(hF:∀ t,VR w G μ (bM F t) (a.tmps.getD t undef)):∀ sh {n x},a6T sh F H n=some x->(∀ t,VR w G μ (bM (CD sh x n) t) (a.tmps.getD t undef))/\∀ i ,i<aQC sh->aUC H[n+i]? (aQJ sh x n)[i]?
 | [],n,x,h=>⟨λt=>by simp only[CD,bM]; rw[VR]; trivial,λi hi=>absurd hi (Nat.not_lt_zero _)⟩
 | (t,k)::r,n,x,h=>by
  simp only[a6T]at h;split at h
  next y hy=>
   split at h
   ·rename_i ys hys;simp only[oJ]at h;subst h;obtain⟨h1,h2⟩:=a0E hW k hy (hF t);obtain⟨h3,h4⟩:=aFS hW hF r hys;refine⟨λs=>?_,λi hi=>?_⟩
    ·simp only[CD];rw[bT];grind
    ·simp only[aQJ];rcases oG i k.pos with hl|hl
     ·rw[List.getElem?_append_left (by rw[TY]; exact hl)];grind
     ·rw[List.getElem?_append_right (by rw[TY]; exact hl),TY];have:=h4 (i-k.pos) (by simp only[aQC]at hi; omega);grind
   ·cases h
  ·cases h
theorem aXL(hW:aO n0 G μ H w){e ty p q H1 v}(h:a71 e ty H p=some (q,H1))(hv:VR w G μ p v) :
  ∃ μ',Ext n0 w G μ w G μ'/\aO n0 G μ' H1 w/\VR w G μ' q v:=by
 unfold a71 at h;split at h
 next r lo n sz=>
  obtain⟨hb,hh⟩:(Nat.beq lo 0&&Nat.beq sz ty.size)=true/\(match EY e ty (.own r sz) H r with
   | some l=>some (PV.own H.length sz,(H.set r none)++[some (⟨aI ty (l.take n),e,true,false,some ⟨ty,l.take n⟩⟩:Blk)])
   | none=>none)=some (q,H1):=by
   grind
  rw[oA]at hb;have h0:=oE hb.1;have h1:=oE hb.2;subst h0; subst h1;split at hh
  next l hl=>
   obtain⟨rfl,rfl⟩:=hh;obtain⟨_,hr⟩:=nP hW hl;obtain⟨b,c,m,a1,a2,a3,a4,a5,a6,_,a7⟩:=hv;have ht:=(hW.tags r _ _ hr rfl).2;rw[ht]at a5;cases a5;have hlen:(l.take n).length=n:=by rw[List.length_take]; change 0+n<=l.length at a6; omega
   have hk:=rP hW r;have hl':(H.set r none).length=H.length:=R
   have e0:=HY hW (some b) (some n);have e2:Ext n0 w G μ w G (upd μ (H.set r none).length (some b) (some n)):=by rw[hl']; exact e0
   refine⟨_,e0,?_,?_⟩
   ·have:=JB hk e2 ⟨aI ty (l.take n),e,true,false,some ⟨ty,l.take n⟩⟩ (λ_ _ _ _ _=>rfl) ?_ ?_ ?_ (LZ hk e2 (λt l h1 h2=>by cases h1) (λ_ _ _=>rfl) (λj b1 hj hf hh=>by cases hh; exact(hW.rows.sep j b hj).2.2.2 r _ hr rfl a1))
    ·grind
    ·rintro b' hb';cases hb';obtain⟨c1,h2,h3,h4⟩:=hW.blk r _ b hr a1;rw[a7]at h3;refine⟨c1,h2,?_,λh=>(by cases h),λh=>(by cases h),h4.2.2⟩;have h5:=aL.mono e2.toMono rfl _ _ h3;refine aL.mk λi p hp=>?_
     rw[<- qQ]at hp;have hi:i<(aI ty l).length/\(aI ty l)[i]?=some p:=W
     exact h5.get hi.2
    ·grind
    ·intro s k' b' hs hf hb' hh;cases hh;obtain⟨hs1,hs2⟩:=sI hs;exact hs2 (hW.inj s r k' _ b hs1 hr hf rfl hb' a1)
   ·rw[VR,xS];refine⟨n,nV _ _ _ _,.inr ⟨b,c,jS _ _ _ _,by rw[a2,a7,Nat.zero_mul],a3,?_,rfl⟩⟩;grind
  ·cases hh
 ·cases h
theorem B4:∀ sh F H,I n0 wi Gi μi nt F H a w->I n0 wi Gi μi nt (B6 sh F H).1 (B6 sh F H).2 a w
 | [],F,H,hI=>hI
 | (t,k0)::r,F,H,hI=>by
  have skip:I n0 wi Gi μi nt (B6 r F H).1 (B6 r F H).2 a w:=B4 r F H hI;unfold B6;split
  ·exact hI
  next heq=>
   cases heq;split
   ·rename_i s sz ht;split
    ·rename_i k hk;split
     ·rename_i g hg;obtain⟨G,μ,e,hW,hF⟩:=hI;have hv:=hF.slot t;rw[ht]at hv;cases hfz:k.frozen with
      | true =>
       refine B4 r _ _ ⟨G,μ,e,hW,hF.named ?_⟩;exact(E5 hW hv hk hg (λb h=>h) (λb hb=>by
        obtain⟨_,_,_,_,h5,_⟩:=hW.blk s k b (aH hk) hb;exact h5 hfz)).aV
      | false =>
       obtain⟨e1,w1⟩:=xI hW (aH hk) hfz;refine B4 r _ _ ⟨_,μ,e.trans e1,w1,(hF.mono e1.toMono).named ?_⟩;exact(E5 (G':=G.or λx=>μ.loc s=some x) hW hv hk hg (λb h=>.inl h) (λb hb=>.inr hb)).aV
     ·grind
    ·grind
   ·grind
  next heq=>
   cases heq;split
   ·rename_i s sz2 ht;cases hsz:Nat.beq sz2 _ with
    | true =>
     have hsz:=oE hsz;subst hsz;split
     next q H1 hA=>obtain⟨G,μ,e,hW,hF⟩:=hI;have hv:=hF.slot t;rw[ht]at hv;obtain⟨G',μ',e1,w1,v1⟩:=aF9 hW hA hv;exact B4 r _ _ ⟨G',μ',e.trans e1,w1,(hF.mono e1.toMono).named v1.aV⟩
     ·grind
    | false=>exact skip
   ·grind
  next heq=>
   cases heq;split
   next q H1 hA=>obtain⟨G,μ,e,hW,hF⟩:=hI;have hv:=hF.slot t;obtain⟨μ',e1,w1,v1⟩:=aXL hW hA hv;exact B4 r _ _ ⟨G,μ',e.trans e1,w1,(hF.mono e1.toMono).named v1⟩
   ·grind
  ·grind
theorem CQ {sh x}(h:QR sh F H=some x)(hfl:∀ r,μi.loc r=none/\μi.len r=none)(hI:I n0 wi Gi μi nt F H a w):I n0 wi Gi μi nt (CD sh x 0) (NC sh x) a w:=by
 unfold QR at h;replace hI:=B4 sh F H hI;split at h;rename_i F1 H1 hd;rw[hd]at hI;split at h
 next F' H' ht=>
  obtain⟨hb,h⟩:=aJ h;obtain⟨⟨G,μ,e,hW,hF⟩,_⟩:=aPE ht (λr _=>hfl r) hI;obtain⟨h1,h2⟩:=aFS hW hF.slot sh h;have hH:∀ i:Nat,aUC H'[i]? (NC sh x)[i]?:=by
   intro i;rcases oG i (aQC sh)with hl|hl
   ·have:=h2 i hl;rwa[Nat.zero_add]at this
   ·have e1:=oE hb;exact .inl (by rw[List.getElem?_eq_none Z,List.getElem?_eq_none (by rw[aKL]; omega)])
  exact⟨G,μ,e,hW.a1X hH,hF.size,h1,hF.defers⟩
 grind
end
def ask {α:Type}(b:Bool)(k:Bool->Option α):Option α:=bif b then k true else k false
def aEZ {α:Type}:List Bool->Option α->Option α
 | [],r=>r
 | b::l,r=>bif b then aEZ l r else none
def aC {τ α:Type}(x:Option τ)(k:τ->Option α):Option α:=match x with
 | some x=>k x
 | none=>none
def mY {β γ α:Type}(z:β⊕γ)(f:β->Option α)(g:γ->Option α):Option α:=match z with
 | .inl a=>f a
 | .inr b=>g b
structure Res where
 τ:Type
 val:Option τ
 out:τ->PV
structure aGC where
 τ:Type
 val:Option τ
 out:τ->PV×Heap
structure Env where
 pure:FuncId->List PV->Option Res
 shr:FuncId->List PV->Heap->Option aGC
 sh:FuncId->Bool
def aN3(E:Env)(g:FuncId)(args:List PV):Option PV:=match E.pure g args with
 | some r=>match r.val with
  | some x=>some (r.out x)
  | none=>none
 | none=>none
def aM0(E:Env)(g:FuncId)(args:List PV)(H:Heap):Option (PV×Heap):=match E.shr g args H with
 | some r=>match r.val with
  | some x=>some (r.out x)
  | none=>none
 | none=>none
def eY(P:Program)(E:Env):Callee:=callee P E.sh (aN3 E) (aM0 E)
section
variable {α:Type} (P:Program) (E:Env)
def bBN(g:FuncId)(args:List PV)(H:Heap)(k:PV->Heap->Nat->Option α):Option α :=
 bif E.sh g then match E.shr g args H with
  | some r=>aC r.val λx=>k (r.out x).1 (r.out x).2 2
  | none=>none
 else bif dR.noRefs args then bif dV.noRows args then match E.pure g args with
  | some r=>aC r.val λx=>k (r.out x) H 0
  | none=>none
  else none
 else bif aMH P g then match YS (λp=>inl false H depth p) args with
  | some qs=>bif dV.noRows qs then match E.pure g qs with
   | some r=>aC r.val λx=>bif flat (r.out x) then k (r.out x) H 1 else none
   | none=>none
   else none
  | none=>none
 else match BU H (args.flatMap (λp=>reach H depth p))with
  | H1=>match YS (λp=>inl true H1 depth p) args with
   | some qs=>bif dV.noRows qs then match E.pure g qs with
    | some r=>aC r.val λx=>k (r.out x) H1 2
    | none=>none
    else none
   | none=>none
def a9C:Frm->Nat->Bool->Frm
 | [],_,_=>[]
 | (s,p)::r,t,b=>bif Nat.beq s t then (s,.lit (.bool b))::r else (s,p)::a9C r t b
def a4K(F:Frm)(x:Operand)(b:Bool)(k:Frm->Bool->Option α):Option α:=match x with
 | .tmp t=>ask b λb=>k (a9C F t b) b
 | _=>ask b λb=>k F b
def aYG(F:Frm)(l:List Oper)(o:Oper)(k:Frm->Bool->Option α):Option α :=
 match o.guard with
 | none=>k F true
 | some (j,want)=>match l[j]? with
  | some p=>match p.dst with
   | some t=>match bM F t with
    | .lit (.bool b)=>ask b λb=>k (a9C F t b) (bif b then want else !want)
    | .lit _=>k F false
    | _=>none
   | none=>none
  | none=>none
def bED(op:BinOp)(k1:IntKind)(a b:Int)(k:Value->Option α):Option α:=match op with
 | .quo=>bif eqI b 0 then none else k (.int k1 (aB k1 (a.tdiv b)))
 | .rem=>bif eqI b 0 then none else k (.int k1 (a.tmod b))
 | op=>match aWI op k1 a b with
  | some v=>k v
  | none=>none
def isX:BinOp->Bool
 | .add|.sub|.mul|.quo|.rem|.eql|.neq|.lss|.leq|.gtr|.geq=>true
 | _=>false
def aSU:BinOp->Bool
 | .shl|.shr=>true
 | _=>false
def a0D(op:BinOp)(k:IntKind)(x y:Int):Option Value:=match op with
 | .shl=>some (.int k (k.wrap (x*2^(min y.toNat k.bits))))
 | .shr=>some (.int k (x.fdiv (2^(min y.toNat k.bits))))
 | _=>none
def aE9(F:Frm)(H:Heap)(o:Oper)(k:Frm->PV->Heap->Nat->Option α):Option α:=match opu P (eY P E) F H o with
 | some (v,H',c)=>k F v H' c
 | none=>none
def a8K(F:Frm) (x:Operand) (k:Frm->Option α):Option α:=match ev F x with
 | .lit (.bool b)=>a4K F x b λF _=>k F
 | _=>k F
def aU7:List Operand->Frm->(Frm->Option α)->Option α
 | [],F,k=>k F
 | x::r,F,k=>a8K F x λF=>aU7 r F k
def opK(F:Frm)(H:Heap)(o:Oper)(k:Frm->PV->Heap->Nat->Option α):Option α :=
 bif typed P F o then match top P F H o with
  | some (cs,v,H',c)=>aEZ cs (k F v H' c)
  | none=>none
 else match o.op with
  | .binOp op _ x y _=>match ev F x,ev F y with
   | .lit (.int k1 a),.lit (.int k2 b)=>bif aSU op then (bif ltI b 0 then none else match a0D op k1 a b with
     | some v=>k F (.lit v) H 0
     | none=>none)
    else bif O4 k1 k2&&isX op then bED op k1 a b λv=>k F (.lit v) H 0 else aE9 P E F H o k
   | _,_=>aU7 [x,y] F λF=>aE9 P E F H o k
  | .unOp ..=>aU7 o.op.operands.toList F λF=>aE9 P E F H o k
  | .pick c a b=>match ev F c with
   | .lit (.bool t)=>a4K F c t λF t=>k F (bif t then ev F a else ev F b) H 0
   | _=>none
  | .call c=>match c.callee with
   | .value f=>match ev F f with
    | .lit (.func (.func g) first caps)=>bBN P E g (lits first++c.args.toList.map (ev F)++lits caps) H (k F)
    | .clo (.func g) first caps=>bBN P E g (first++c.args.toList.map (ev F)++caps) H (k F)
    | _=>none
   | _=>aE9 P E F H o k
  | _=>aE9 P E F H o k
def aIJ:Nat->Nat->Int->(Int->Option α)->Option α
 | 0,_,_,_=>none
 | n+1,j,v,f=>bif eqI v (j:Int) then f j else aIJ n (j+1) v f
def bET(t:TypeId):Option Nat:=match P.underlying t with
 | some (.array n _)=>some n
 | _=>none
def bDY:PV->Bool
 | .hptr _ _|.iptr _=>true
 | _=>false
def bGC:PV->Bool
 | .agg _=>true
 | _=>false
def xIdx(H:Heap) (t:TypeId) (p:PV) (i:Int):Option (PV×Heap×Nat):=match p,P.underlying t with
 | .agg cs,some (.array n e)=>match sP P e with
  | some sz=>bif aF i n then p0 H (D9 P e (cs.drop (i.toNat*sz))) else none
  | none=>none
 | _,_=>none
def bEL(l:List Oper)(F:Frm)(H:Heap)(o:Oper)(k:Frm->PV->Heap->Nat->Option α):Option α:=match o.op with
 | .makeSlice t n c=>bif aN1 l o.dst then (match V6 P H t (ev F n) (ev F c)with
   | some (cs,v,H',c')=>aEZ cs (k F v H' c')
   | none=>none) else opK P E F H o k
 | .indexAddr t x i=>match bET P t,ev F i with
  | some n,.lit (.int _ v)=>bif aP5 (ev F x) then aIJ n 0 v (λj=>match vI P H t (ev F x) j with
    | some (cs,p,H',c)=>aEZ cs (k F p H' c)
    | none=>none) else bif bDY (ev F x) then aIJ n 0 v (λj=>match p0 H (Y8 P t (ev F x) j)with
    | some (p,H',c)=>k F p H' c
    | none=>none) else opK P E F H o k
  | _,_=>opK P E F H o k
 | .index t x i=>match bET P t,ev F i with
  | some n,.lit (.int _ v)=>bif bGC (ev F x) then aIJ n 0 v (λj=>match xIdx P H t (ev F x) j with
    | some (p,H',c)=>k F p H' c
    | none=>none) else opK P E F H o k
  | _,_=>opK P E F H o k
 | .slice t x lo hi none=>match ev F x with
  | .own r sz=>match aJL H r,P.underlying t with
   | some g,some (.slice e)=>bif aNT g.t then (match sP P e with
    | some n=>bif Nat.beq n sz then ask (Nat.beq g.l.length 0) λz=>(match aLT g H r sz (lo.map (ev F)) (hi.map (ev F)) z with
      | some (cs,v,H',c)=>aEZ cs (k F v H' c)
      | none=>none) else none
    | none=>none) else opK P E F H o k
   | _,_=>opK P E F H o k
  | _=>opK P E F H o k
 | _=>opK P E F H o k
def a2K(l:List Oper)(o:Oper)(F:Frm)(H:Heap)(k:Frm->PV->Heap->Nat->Option α):Option α :=
 aYG F l o λF b=>bif b then (match mkData P F l o with
  | none=>bEL P E l F H o k
  | some none=>none
  | some (some (cs,v))=>aEZ cs (k F v H 0)) else k F (.lit undef) H 0
def FN(nt:Nat)(l:List Oper):List Oper->Frm->Heap->(Frm->Heap->Option α)->Option α
 | [],F,H,k=>k F H
 | o::rest,F,H,k=>a2K P E l o F H λF v H' _=>match VA nt F o.dst v with
  | some F'=>FN nt l rest F' H' k
  | none=>none
def stK(nt:Nat)(m:Option Nat)(ms:List Nat)(l:List Oper):List Oper->Nat->Frm->Heap->a5C->(Frm->Heap->a5C->Option α)->Option α
 | [],_,F,H,hl,k=>k F H hl
 | o::rest,j,F,H,hl,k=>match N4 m o j with
  | none=>a2K P E l o F H λF v H' c=>bif okT m (ms.getD j 0) j (aWR F o) c v H' then (match VA nt F o.dst v with
   | some F'=>stK nt m ms l rest (j+1) F' H' (bif Nat.beq c 0 then hl else (j,c,aWR F o)::hl) k
   | none=>none) else none
  | some q=>bif aJT o then (bif dR.noRefs (o.op.operands.toList.map (ev F))&&dV.noRows (o.op.operands.toList.map (ev F)) then a2K P E l o F [] λF v X _=>match aRK q v X H with
    | some (v,H',c)=>bif okT m (ms.getD j 0) j (some q) c v H' then (match VA nt F o.dst v with
     | some F'=>stK nt m ms l rest (j+1) F' H' (bif Nat.beq c 0 then hl else (j,c,some q)::hl) k
     | none=>none) else none
    | none=>none else none)
   else match stepT (some q) P (eY P E) l o F H with
   | some (v,H',c)=>bif okT m (ms.getD j 0) j (some q) c v H' then (match VA nt F o.dst v with
    | some F'=>stK nt m ms l rest (j+1) F' H' ((j,2,some q)::hl) k
    | none=>none) else none
   | none=>none
def lP(nt:Nat)(ops:Array Oper)(draw:Bool)(F:Frm)(H:Heap)(k:Frm->Heap->Option α):Option α :=
 bif draw then (bif RE ops&&aU9 (aE4 ops H) F H then stK P E nt (aE4 ops H) (kW ops) ops.toList ops.toList 0 F (a90 (aE4 ops H) ops.toList.length H) [] λF H hl=>bif aA7 (kW ops) hl then k F H else none else none)
 else FN P E nt ops.toList ops.toList F H k
end
section
variable {α:Type} {P:Program} {E:Env} {z:α}
theorem aGW {b k}(h:ask b k=some z):k b=some z:=by cases b <;> exact h
theorem I1:∀ {l r},aEZ l r=some z->yY l=true/\r=some z
 | [],r,h=>⟨rfl,h⟩
 | b::l,r,h=>by
  obtain⟨rfl,h⟩:=aJ h;exact I1 (l:=l) h
theorem mR {τ}{x:Option τ}{k}(h:aC x k=some z):∃ y,x=some y/\k y=some z:=by
 cases x with
 | none=>cases h
 | some y=>exact⟨y,rfl,h⟩
theorem aR5 {g args H k}(h:bBN P E g args H k=some z):∃ v H' c,eY P E g args H=some (v,H',c)/\k v H' c=some z:=by
 unfold bBN at h;unfold eY callee;cases hsh:E.sh g with
 | true =>
  rw[hsh]at h;simp only[oC]at h ⊢;split at h
  next r hr=>obtain⟨x,h1,h2⟩:=mR h;exact⟨_,_,_,by simp only[aM0,hr,h1],h2⟩
  ·cases h
 | false =>
  rw[hsh]at h;simp only[oD]at h ⊢;cases hn:dR.noRefs args with
  | true =>
   rw[hn]at h;obtain⟨hnr,h⟩:=aJ h;split at h
   next r hr=>obtain⟨x,h1,h2⟩:=mR h;exact⟨_,_,_,by simp only[hnr,oC,aN3,hr,h1],h2⟩
   ·cases h
  | false =>
   rw[hn]at h;simp only[oD]at h ⊢;cases hf:aMH P g with
   | true =>
    rw[hf]at h;split at h
    ·rename_i qs hq;obtain⟨hnr,h⟩:=aJ h;split at h
     next r hr=>obtain⟨x,h1,h2⟩:=mR h;obtain⟨h3,h2⟩:=aJ h2;exact⟨_,_,_,by simp only[hq,hnr,aN3,hr,h1,h3,oC],h2⟩
     ·cases h
    ·cases h
   | false =>
    rw[hf]at h;simp only[oD]at h ⊢;split at h
    ·rename_i qs hq;obtain⟨hnr,h⟩:=aJ h;split at h
     next r hr=>obtain⟨x,h1,h2⟩:=mR h;exact⟨_,_,_,by simp only[hq,hnr,oC,aN3,hr,h1],h2⟩
     ·cases h
    ·cases h
theorem aUH {t b}:∀ {F},bM F t=.lit (.bool b)->a9C F t b=F
 | [],_=>rfl
 | (s,p)::r,h=>by
  simp only[bM]at h;simp only[a9C];cases hs:Nat.beq s t with
  | true=>grind
  | false=>rw[hs]at h; simp only[oD]at h ⊢; rw[aUH h]
theorem aCM {F x b k}(h:a4K F x b k=some z)(hx:ev F x=.lit (.bool b)):k F b=some z:=by
 unfold a4K at h;split at h
 ·have:=aGW h;rwa[aUH (by simpa only[ev]using hx)]at this
 ·exact aGW h
theorem aVC {F l o k}(h:aYG F l o k=some z):∃ b,guardOf F l o=some b/\k F b=some z:=by
 unfold aYG at h;unfold guardOf;cases hg:o.guard with
 | none=>grind
 | some g =>
  obtain⟨j,want⟩:=g;rw[hg]at h;simp only at h ⊢;cases hp:l[j]? with
  | none=>grind
  | some p =>
   rw[hp]at h;simp only at h ⊢;cases ht:p.dst with
   | none=>rw[ht]at h; cases h
   | some t =>
    rw[ht]at h;simp only at h ⊢;split at h
    next b hb=>have:=aGW h;rw[aUH hb]at this;grind
    ·grind
    ·cases h
theorem a2N {op k1 a b k}(h:bED op k1 a b k=some z):∃ v,aWI op k1 a b=some v/\k v=some z:=by
 unfold bED at h;split at h
 ·cases hb:eqI b 0 with
  | true=>grind
  | false=>rw[hb]at h; exact⟨_,by simp only[aWI,hb,oD],h⟩
 ·cases hb:eqI b 0 with
  | true=>grind
  | false=>rw[hb]at h; exact⟨_,by simp only[aWI,hb,oD],h⟩
 grind
theorem ND {F H o k}(h:aE9 P E F H o k=some z):∃ v H' c,opu P (eY P E) F H o=some (v,H',c)/\k F v H' c=some z:=by
 unfold aE9 at h;grind
theorem aVW {F o op xt yt x y k1 k2 a b v}(ho:o.op=.binOp op xt x y yt)(hx:ev F x=.lit (.int k1 a))(hy:ev F y=.lit (.int k2 b))(hb:ltI b 0=false)(hv:a0D op k1 a b=some v):tZ P F o=some (.lit v):=by
 have hb:¬ b<0:=by rw[aE]at hb; grind
 have h1:valOf F x=.int k1 a:=by simp[valOf,hx,aKN]
 have h2:valOf F y=.int k2 b:=by simp[valOf,hy,aKN]
 have h3:VV F o.op.operands.toList=true:=by simp[ho,Op.operands,VV,hx,hy,aKN]
 have h4:S2 o.op=false:=by simp[ho,S2]
 unfold tZ;rw[h3,h4];cases op <;> simp only[a0D]at hv <;> try (cases hv; done)
 all_goals
  simp only[oJ]at hv;subst hv;simp[execOp,ho,h1,h2,eqGuard,binOp,Op.shift,hb,RW,aGE]
  try rfl
theorem aY3 {F x k}(h:a8K F x k=some z):k F=some z:=by
 unfold a8K at h;split at h
 next b hb=> exact aCM h hb
 grind
theorem aAA:∀ {l:List Operand} {F:Frm} {k:Frm->Option α},aU7 l F k=some z->k F=some z
 | [],F,k,h=>h
 | x::r,F,k,h=>aAA (l:=r) (aY3 h)
theorem aA2 {F H o k}(h:opK P E F H o k=some z):∃ v H' c,opx P (eY P E) F H o=some (v,H',c)/\k F v H' c=some z:=by
 unfold opK at h;unfold opx;cases ht:typed P F o with
 | true =>
  rw[ht]at h;split at h
  next cs v H' c hc=>obtain⟨h1,h2⟩:=I1 h;grind
  ·cases h
 | false =>
  rw[ht]at h;simp only[oD]at h ⊢;split at h
  next op xt x y yt ho=>
   split at h
   ·rename_i k1 a k2 b hx hy;cases hsh:aSU op with
    | true =>
     rw[hsh]at h;cases hb:ltI b 0 with
     | true=>rw[hb]at h; cases h
     | false =>
      rw[hb]at h;split at h
      ·rename_i v hv;have hp:=aVW (P:=P) ho hx hy hb hv;have hxb:aWI op k1 a b=none:=by cases op <;> simp only[aSU]at hsh <;> first|rfl|(cases hsh; done)
       refine⟨_,_,_,?_,h⟩;simp only[opu,ho,hx,hy,hxb,hp,p0,Bool.cond_self]
      ·cases h
    | false =>
    rw[hsh]at h;simp only[oD]at h;cases hb:(O4 k1 k2&&isX op)with
    | true =>
     rw[hb]at h;simp only[oC]at h;simp only[oA]at hb;obtain⟨v,h1,h2⟩:=a2N h;exact⟨_,_,_,by simp only[opu,ho,hx,hy,hb.1,oC,h1],h2⟩
    | false=>rw[hb]at h; exact ND h
   ·exact ND (aAA h)
  ·exact ND (aAA h)
  next c a b ho=>
   split at h
   next t hc=>exact⟨_,_,_,by simp only[opu,ho,hc],aCM h hc⟩
   ·cases h
  next c ho=>
   split at h
   ·rename_i f hc;split at h
    next g first caps hf=>obtain⟨v,H',c',h1,h2⟩:=aR5 h;exact⟨v,H',c',by simp only[opu,ho,hc,hf,h1],h2⟩
    next g first caps hf=>obtain⟨v,H',c',h1,h2⟩:=aR5 h;exact⟨v,H',c',by simp only[opu,ho,hc,hf,h1],h2⟩
    ·cases h
   ·exact ND h
  ·exact ND h
theorem TV {f v}:∀ {n j},aIJ n j v f=some z->f v=some z
 | 0,_,h=>by cases h
 | n+1,j,h=>by
  unfold aIJ at h;cases hb:eqI v j with
  | true =>
   rw[hb]at h;rw[bP,decide_eq_true_eq]at hb;grind
  | false =>
   rw[hb]at h;exact TV h
theorem bCJ {p}(h:bDY p=true):isT p=false:=by cases p <;> first|rfl|cases h
theorem a4R {l F H o k}(h:bEL P E l F H o k=some z):∃ v H' c,opz P (eY P E) l F H o=some (v,H',c)/\k F v H' c=some z:=by
 unfold bEL at h;split at h
 next t n c ho=>
  cases hb:aN1 l o.dst with
  | false =>
   rw[hb]at h;obtain⟨v,H',c',h1,h2⟩:=aA2 h;exact⟨v,H',c',by simp only[opz,ho,hb,oD,h1],h2⟩
  | true =>
   rw[hb]at h;split at h
   next cs v1 H1 k1 h1=>obtain⟨h3,h4⟩:=I1 h;exact⟨_,_,_,by simp only[opz,ho,hb,oC,h1,h3],h4⟩
   ·cases h
 next t x i ho=>
  have plain:opK P E F H o k=some z->∃ v H' c,opz P (eY P E) l F H o=some (v,H',c)/\k F v H' c=some z:=λh=>by
   obtain⟨v,H',c',h1,h2⟩:=aA2 h;exact⟨v,H',c',by simp only[opz,ho,h1],h2⟩
  split at h
  next n k1 v hn hv=>
   cases hb:aP5 (ev F x)with
   | false =>
    rw[hb]at h;cases hb2:bDY (ev F x)with
    | false=>rw[hb2]at h; exact plain h
    | true =>
     rw[hb2]at h;have h:=TV h;split at h
     ·rename_i p H1 c1 h1;refine⟨_,_,_,?_,h⟩;have ht:typed P F o=false:=by simp only[typed,ho,hb,bCJ hb2,Bool.or_false]
      simp only[opz,ho,opx,ht,oD,opu,hv,h1]
     ·cases h
   | true =>
    rw[hb]at h;have h:=TV h;split at h
    ·rename_i cs p H1 c1 h1;obtain⟨h3,h4⟩:=I1 h;refine⟨_,_,_,?_,h4⟩;have ht:typed P F o=true:=by simp only[typed,ho,hb,Bool.or_true]
     simp only[opz,ho,opx,ht,oC,top,hv,h1,h3]
    ·cases h
  ·grind
 next t x i ho=>
  have plain:opK P E F H o k=some z->∃ v H' c,opz P (eY P E) l F H o=some (v,H',c)/\k F v H' c=some z:=λh=>by
   obtain⟨v,H',c',h1,h2⟩:=aA2 h;exact⟨v,H',c',by simp only[opz,ho,h1],h2⟩
  split at h
  next n k1 v hn hv=>
   cases hb:bGC (ev F x)with
   | false=>rw[hb]at h; exact plain h
   | true =>
    rw[hb]at h;simp only[oC]at h;have h:=TV h;split at h
    ·rename_i p H1 c1 h1;refine⟨_,_,_,?_,h⟩;obtain⟨cs,hcs⟩:∃ cs,ev F x=.agg cs:=by
      revert hb
      cases ev F x <;> intro hb <;> first|exact⟨_,rfl⟩|cases hb
     have ht:typed P F o=false:=by simp only[typed,ho,hcs,isS]
     simp only[opz,ho,opx,ht,oD,opu,hv,hcs];rw[hcs]at h1;unfold bET at hn;split at hn
     next n1 e1 hu=>unfold xIdx at h1;simp only[hu]at h1 ⊢;exact h1
     ·cases hn
    ·cases h
  ·exact plain h
 next t x lo hi ho=>
  have plain:opK P E F H o k=some z->∃ v H' c,opz P (eY P E) l F H o=some (v,H',c)/\k F v H' c=some z:=λh=>by
   obtain⟨v,H',c',h1,h2⟩:=aA2 h;exact⟨v,H',c',by simp only[opz,ho,h1],h2⟩
  split at h
  next r sz hx=>
   split at h
   ·rename_i g e hg hu;cases hb:aNT g.t with
    | false=>rw[hb]at h; exact plain h
    | true =>
     rw[hb]at h;simp only[oC]at h;split at h
     ·rename_i n hn;obtain⟨hbn,h⟩:=aJ h;replace h:=aGW h;split at h
      ·rename_i cs v H1 c1 h1;obtain⟨h3,h4⟩:=I1 h;refine⟨_,_,_,?_,h4⟩;have ht:typed P F o=true:=by simp only[typed,ho,hx,isT,Bool.true_or]
       simp only[opz,ho,opx,ht,oC,top,hx,isS,isQ,oD,VZ,hu,hn,hg,hbn,hb,Bool.true_and,h1,h3]
      ·cases h
     ·cases h
   ·exact plain h
  ·exact plain h
 next hno hno2 hno3 hno4=>
  obtain⟨v,H',c',h1,h2⟩:=aA2 h;refine⟨v,H',c',?_,h2⟩;unfold opz;split
  next t n c ho=>exact(hno t n c ho).elim
  ·exact h1
theorem aFQ {l F H o k}(h:a2K P E l o F H k=some z):∃ v H' c,xV P (eY P E) l o F H=some (v,H',c)/\k F v H' c=some z:=by
 obtain⟨b,h1,h2⟩:=aVC h;unfold xV;cases b with
 | true =>
  simp only[h1];split at h2
  next hm=>simp only[hm];exact a4R h2
  ·grind
  ·obtain⟨h3,h4⟩:=I1 h2;grind
 | false=>grind
theorem KO {nt l k}:∀ {r F H},FN P E nt l r F H k=some z->∃ F' H',PL P (eY P E) nt l r F H=some (F',H')/\k F' H'=some z
 | [],F,H,h=>⟨F,H,rfl,h⟩
 | o::r,F,H,h=>by
  obtain⟨v,H1,c,h1,h2⟩:=aFQ h;split at h2
  next F1 hp=>obtain⟨F',H',h3,h4⟩:=KO h2;refine⟨F',H',?_,h4⟩;simp only[PL,h1,VH,hp,D1,Bool.cond_self,h3]
  grind
theorem aHK {nt m ms l F0 H0 k}:∀ {r j F H hl},stK P E nt m ms l r j F H hl k=some z->r=l.drop j->j<=l.length->YI P (eY P E) nt m ms l F0 H0 j=some (F,H,hl)->∃ F' H' hl',YI P (eY P E) nt m ms l F0 H0 l.length=some (F',H',hl')/\k F' H' hl'=some z
 | [],j,F,H,hl,h,hr,hjl,hs=>by
  have h1:(l.drop j).length=0:=by rw[<- hr]; rfl
  rw[List.length_drop]at h1;have h2:j=l.length:=Z
  subst h2;exact⟨F,H,hl,hs,h⟩
 | o::r,j,F,H,hl,h,hr,hjl,hs=>by
  have hj:l[j]?=some o:=by
   have:(l.drop j)[0]?=some o:=by rw[<- hr]; rfl
   grind
  have hr':r=l.drop (j+1):=by
   have:(l.drop j).tail=r:=by rw[<- hr]; rfl
   simp_all
  simp only[stK]at h;split at h
  next hres=>
   obtain⟨v,H1,c,h1,h2⟩:=aFQ h;obtain⟨hok,h2⟩:=aJ h2;split at h2
   next F1 hp=>refine aHK h2 hr' (oO.1 hj).1 ?_;simp only[YI,hs,hj,hres,stepT,h1,hok,oC,VH,hp,D1,aH3];grind
   ·cases h2
  next q hres=>
   cases hcall:aJT o with
   | true =>
    rw[hcall]at h;obtain⟨hnr,h⟩:=aJ h;obtain⟨v0,X,c0,h1,h⟩:=aFQ h;split at h
    ·rename_i v H1 c hct;obtain⟨hok,h2⟩:=aJ h;split at h2
     ·rename_i F1 hp;refine aHK h2 hr' (oO.1 hj).1 ?_;have hop:∃ cc,o.op=.call cc:=by
       unfold aJT at hcall;split at hcall
       ·unfold aIN at hcall;split at hcall
        next cc hcc=> exact⟨cc,hcc⟩
        ·cases hcall
       ·cases hcall
      obtain⟨cc,hop⟩:=hop;have hst:stepT (some q) P (eY P E) l o F H=some (v,H1,c):=by
       simp only[stepT,hop];rw[<- hop,hnr,oC,h1];exact hct
      simp only[YI,hs,hj,hres,hst,hok,oC,VH,hp,D1,aH3];cases Nat.beq c 0 <;> rfl
     ·cases h2
    ·cases h
   | false =>
   rw[hcall]at h;simp only[oD]at h;split at h
   ·rename_i v H1 c h1;obtain⟨hok,h2⟩:=aJ h;split at h2
    ·rename_i F1 hp;refine aHK h2 hr' (oO.1 hj).1 ?_;have hc:c=2:=by
      simp only[stepT]at h1;split at h1
      ·split at h1
       ·obtain⟨_,h1⟩:=aJ h1;simp only[oJ,oP]at h1;exact h1.2.2.symm
       ·cases h1
      ·obtain⟨_,h1⟩:=aJ h1;split at h1
       ·rcases R3 h1 with ⟨_,_,_,_,_,_,h1,_⟩|⟨_,_,_,_,_⟩
        ·exact h1
        ·obtain⟨_,_,_,ha⟩:=aIV hres;unfold aCG at ha;rw[hcall,Bool.or_false]at ha;unfold isVar at ha;split at ha
         ·simp_all
         ·cases ha
       ·cases h1
      ·cases h1
     subst hc;simp only[YI,hs,hj,hres,h1,hok,oC,VH,hp,D1,aH3];rfl
    ·cases h2
   ·cases h
theorem XU {nt ops F H k}(h:lP P E nt ops true F H k=some z):∃ F' H',UR P (eY P E) nt ops F H=some (F',H')/\k F' H'=some z:=by
 obtain⟨h1,h⟩:=aJ h;obtain⟨F',H',hl,h2,h3⟩:=aHK h (by rfl) (Nat.zero_le _) rfl;obtain⟨h4,h3⟩:=aJ h3;exact⟨F',H',by simp only[UR,h1,oC,h2,h4],h3⟩
theorem aD0 {nt id ops draw F H k}(hcl:dA P (eY P E))(hP:P.follows .mixedOrders=true)(h:lP P E nt ops draw F H k=some z) :
  ∃ F' H',k F' H'=some z/\∀ {n0 wi Gi μi a w Q},I n0 wi Gi μi nt F H a w->(∀ a' w',I n0 wi Gi μi nt F' H' a' w'->Q .normal a' w')->(Code.region id ops draw).wp P Q a w:=by
 cases draw with
 | true =>
  obtain⟨F',H',h2,h3⟩:=XU h;exact⟨F',H',h3,λhI hQ=>aEC hcl hP h2 hI hQ⟩
 | false =>
  obtain⟨F',H',h2,h3⟩:=KO h;exact⟨F',H',h3,λhI hQ=>wp_region_list (CA hcl ops.toList F H _ _ h2 hI hQ)⟩
end
def aKO {α:Type}(m:Nat):Frm->(Frm->α)->α
 | [],k=>k []
 | (t,p)::r,k=>bif T6 m t then aKO m r (λr=>k ((t,p)::r)) else aKO m r k
theorem aI9 {α} m:∀ F (k:Frm->α),∃ F',aKO m F k=k F'/\∀ t,bM F' t=bM F t\/bM F' t=.junk
 | [],k=>⟨[],rfl,λt=>.inl rfl⟩
 | (s,p)::r,k=>by
  simp only[aKO];cases hs:T6 m s with
  | true =>
   obtain⟨F',h1,h2⟩:=aI9 m r λr=>k ((s,p)::r)
   refine⟨(s,p)::F',h1,λt=>?_⟩;rw[bT,bT];grind
  | false =>
   have key:∀ (F:Frm) (k:Frm->α),∃ F',aKO m F k=k F'/\∀ t,bM F' t=if T6 m t then bM F t else .junk:=by
    intro F
    induction F with
    | nil=>intro k; exact⟨[],rfl,λt=>by simp[bM]⟩
    | cons x r ih =>
     intro k;obtain⟨s,p⟩:=x;simp only[aKO];cases hs:T6 m s with
     | true =>
      obtain⟨F',h1,h2⟩:=ih λr=>k ((s,p)::r)
      refine⟨(s,p)::F',h1,λt=>?_⟩;rw[bT,bT,h2 t];grind
     | false =>
      obtain⟨F',h1,h2⟩:=ih k;refine⟨F',h1,λt=>?_⟩;rw[bT,h2 t]
      by_cases hts:t=s
      ·subst hts; simp[hs]
      ·simp[hts]
   obtain⟨F',h1,h2⟩:=key r k;refine⟨F',h1,λt=>?_⟩;rw[bT,h2 t];grind
@[reducible] def cD:List (Ex×List (Nat×Kd))->Type
 | []=>Empty
 | [(_,s)]=>Shape.den s
 | (_,s)::b::r=>Shape.den s⊕cD (b::r)
structure eE where
 sh:List (Nat×Kd)
 exits:List (Ex×List (Nat×Kd))
 run:Shape.den sh->Option (cD exits)
def KZ:(l:List (Ex×List (Nat×Kd)))->cD l->Ex×Frm×Heap
 | [],z=>Empty.elim z
 | [(e,s)],z=>(e,CD s z 0,NC s z)
 | (e,s)::b::r,z=>match z with
  | .inl x=>(e,CD s x 0,NC s x)
  | .inr y=>KZ (b::r) y
def a88 {α}:(l:List (Ex×List (Nat×Kd)))->cD l->(Ex->Frm->Heap->Option α)->Option α
 | [],z,_=>Empty.elim z
 | [(e,s)],z,k=>k e (CD s z 0) (NC s z)
 | (e,s)::b::r,z,k=>mY z (λx=>k e (CD s x 0) (NC s x)) (λy=>a88 (b::r) y k)
def aX4:Ex->Ex->Bool
 | .normal,.normal=>true
 | .exit i,.exit j=>Nat.beq i j
 | .ret,.ret=>true
 | _,_=>false
def aF1:(l:List (Ex×List (Nat×Kd)))->Ex->Frm->Heap->Option (cD l)
 | [],_,_,_=>none
 | [(e,s)],ex,F,H=>bif aX4 e ex then QR s F H else none
 | (e,s)::b::r,ex,F,H=>bif aX4 e ex then (match QR s F H with|some x=>some (.inl x)|none=>none) else (match aF1 (b::r) ex F H with|some y=>some (.inr y)|none=>none)
section
variable {α:Type} (P:Program) (E:Env) (nt keep:Nat) (lt:Nat->Option eE)
def l4:Code->Frm->Heap->(Ex->Frm->Heap->Option α)->Option α
 | .skip,F,H,k=>k .normal F H
 | .label _,F,H,k=>k .normal F H
 | .region _ ops draw,F,H,k=>lP P E nt ops draw F H λF H=>aKO keep F λF=>k .normal F H
 | .seq a b,F,H,k=>l4 a F H λex F H=>match ex with
  | .normal=>l4 b F H k
  | .exit i=>k (.exit i) F H
  | .ret=>k .ret F H
 | .cond c a b,F,H,k=>match ev F c with
  | .lit (.bool t)=>a4K F c t λF t=>bif t then l4 a F H k else l4 b F H k
  | _=>none
 | .block id a,F,H,k=>l4 a F H λex F H=>match ex with
  | .exit i=>bif Nat.beq i id then k .normal F H else k (.exit i) F H
  | .normal=>k .normal F H
  | .ret=>k .ret F H
 | .loop a,F,H,k=>match lt (cA a)with
  | some s=>match QR s.sh F H with
   | some x=>aC (s.run x) λz=>a88 s.exits z k
   | none=>none
  | none=>none
 | .exit id,F,H,k=>k (.exit id) F H
 | .scope a,F,H,k=>l4 a F H k
 | .ret,F,H,k=>k .ret F H
 | _,_,_,_=>none
def aM7 sh exits (ex:Ex)(F:Frm)(H:Heap):Option (Shape.den sh⊕cD exits):=match ex with
 | .normal=>match QR sh F H with
  | some y=>some (.inl y)
  | none=>none
 | .exit i=>match aF1 exits (.exit i) F H with
  | some z=>some (.inr z)
  | none=>none
 | .ret=>match aF1 exits .ret F H with
  | some z=>some (.inr z)
  | none=>none
def jQ(a:Code) (sh:List (Nat×Kd)) (exits:List (Ex×List (Nat×Kd))) (x:Shape.den sh):Option (Shape.den sh⊕cD exits) :=
 l4 P E nt keep lt a (CD sh x 0) (NC sh x) (aM7 sh exits)
end
def aW {σ τ:Type}(step:σ->Option (σ⊕τ)):Nat->σ->Option τ
 | 0,_=>none
 | n+1,x=>match step x with
  | some (.inl y)=>aW step n y
  | some (.inr z)=>some z
  | none=>none
def bB:Code->List Code
 | .seq a b=>bB a++bB b
 | .cond _ a b=>bB a++bB b
 | .block _ a=>bB a
 | .scope a=>bB a
 | .loop a=>[a]
 | _=>[]
section
variable {α:Type} {P:Program} {E:Env} {nt keep:Nat} {lt:Nat->Option eE}
def bFW(P:Program) (nt:Nat) (c:Code) (F:Frm) (H:Heap) (r:Ex×Frm×Heap):Prop :=
 ∀ (n0:Nat->Prop) (wi:World) (Gi:Gd) (μi:Mp) (a:Act) (w:World),(∀ r,μi.loc r=none/\μi.len r=none)->I n0 wi Gi μi nt F H a w->bFM P n0 wi Gi μi nt c a w r
def eJ(P:Program)(nt:Nat)(a:Code)(s:eE):Prop :=
 ∀ x z,s.run x=some z->bFW P nt (.loop a) (CD s.sh x 0) (NC s.sh x) (KZ s.exits z)
theorem aCJ:∀ {l:List (Ex×List (Nat×Kd))} {z:cD l} {k:Ex->Frm->Heap->Option α} {y:α},a88 l z k=some y->k (KZ l z).1 (KZ l z).2.1 (KZ l z).2.2=some y
 | [],z,_,_,_=>Empty.elim z
 | [(e,s)],z,k,y,h=>h
 | (e,s)::b::r,z,k,y,h=>by
  cases z with
  | inl x=>exact h
  | inr x=>exact aCJ (l:=b::r) (z:=x) h
theorem aMB {a b}(h:aX4 a b=true):a=b:=by cases a <;> cases b <;> simp only[aX4]at h <;> first|rfl|rfl|simp_all
theorem aBK {n0 wi Gi μi}(hfl:∀ r,μi.loc r=none/\μi.len r=none){ex F H}:∀ {l z},aF1 l ex F H=some z ->
  (KZ l z).1=ex/\∀ a w,I n0 wi Gi μi nt F H a w->I n0 wi Gi μi nt (KZ l z).2.1 (KZ l z).2.2 a w
 | [],z,_=>Empty.elim z
 | [(e,s)],z,h=>by
  obtain⟨hb,h⟩:=aJ h;exact⟨aMB hb,λa w hI=>CQ h hfl hI⟩
 | (e,s)::b::r,z,h=>by
  simp only[aF1]at h;cases hb:aX4 e ex with
  | true =>
   rw[hb]at h;simp only[oC]at h;split at h
   next x hx=>simp only[oJ]at h;subst h;exact⟨aMB hb,λa w hI=>CQ hx hfl hI⟩
   ·cases h
  | false =>
   rw[hb]at h;simp only[oD]at h;split at h
   next x hx=>simp only[oJ]at h;subst h;exact aBK hfl (z:=x) hx
   ·cases h
theorem k8(hcl:dA P (eY P E))(hP:P.follows .mixedOrders=true):∀ c F H k (z:α),(∀ a∈bB c,∀ s,lt (cA a)=some s->eJ P nt a s) ->
  l4 P E nt keep lt c F H k=some z->∃ r ,k r.1 r.2.1 r.2.2=some z/\bFW P nt c F H r
 | .skip,F,H,k,z,hl,h=>⟨(.normal,F,H),h,λ_ _ _ _ _ _ _ hI=>wp_skip ⟨rfl,hI⟩⟩
 | .label l,F,H,k,z,hl,h=>⟨(.normal,F,H),h,λ_ _ _ _ _ _ _ hI=>wp_label ⟨rfl,hI⟩⟩
 | .region id ops draw,F,H,k,z,hl,h=>by
  simp only[l4]at h;obtain⟨F1,H1,h1,h2⟩:=aD0 (id:=id) hcl hP h;obtain⟨F2,h3,h4⟩:=aI9 keep F1 λF=>k .normal F H1
  rw[h3]at h1;exact⟨(.normal,F2,H1),h1,λ_ _ _ _ _ _ _ hI=>h2 hI λa' w' hI'=>⟨rfl,hI'.a4S h4⟩⟩
 | .seq x y,F,H,k,z,hl,h=>by
  simp only[l4]at h;obtain⟨⟨ex,F1,H1⟩,h1,h2⟩:=k8 hcl hP x F H _ z (λa ha=>hl a (by simp[bB,ha])) h;cases ex with
  | normal =>
   obtain⟨r,h3,h4⟩:=k8 hcl hP y F1 H1 k z (λa ha=>hl a (by simp[bB,ha])) h1;refine⟨r,h3,λn0 wi Gi μi a w hfl hI=>wp_seq (wp_mono (h2 n0 wi Gi μi a w hfl hI) ?_)⟩;rintro e a' w' ⟨rfl,hI'⟩;exact h4 n0 wi Gi μi a' w' hfl hI'
  | exit i =>
   refine⟨(.exit i,F1,H1),h1,λn0 wi Gi μi a w hfl hI=>wp_seq (wp_mono (h2 n0 wi Gi μi a w hfl hI) ?_)⟩;rintro e a' w' ⟨rfl,hI'⟩;exact⟨rfl,hI'⟩
  | ret =>
   refine⟨(.ret,F1,H1),h1,λn0 wi Gi μi a w hfl hI=>wp_seq (wp_mono (h2 n0 wi Gi μi a w hfl hI) ?_)⟩;rintro e a' w' ⟨rfl,hI'⟩;exact⟨rfl,hI'⟩
 | .cond c x y,F,H,k,z,hl,h=>by
  simp only[l4]at h;split at h
  next t ht=>
   replace h:=aCM h ht;have hc:∀ {n0 wi Gi μi a w},I n0 wi Gi μi nt F H a w->a.eval c=.bool t:=λhI=>by
    obtain⟨G,μ,e,hW,hF⟩:=hI;have hc:=cC hF c;rwa[ht,VR]at hc
   cases t with
   | true =>
    obtain⟨r,h3,h4⟩:=k8 hcl hP x F H k z (λa ha=>hl a (by simp[bB,ha])) h;exact⟨r,h3,λn0 wi Gi μi a w hfl hI=>wp_cond (hc hI) (h4 n0 wi Gi μi a w hfl hI)⟩
   | false =>
    obtain⟨r,h3,h4⟩:=k8 hcl hP y F H k z (λa ha=>hl a (by simp[bB,ha])) h;exact⟨r,h3,λn0 wi Gi μi a w hfl hI=>wp_cond (hc hI) (h4 n0 wi Gi μi a w hfl hI)⟩
  ·cases h
 | .block id x,F,H,k,z,hl,h=>by
  simp only[l4]at h;obtain⟨⟨ex,F1,H1⟩,h1,h2⟩:=k8 hcl hP x F H _ z (λa ha=>hl a (by simp[bB,ha])) h;cases ex with
  | normal =>
   refine⟨(.normal,F1,H1),h1,λn0 wi Gi μi a w hfl hI=>wp_block (wp_mono (h2 n0 wi Gi μi a w hfl hI) ?_)⟩;rintro e a' w' ⟨rfl,hI'⟩;exact⟨rfl,hI'⟩
  | ret =>
   refine⟨(.ret,F1,H1),h1,λn0 wi Gi μi a w hfl hI=>wp_block (wp_mono (h2 n0 wi Gi μi a w hfl hI) ?_)⟩;rintro e a' w' ⟨rfl,hI'⟩;exact⟨rfl,hI'⟩
  | exit i =>
   simp only at h1;cases hi:Nat.beq i id with
   | true =>
    rw[hi]at h1;have:=oE hi;subst this;refine⟨(.normal,F1,H1),h1,λn0 wi Gi μi a w hfl hI=>wp_block (wp_mono (h2 n0 wi Gi μi a w hfl hI) ?_)⟩;rintro e a' w' ⟨rfl,hI'⟩;simp only[Ex.to,Exit.inBlock,if_true];exact⟨trivial,hI'⟩
   | false =>
    rw[hi]at h1;have hne:¬ i=id:=λe=>by rw[e]at hi; simp at hi
    refine⟨(.exit i,F1,H1),h1,λn0 wi Gi μi a w hfl hI=>wp_block (wp_mono (h2 n0 wi Gi μi a w hfl hI) ?_)⟩;rintro e a' w' ⟨rfl,hI'⟩;simp only[Ex.to,Exit.inBlock,hne,if_false];exact⟨trivial,hI'⟩
 | .loop x,F,H,k,z,hl,h=>by
  simp only[l4]at h;split at h
  next s hs=>
   split at h
   next x0 hx=>obtain⟨y,h1,h2⟩:=mR h;exact⟨KZ s.exits y,aCJ h2,λn0 wi Gi μi a w hfl hI=>hl x (by simp[bB]) s hs x0 y h1 n0 wi Gi μi a w hfl (CQ hx hfl hI)⟩
   ·cases h
  ·cases h
 | .exit id,F,H,k,z,hl,h=>⟨(.exit id,F,H),h,λ_ _ _ _ _ _ _ hI=>wp_exit ⟨rfl,hI⟩⟩
 | .scope x,F,H,k,z,hl,h=>by
  simp only[l4]at h;obtain⟨⟨ex,F1,H1⟩,h1,h2⟩:=k8 hcl hP x F H _ z (λa ha=>hl a (by simp[bB,ha])) h;refine⟨(ex,F1,H1),h1,λn0 wi Gi μi a w hfl hI=>wp_scope_straight (wp_mono (h2 n0 wi Gi μi a w hfl hI) ?_)⟩;rintro e a' w' ⟨rfl,hI'⟩;cases ex <;> exact⟨rfl,hI'⟩
 | .ret,F,H,k,z,hl,h=>⟨(.ret,F,H),h,λ_ _ _ _ _ _ _ hI=>wp_ret ⟨rfl,hI⟩⟩
 | .rangeFunc ..,F,H,k,z,hl,h=>by simp only[l4]at h; cases h
 | .goto l,F,H,k,z,hl,h=>by simp only[l4]at h; cases h
 | .refuse s,F,H,k,z,hl,h=>by simp only[l4]at h; cases h
theorem fG(hcl:dA P (eY P E)) (hP:P.follows .mixedOrders=true) {a:Code} {sh:List (Nat×Kd)} {exits:List (Ex×List (Nat×Kd))} {step:Shape.den sh->Option (Shape.den sh⊕cD exits)} (L:Nat)
  (hl:∀ b∈bB a,∀ s,lt (cA b)=some s->eJ P nt b s) (hr:∀ x,jQ P E nt keep lt a sh exits x=step x):eJ P nt a ⟨sh,exits,aW step L⟩:=by
 intro x z hz n0 wi Gi μi act w hfl hI;refine wp_loop_ghost (λk a w=>∃ x,aW step k x=some z/\I n0 wi Gi μi nt (CD sh x 0) (NC sh x) a w) L ⟨x,hz,hI⟩ ?_;rintro k act w ⟨x,hz,hI⟩;cases k with
 | zero=>cases hz
 | succ k =>
  simp only[aW]at hz;split at hz
  next y hs=>
   rw[<- hr]at hs;obtain⟨⟨ex,F',H'⟩,h1,h2⟩:=k8 hcl hP a _ _ _ _ hl hs;refine wp_mono (h2 n0 wi Gi μi act w hfl hI) ?_;rintro e a' w' ⟨rfl,hI'⟩;cases ex with
   | normal =>
    simp only[aM7]at h1;split at h1
    next y' hy=>simp only[oJ,Sum.inl.injEq]at h1;subst h1;exact⟨k,by omega,y',hz,CQ hy hfl hI'⟩
    ·cases h1
   | exit i =>
    simp only[aM7]at h1;split at h1
    ·simp at h1
    ·cases h1
   | ret =>
    simp only[aM7]at h1;split at h1
    ·simp at h1
    ·cases h1
  next y hs=>
   simp only[oJ]at hz;subst hz;rw[<- hr]at hs;obtain⟨⟨ex,F',H'⟩,h1,h2⟩:=k8 hcl hP a _ _ _ _ hl hs;refine wp_mono (h2 n0 wi Gi μi act w hfl hI) ?_;rintro e a' w' ⟨rfl,hI'⟩;cases ex with
   | normal =>
    simp only[aM7]at h1;split at h1
    ·simp at h1
    ·cases h1
   | exit i =>
    simp only[aM7]at h1;split at h1
    next y' hy=>simp only[oJ,Sum.inr.injEq]at h1;subst h1;obtain⟨h3,h4⟩:=aBK (nt:=nt) (n0:=n0) (wi:=wi) (Gi:=Gi) hfl hy;have h5:=h4 a' w' hI';exact⟨by rw[h3],h5⟩
    ·cases h1
   | ret =>
    simp only[aM7]at h1;split at h1
    next y' hy=>simp only[oJ,Sum.inr.injEq]at h1;subst h1;obtain⟨h3,h4⟩:=aBK (nt:=nt) (n0:=n0) (wi:=wi) (Gi:=Gi) hfl hy;have h5:=h4 a' w' hI';exact⟨by rw[h3],h5⟩
    ·cases h1
  ·cases hz
end
end Go.PM
