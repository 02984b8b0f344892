/- Texts of one proof, joined (4). -/
import Derived.Scope
import Derived.Test.YtbjdceodppagoaaGreatDoorQT3
set_option linter.unusedSimpArgs false
set_option linter.unusedVariables false
noncomputable section
namespace Go.PM
open Go Go.RowKit
def aPR(m:List Nat) (es:List Edge):Nat:=es.foldl (λs e=>bif Region.binds .any e then s ||| (2^e.on ||| m.getD e.on 0) else s) 0
def aGP(m:List Nat):Nat->List Oper->Bool
 | _,[]=>true
 | j,o::l=>Nat.beq (m.getD j 0) (aPR m o.after.toList)&&o.after.toList.all (λe=>!Region.binds .any e||Nat.blt e.on j)&&aGP m (j+1) l
def aPF(ops:Array Oper)(m:List Nat)(j:Nat)(oj:Oper):Nat->List Oper->Bool
 | _,[]=>true
 | i,oi::l=>bif Nat.blt i j then ((m.getD j 0).testBit i||oi.apart ops oj)&&aPF ops m j oj (i+1) l else true
def aPG(ops:Array Oper)(m:List Nat):Nat->List Oper->Bool
 | _,[]=>true
 | j,oj::l=>aPF ops m j oj 0 ops.toList&&aPG ops m (j+1) l
def OO(ops:Array Oper):List Nat:=(Region.before ops).toList
def aGI(ops:Array Oper):Bool:=aGP (OO ops) 0 ops.toList&&aPG ops (OO ops) 0 ops.toList
def QJ(F:Frm) (o:Oper):Option Nat:=match o.op with
 | .load _ a=>match ev F a with
  | .hptr r _=>some r
  | _=>none
 | .store _ a _=>match ev F a with
  | .hptr r _=>some r
  | _=>none
 | _=>none
def OS:Option Nat->Option Nat->Bool
 | some a,some b=>!Nat.beq a b
 | _,_=>false
abbrev a2C:=List (Nat×Nat×Option Nat)
def O3:List Nat:=[]
def JN:Op->Bool
 | .call c=>match c.callee with
  | .value (.func g)=>CU O3 g
  | _=>false
 | _=>false
def isVar(o:Oper):Bool:=match o.guard,o.op,o.dst with
 | none,.alloc _,some _=>true
 | _,_,_=>false
def PT(o:Oper):Bool:=match o.guard,o.dst with
 | none,some _=>JN o.op
 | _,_=>false
def MZ(o:Oper):Bool:=isVar o||PT o
def a3I:List Oper->Nat
 | []=>0
 | o::r=>bif PT o then a3I r+1 else a3I r
def PW(X:Heap)(q:Nat):Bool:=match X[q]? with|some none=>true|_=>false
theorem aK6 {X q}:PW X q=true↔X[q]?=some none:=by
 unfold PW;grind
def LW:Option Tg->Bool
 | some g=>g.t.plain
 | none=>false
def QC(q:Nat) (v:PV) (X H:Heap):Option (PV×Heap×Nat):=match X with
 | []=>bif iU v&&iM v then some (v,H,0) else none
 | [some k]=>match v with
  | .own r sz=>bif Nat.beq r 0&&Nat.blt q H.length&&PW H q&&LW k.tag then some (.own q sz,H.set q (some k),2) else none
  | _=>none
 | _=>none
def aWQ:List Oper->Nat
 | []=>0
 | o::r=>bif MZ o then aWQ r+1 else aWQ r
def NT(m:Option Nat)(o:Oper)(k:Nat):Option Nat:=match m with
 | none=>none
 | some b=>bif MZ o then some (b+k) else none
def stepT(r:Option Nat)(P:Program)(cl:Callee)(l:List Oper)(o:Oper)(F:Frm)(H:Heap):Option (PV×Heap×Nat):=match r with
 | none=>KO P cl l o F H
 | some q=>match o.op with
  | .alloc t=>match yI P t with
   | some z=>bif Nat.blt q H.length then some (.hptr q 0,H.set q (some ⟨lits z.cells,t,false,false,none⟩),2) else none
   | none=>none
  | .call _=>bif iU.noRefs (o.op.operands.toList.map (ev F))&&iM.noRows (o.op.operands.toList.map (ev F)) then match KO P cl l o F []with
    | some (v,X,_)=>QC q v X H
    | none=>none
   else none
  | _=>none
def QX(r:Option Nat)(F:Frm)(o:Oper):Option Nat:=match r with
 | none=>QJ F o
 | some q=>some q
def inP(p:Nat->Bool):PV->Bool
 | .hptr r _=>p r
 | .hs r _ _ _ _=>p r
 | .own r _=>p r
 | .op r _ _ _=>p r
 | .win r _ _ _=>p r
 | .qs r _=>p r
 | .agg cs|.tuple cs=>inPs p cs
 | .clo _ f c=>inPs p f&&inPs p c
 | _=>true
where inPs (p:Nat->Bool):List PV->Bool
 | []=>true
 | q::qs=>inP p q&&inPs p qs
def OG(b m r:Nat):Bool:=Nat.blt r b||(Nat.ble b r&&Nat.testBit m (r-b))
def ON(p:Nat->Bool):Option Blk->Bool
 | some k=>k.tag.isSome||inP.inPs p k.cells
 | none=>true
def LF(p:Nat->Bool):Heap->Bool
 | []=>true
 | x::r=>ON p x&&LF p r
def RI(p:Nat->Bool)(q:Option Nat)(c:Nat)(H:Heap):Bool:=bif Nat.blt 1 c then (match q with
 | some q=>ON p (fO H q)
 | none=>LF p H) else true
def okT(m:Option Nat)(mk k:Nat)(q:Option Nat)(c:Nat)(v:PV)(H:Heap):Bool:=match m with
 | none=>true
 | some b=>inP (OG b (mk ||| 2^k)) v&&RI (OG b (mk ||| 2^k)) q c H
def aU4(b:Nat):Frm->Bool
 | []=>true
 | (_,p)::r=>below b p&&aU4 b r
def a0P:List Oper->Bool
 | []=>false
 | o::r=>(match o.op with|.load ..=>true|_=>false)||a0P r
def a30(l:List Oper):List Oper->Bool
 | []=>true
 | o::r=>(match o.op with
  | .makeSlice ..=>PY l o.dst
  | .box ..|.buildSlice ..=>false
  | .call c=>(match c.callee with|.builtin .append|.builtin .copy|.builtin .clear=>false|_=>true)
  | _=>true)&&a30 l r
def a7B(l:List Oper):Bool:=Nat.blt 0 (aWQ l)&&a0P l&&a30 l l
def aOT(ops:Array Oper)(H:Heap):Option Nat:=bif Nat.blt 0 (a3I ops.toList)||Nat.blt 1 (aWQ ops.toList)||a7B ops.toList then some H.length else none
def a4D(m:Option Nat)(n:Nat)(H:Heap):Heap:=match m with
 | none=>H
 | some _=>H++List.replicate n none
def aXN(m:Option Nat)(F:Frm)(H:Heap):Bool:=match m with
 | none=>true
 | some b=>aU4 b F&&aH8 b H
def aKU(P:Program)(cl:Callee)(nt:Nat)(m:Option Nat)(ms:List Nat)(l:List Oper)(F:Frm)(H:Heap):Nat->Option (Frm×Heap×a2C)
 | 0=>some (F,H,[])
 | k+1=>match aKU P cl nt m ms l F H k with
  | some (F,H,hl)=>match l[k]? with
   | some o=>match stepT (NT m o k) P cl l o F H with
    | some (v,H',c)=>bif okT m (ms.getD k 0) k (QX (NT m o k) F o) c v H' then (fPV v λv=>match RA nt F o.dst v with
     | some F'=>bif Nat.beq c 0 then some (F',H',hl) else aPO H' λH'=>some (F',H',(k,c,QX (NT m o k) F o)::hl)
     | none=>none) else none
    | none=>none
   | none=>none
  | none=>none
def a04(m:List Nat)(j:Nat)(d:Nat)(b:Option Nat):a2C->Bool
 | []=>true
 | (i,c,b')::r=>(!(Nat.blt 1 c||Nat.blt 1 d)||OS b b'||(m.getD j 0).testBit i)&&a04 m j d b r
def aMN(m:List Nat):a2C->Bool
 | []=>true
 | (j,d,b)::r=>a04 m j d b r&&aMN m r
def aIC(P:Program)(cl:Callee)(nt:Nat)(ops:Array Oper)(F:Frm)(H:Heap):Option (Frm×Heap) :=
 bif aGI ops&&aXN (aOT ops H) F H then match aKU P cl nt (aOT ops H) (OO ops) ops.toList F (a4D (aOT ops H) ops.toList.length H) ops.toList.length with
  | some (F',H',hl)=>bif aMN (OO ops) hl then some (F',H') else none
  | none=>none else none
theorem aVJ {P cl nt md ms l F H}:∀ {n F' H' hl},aKU P cl nt md ms l F H n=some (F',H',hl)->∃ news ,F'=news++F/\news.length=aSF (l.take n)
 | 0,F',H',hl,h=>by
  simp only[aKU,oJ,oP]at h;exact⟨[],h.1.symm,rfl⟩
 | n+1,F',H',hl,h=>by
  simp only[aKU]at h;split at h
  ·rename_i F1 H1 hl1 h1;obtain⟨n1,e1,l1⟩:=aVJ h1;split at h
   ·rename_i o ho;split at h
    ·rename_i v H2 c hs;obtain⟨_,h⟩:=cC h;rw[aIO]at h;split at h
     ·rename_i F2 hp;rw[ZE]at h;obtain⟨n2,e2,l2⟩:=aU5 hp;have he:F'=F2:=by grind
      refine⟨n2++n1,by rw[he,e2,e1,List.append_assoc],?_⟩;have hd:∀ (a:List Oper) (b:Oper),aSF (a++[b])=aSF a+a7S b.dst:=by
       intro a b
       induction a with
       | nil=>simp only[List.nil_append,aSF]; generalize b.dst=d; cases d <;> rfl
       | cons x a ih =>
        simp only[List.cons_append,aSF];grind
      obtain⟨hlt,fO⟩:=oO.1 ho;rw[List.take_succ_eq_append_getElem hlt,fO,hd,oH,l1,l2];omega
     ·cases h
    ·cases h
   ·cases h
  ·cases h
theorem aWV {P cl nt ops F F' H H'}(h:aIC P cl nt ops F H=some (F',H')):∃ news ,F'=news++F/\news.length=aSF ops.toList:=by
 obtain⟨_,h⟩:=cC h;split at h
 ·rename_i F2 H2 hl hs;cases hh:aMN (OO ops) hl with
  | false=>grind
  | true =>
   have:=aVJ hs;grind
 grind
theorem aF3 {m:List Nat}{b}:∀ (es:List Edge) s,(es.foldl (λs e=>bif Region.binds .any e then s ||| (2^e.on ||| m.getD e.on 0) else s) s).testBit b=true ->
  s.testBit b=true\/∃ e∈es,Region.binds .any e=true/\(b=e.on\/(m.getD e.on 0).testBit b=true)
 | [],s,h=>.inl h
 | e::es,s,h=>by
  rcases aF3 es _ h with h1|⟨e',h1,h2⟩
  ·grind
  grind
theorem aQ2 {m}:∀ {l j i o},aGP m j l=true->l[i]?=some o->m.getD (j+i) 0=aPR m o.after.toList/\∀ e∈o.after,Region.binds .any e=true->e.on<j+i
 | [],j,i,o,_,ho=>by grind
 | p::l,j,i,o,h,ho=>by
  simp only[aGP,oA,List.all_eq_true]at h;obtain⟨⟨h1,h2⟩,h3⟩:=h;cases i with
  | zero =>
   simp only[List.getElem?_cons_zero,oJ]at ho;subst ho;refine⟨oE h1,λe he hb=>?_⟩;have:=h2 e (Array.mem_toList_iff.2 he)
   simp_all
  | succ i =>
   have:=aQ2 h3 (by simpa using ho);grind
theorem aTJ {ops m j oj}:∀ {l k i oi},aPF ops m j oj k l=true->l[i]?=some oi->k+i<j->(m.getD j 0).testBit (k+i)=true\/oi.apart ops oj=true
 | [],k,i,oi,_,ho,_=>by simp at ho
 | p::l,k,i,oi,h,ho,hlt=>by
  simp only[aPF]at h;have hk:Nat.blt k j=true:=Nat.ble_eq_true_of_le (by omega);rw[hk]at h;simp only[oC,oA]at h;cases i with
  | zero =>
   grind
  | succ i =>
   have:=aTJ (i:=i) h.2 (by simpa using ho) (by omega);grind
theorem aRP {ops m}:∀ {l k j oj},aPG ops m k l=true->l[j]?=some oj->aPF ops m (k+j) oj 0 ops.toList=true
 | [],k,j,oj,_,ho=>by grind
 | p::l,k,j,oj,h,ho=>by
  simp only[aPG,oA]at h;cases j with
  | zero =>
   grind
  | succ j =>
   have:=aRP h.2 (by simpa using ho);grind
section
variable {P:Program} {cl:Callee} {n0:Nat->Prop} {nt:Nat} {wi:World} {Gi:Gd} {μi:Mp} {ops:Array Oper} {F:Frm} {H:Heap}
structure Trace (P:Program) (cl:Callee) (nt:Nat) (ops:Array Oper) (F:Frm) (H:Heap) (F':Frm) (H':Heap) where
 Fs:Nat->Frm
 Hs:Nat->Heap
 vs:Nat->PV
 cs:Nat->Nat
 f0:Fs 0=F
 h0:Hs 0=H
 fn:Fs ops.size=F'
 hn:Hs ops.size=H'
 md:Option Nat
 step:∀ i o,ops[i]?=some o->stepT (NT md o i) P cl ops.toList o (Fs i) (Hs i)=some (vs i,Hs (i+1),cs i)/\RA nt (Fs i) o.dst (vs i)=some (Fs (i+1))/\okT md ((OO ops).getD i 0) i (QX (NT md o i) (Fs i) o) (cs i) (vs i) (Hs (i+1))=true
 bs:Nat->Option Nat
 hbs:∀ i o,ops[i]?=some o->bs i=QX (NT md o i) (Fs i) o
 hits:∀ i j,i<j->j<ops.size->cs i≠0->cs j≠0->1<cs i\/1<cs j->OS (bs j) (bs i)=true\/((OO ops).getD j 0).testBit i=true
 loc:∀ i o q,ops[i]?=some o->bs i=some q->cs i≠0->∀ H2:Heap,H2[q]?=(Hs i)[q]?->∃ H3 c,stepT (NT md o i) P cl ops.toList o (Fs i) H2=some (vs i,H3,c)/\H3=if 1<cs i then H2.set q (((Hs (i+1))[q]?).getD none) else H2
theorem aYT {md ms l}:∀ {n k r},aKU P cl nt md ms l F H n=some r->k<=n->∃ s,aKU P cl nt md ms l F H k=some s
 | 0,k,r,h,hk=>by grind
 | n+1,k,r,h,hk=>by
  rcases oG k (n+1)with hl|hl
  ·simp only[aKU]at h;split at h
   ·rename_i s hs;exact aYT hs (by omega)
   grind
  grind
theorem aVF {m j d b}:∀ {hl i c b'},a04 m j d b hl=true->(i,c,b')∈hl->1<c\/1<d->OS b b'=true\/(m.getD j 0).testBit i=true
 | [],i,c,_,_,h,_=>by grind
 | (i',c',b0)::r,i,c,b',h,hm,hc=>by
  simp only[a04,oA,Bool.or_eq_true,Bool.not_eq_true',Bool.or_eq_false_iff]at h;rcases List.mem_cons.1 hm with he|hm
  ·rcases h.1 with (⟨h1,h2⟩|h1)|h1
   ·rcases hc with hc|hc
    ·have:Nat.blt 1 _=true:=Nat.ble_eq_true_of_le hc;grind
    ·have:Nat.blt 1 d=true:=Nat.ble_eq_true_of_le hc;grind
   ·grind
   grind
  ·exact aVF h.2 hm hc
theorem aZ0 {H H2 q}(h:H2[q]?=H[q]?):fO H2 q=fO H q:=by unfold fO; grind
theorem aZ4 {l:List Oper} {o:Oper} {F:Frm} {H H':Heap} {v:PV} {c q:Nat} (h:KO P cl l o F H=some (v,H',c)) (hb:QJ F o=some q) (hc:c≠0) (H2:Heap) (hq:H2[q]?=H[q]?) :
  ∃ H3 c',KO P cl l o F H2=some (v,H3,c')/\H3=if 1<c then H2.set q ((H'[q]?).getD none) else H2:=by
 have hgq:=aZ0 hq;unfold QJ at hb;split at hb
 ·rename_i t a ho;split at hb
  ·rename_i r off hev;obtain rfl:=oB hb;have hm:mkData P F l o=none:=by simp only[mkData,ho]
   have hz:∀ H,opz P cl l F H o=match QG P H t (.hptr r off)with|some (v,c)=>some (v,H,c)|none=>none:=λH=>by simp only[opz,ho,opx,typed,hev,L3,oD,opu]; rfl
   unfold KO at h ⊢;rw[hm]at h ⊢;split at h
   ·simp only[hz]at h ⊢;have hx:QG P H2 t (.hptr r off)=QG P H t (.hptr r off):=by simp only[QG,hgq]
    rw[hx];cases hl:QG P H t (.hptr r off)with
    | none=>rw[hl]at h; cases h
    | some p =>
     obtain⟨v1,c1⟩:=p;rw[hl]at h;simp only[oJ,oP]at h;obtain⟨rfl,rfl,rfl⟩:=h;have h1:c1=1:=by
      simp only[QG]at hl;grind
     grind
   ·grind
   ·cases h
  ·cases hb
 ·rename_i t a x ho;split at hb
  ·rename_i r off hev;obtain rfl:=oB hb;have hm:mkData P F l o=none:=by simp only[mkData,ho]
   have hz:∀ H,opz P cl l F H o=match O8 P H t (.hptr r off) (ev F x)with|some H'=>some (.lit undef,H',2)|none=>none:=λH=>by simp only[opz,ho,opx,typed,hev,L3,oD,opu]; rfl
   unfold KO at h ⊢;rw[hm]at h ⊢;split at h
   ·simp only[hz]at h ⊢;cases hl:O8 P H t (.hptr r off) (ev F x)with
    | none=>rw[hl]at h; cases h
    | some H1 =>
     rw[hl]at h;obtain⟨rfl,rfl,rfl⟩:=h;unfold O8 at hl ⊢;cases hcs:A8 (ev F x)with
     | none=>rw[hcs]at hl; cases hl
     | some new =>
      cases hsz:nF P t with
      | none=>rw[hcs,hsz]at hl; cases hl
      | some n =>
       rw[hcs,hsz]at hl;simp only at hl ⊢;obtain⟨hb1,hl⟩:=cC hl;rw[hb1,oC];unfold DK at hl ⊢;rw[hgq];cases hk:fO H r with
       | none=>rw[hk]at hl; cases hl
       | some k =>
        rw[hk]at hl;simp only at hl ⊢;obtain⟨hb2,hl⟩:=cC hl;rw[hb2,oC];obtain rfl:=oB hl;refine⟨_,_,rfl,?_⟩;have hlt:r<H.length:=by
         unfold PM.fO at hk;split at hk
         ·rename_i k' hk'; exact(oO.1 hk').1
         ·cases hk
        rw[List.getElem?_set_self hlt]; rfl
   ·simp only[oJ,oP]at h;exact absurd h.2.2.symm hc
   ·cases h
  ·cases hb
 ·cases hb
theorem aGT {q v X H v' H' c}(h:QC q v X H=some (v',H',c)):(∃ sz k,v=.own 0 sz/\X=[some k]/\v'=.own q sz/\H'=H.set q (some k)/\c=2/\q<H.length/\H[q]?=some none/\LW k.tag=true) \/
  (X=[]/\(iU v&&iM v)=true/\v'=v/\H'=H/\c=0):=by
 unfold QC at h;split at h
 ·grind
 ·rename_i k;split at h
  ·rename_i r sz;obtain⟨hb,h⟩:=cC h;simp only[oA]at hb;obtain⟨⟨⟨h1,h2⟩,h3⟩,h4⟩:=hb;have h1:=oE h1;obtain⟨rfl,rfl,rfl⟩:=h;exact .inl ⟨sz,k,by grind,rfl,rfl,rfl,rfl,SG h2,aK6.1 h3,h4⟩
  grind
 grind
theorem a1P {r l o F H H' v c q}(h:stepT r P cl l o F H=some (v,H',c))(hb:QX r F o=some q)(hc:c≠0) H2 (hq:H2[q]?=H[q]?) :
  ∃ H3 c',stepT r P cl l o F H2=some (v,H3,c')/\H3=if 1<c then H2.set q ((H'[q]?).getD none) else H2:=by
 cases r with
 | none=>exact aZ4 h hb hc H2 hq
 | some q' =>
  obtain rfl:=oB (show some q'=some q from hb);simp only[stepT]at h ⊢;split at h
  ·rename_i t ho;cases hz:yI P t with
   | none=>rw[hz]at h; cases h
   | some z =>
    rw[hz]at h;simp only at h ⊢;obtain⟨hlt,h⟩:=cC h;obtain⟨rfl,rfl,rfl⟩:=h;have hlt:=SG hlt;have hlt2:q'<H2.length:=by grind
    rw[if_pos (by decide),bE,oT hlt2,oC,List.getElem?_set_self hlt];grind
  ·obtain⟨hnr,h⟩:=cC h;rw[hnr,oC];split at h
   ·rename_i v1 X c1 hs;rcases aGT h with ⟨sz,k,rfl,rfl,rfl,rfl,rfl,h1,h2,h3⟩|⟨_,_,_,_,h0⟩
    case inr=>exact absurd h0 hc
    have h4:q'<H2.length:=by grind
    rw[if_pos (by decide),List.getElem?_set_self h1];refine⟨_,2,?_,rfl⟩;simp only[QC,Nat.beq_refl,bE,oT h4,aK6.2 (hq.trans h2),h3,Bool.and_self,oC,Option.getD_some]
   ·cases h
  ·cases h
theorem a3F(hcl:BM P cl){md F' H' hl}(h:aKU P cl nt md (OO ops) ops.toList F H ops.toList.length=some (F',H',hl))(hh:aMN (OO ops) hl=true):∃ T:Trace P cl nt ops F H F' H',T.md=md:=by
 have hlen:ops.toList.length=ops.size:=by simp
 let st:Nat->Frm×Heap×a2C:=λk=>(aKU P cl nt md (OO ops) ops.toList F H k).getD ([],[],[])
 have hst:∀ k,k<=ops.size->aKU P cl nt md (OO ops) ops.toList F H k=some (st k):=λk hk=>by
  obtain⟨s,hs⟩:=aYT h (k:=k) (by omega);grind
 let op:Nat->PV×Heap×Nat:=λi=>match ops[i]? with|some o=>(stepT (NT md o i) P cl ops.toList o (st i).1 (st i).2.1).getD (.junk,[],0)|none=>(.junk,[],0)
 have hop:∀ i o,ops[i]?=some o->stepT (NT md o i) P cl ops.toList o (st i).1 (st i).2.1=some (op i)/\(op i).2.1=(st (i+1)).2.1/\RA nt (st i).1 o.dst (op i).1=some (st (i+1)).1/\(st (i+1)).2.2=(bif Nat.beq (op i).2.2 0 then (st i).2.2 else (i,(op i).2.2,QX (NT md o i) (st i).1 o)::(st i).2.2)/\okT md ((OO ops).getD i 0) i (QX (NT md o i) (st i).1 o) (op i).2.2 (op i).1 (op i).2.1=true:=by
  intro i o ho;have hi:i<ops.size:=(Array.getElem?_eq_some_iff.1 ho).1;have h1:=hst (i+1) (by omega);simp only[aKU,hst i (by omega)]at h1;have ho':ops.toList[i]?=some o:=by simpa using ho
  rw[ho']at h1;simp only at h1;split at h1
  ·rename_i v H1 c hs;have he:op i=(v,H1,c):=by simp only[op,ho,hs,Option.getD_some]
   obtain⟨hok,h1⟩:=cC h1;rw[aIO]at h1;split at h1
   ·rename_i F1 hp;rw[ZE]at h1;grind
   ·cases h1
  ·cases h1
 let bk:Nat->Option Nat:=λi=>match ops[i]? with|some o=>QX (NT md o i) (st i).1 o|none=>none
 have hmem:∀ k,k<=ops.size->∀ i,i<k->(op i).2.2≠0->(i,(op i).2.2,bk i)∈(st k).2.2:=by
  intro k
  induction k with
  | zero=>intro _ i hi; omega
  | succ k ih =>
   intro hk i hi hc;obtain⟨o,ho⟩:∃ o,ops[k]?=some o:=⟨ops[k],Array.getElem?_eq_getElem (by omega)⟩;rw[(hop k o ho).2.2.2.1];rcases oG i k with hl|hl
   ·have:=ih (by omega) i hl hc;cases Nat.beq (op k).2.2 0 with
    | true=>exact this
    | false=>exact List.mem_cons_of_mem _ this
   ·have:i=k:=by omega
    subst this;have:Nat.beq (op i).2.2 0=false:=AS hc;rw[this];have hbk:bk i=QX (NT md o i) (st i).1 o:=by simp only[bk,ho]
    rw[hbk];exact List.mem_cons_self
 have hlast:st ops.size=(F',H',hl):=by
  have:=hst ops.size (oM _);rw[<- hlen,h]at this;simpa using this.symm
 have hhits:∀ k,k<=ops.size->aMN (OO ops) (st k).2.2=true:=by
  intro k hk;obtain⟨d,rfl⟩:∃ d,k=ops.size-d:=⟨ops.size-k,by omega⟩;clear hk
  induction d with
  | zero=>rw[Nat.sub_zero,hlast]; exact hh
  | succ d ih =>
   rcases Nat.eq_zero_or_pos (ops.size-d)with h0|h0
   ·have:ops.size-(d+1)=ops.size-d:=by omega
    rw[this]; exact ih
   ·have e:ops.size-d=(ops.size-(d+1))+1:=by omega
    obtain⟨o,ho⟩:∃ o,ops[ops.size-(d+1)]?=some o:=⟨_,Array.getElem?_eq_getElem (by omega)⟩;have h4:=(hop _ o ho).2.2.2.1;rw[<- e]at h4;rw[h4]at ih;cases hb:Nat.beq (op (ops.size-(d+1))).2.2 0 with
    | true=>rw[hb]at ih; exact ih
    | false =>
     rw[hb]at ih;simp only[oD,aMN,oA]at ih;exact ih.2
 refine⟨⟨λi=>(st i).1,λi=>(st i).2.1,λi=>(op i).1,λi=>(op i).2.2,?_,?_,by simp only[hlast],by simp only[hlast],md,?_,bk,?_,?_,?_⟩,rfl⟩
 ·have h0:=hst 0 (Nat.zero_le _);simp only[aKU,oJ]at h0;rw[<- h0]
 ·have h0:=hst 0 (Nat.zero_le _);simp only[aKU,oJ]at h0;rw[<- h0]
 ·intro i o ho;obtain⟨h1,h2,h3,_,h5⟩:=hop i o ho;exact⟨by rw[h1,<- h2],h3,by rw[<- h2]; exact h5⟩
 ·intro i o ho;simp only[bk,ho]
 ·intro i j hij hj hi hcj hc;obtain⟨o,ho⟩:∃ o,ops[j]?=some o:=⟨ops[j],Array.getElem?_eq_getElem hj⟩;have h1:=hhits (j+1) (by omega);rw[(hop j o ho).2.2.2.1,AS hcj]at h1;simp only[oD,aMN,oA]at h1;have hbk:bk j=QX (NT md o j) (st j).1 o:=by simp only[bk,ho]
  rw[hbk];exact aVF h1.1 (hmem j (by omega) i hij hi) hc
 ·intro i o q ho hq hc H2 h2;obtain⟨h1,h3,_,_,_⟩:=hop i o ho;have hbk:bk i=QX (NT md o i) (st i).1 o:=by simp only[bk,ho]
  have h4:stepT (NT md o i) P cl ops.toList o (st i).1 (st i).2.1=some ((op i).1,(st (i+1)).2.1,(op i).2.2):=by rw[h1,<- h3]
  exact a1P h4 (hbk ▸ hq) hc H2 h2
section
variable {F':Frm} {H':Heap}
def aHW(ops:Array Oper)(i:Nat):Option Tmp:=(ops[i]?).bind (·.dst)
def VB(T:Trace P cl nt ops F H F' H')(S:Nat->Bool)(t:Nat):Nat->PV
 | 0=>iL F t
 | k+1=>if S k=true/\aHW ops k=some t then T.vs k else VB T S t k
def aJZ(T:Trace P cl nt ops F H F' H')(k:Nat)(H2:Heap):Heap:=match T.bs k with
 | some q=>H2.set q (((T.Hs (k+1))[q]?).getD none)
 | none=>T.Hs (k+1)
def SD(T:Trace P cl nt ops F H F' H')(S:Nat->Bool):Nat->Heap
 | 0=>H
 | k+1=>if S k=true/\1<T.cs k then aJZ T k (SD T S k) else SD T S k
variable (T:Trace P cl nt ops F H F' H')
theorem aY3 {nt F F' d v}(h:RA nt F d v=some F') t:iL F' t=if d=some t then v else iL F t:=by
 cases d with
 | none=>simp only[RA,oJ]at h; grind
 | some u =>
  simp only[RA]at h;cases hb:Nat.blt u nt with
  | false=>grind
  | true =>
   rw[hb]at h;simp only[oC,oJ]at h;subst h;rw[uD];grind
theorem aO6 t:∀ k,k<=ops.size->VB T (λ_=>true) t k=iL (T.Fs k) t
 | 0,_=>by rw[VB,T.f0]
 | k+1,hk=>by
  obtain⟨o,ho⟩:∃ o,ops[k]?=some o:=⟨ops[k],Array.getElem?_eq_getElem (by omega)⟩;rw[VB,aO6 t k (by omega),aY3 (T.step k o ho).2.1 t];simp only[aHW,ho,Option.bind_some,true_and]
theorem aGB {S S'}{t:Nat}:∀ {k},(∀ j,j<k->aHW ops j=some t->S j=S' j)->VB T S t k=VB T S' t k
 | 0,_=>rfl
 | k+1,h=>by
  rw[VB,VB,aGB λj hj=>h j (by omega)];grind
theorem aID {S}{t k:Nat}:∀ {n},k<=n->(∀ j,k<=j->j<n->aHW ops j=some t->S j=false)->VB T S t n=VB T S t k
 | 0,hk,_=>by grind
 | n+1,hk,h=>by
  rcases oG k (n+1)with hl|hl
  ·rw[VB,aID (by omega) λj h1 h2=>h j h1 (by omega),if_neg];grind
  grind
theorem aZB(hcl:BM P cl){l o F H H' v c}(h:KO P cl l o F H=some (v,H',c)):(c<=1->H'=H)/\(c=0->∀ H2,KO P cl l o F H2=some (v,H2,0)):=by
 unfold KO at h ⊢;split at h
 ·split at h
  ·obtain⟨h1,h2⟩:=a5W hcl h;grind
  ·grind
  grind
 ·grind
 grind
theorem aQM(hcl:BM P cl){r l o F H H' v c}(h:stepT r P cl l o F H=some (v,H',c)):(c<=1->H'=H)/\(c=0->∀ H2,stepT r P cl l o F H2=some (v,H2,0)):=by
 cases r with
 | none=>exact aZB hcl h
 | some q =>
  simp only[stepT]at h;split at h
  ·grind
  ·rename_i cc hcc;obtain⟨hnr,h⟩:=cC h;split at h
   ·rename_i v1 X c1 hs;rcases aGT h with ⟨_,_,_,_,_,_,rfl,_⟩|⟨rfl,h1,rfl,rfl,rfl⟩
    ·simp
    ·refine⟨λ_=>rfl,λ_ H2=>?_⟩;simp only[stepT,hcc];rw[<- hcc,hnr,oC,hs];simp only[QC,h1,oC]
   grind
  grind
theorem Trace.a4R {k q}(hk:k<ops.size)(hq:T.bs k=some q)(hc:T.cs k≠0):T.Hs (k+1)=if 1<T.cs k then (T.Hs k).set q (((T.Hs (k+1))[q]?).getD none) else T.Hs k:=by
 obtain⟨o,ho⟩:∃ o,ops[k]?=some o:=⟨ops[k],Array.getElem?_eq_getElem hk⟩;obtain⟨H3,c,h1,h2⟩:=T.loc k o q ho hq hc (T.Hs k) rfl;rw[(T.step k o ho).1]at h1;grind
theorem aKL(hcl:BM P cl):∀ k,k<=ops.size->SD T (λ_=>true) k=T.Hs k
 | 0,_=>by rw[SD,T.h0]
 | k+1,hk=>by
  obtain⟨o,ho⟩:∃ o,ops[k]?=some o:=⟨ops[k],Array.getElem?_eq_getElem (by omega)⟩;rw[SD,aKL hcl k (by omega)]
  by_cases hc:1<T.cs k
  ·rw[if_pos ⟨rfl,hc⟩];unfold aJZ;cases hq:T.bs k with
   | none=>rfl
   | some q =>
    have:=T.a4R (by omega) hq (by omega);grind
  ·rw[if_neg (λh=>hc h.2)];exact((aQM hcl (T.step k o ho).1).1 (by omega)).symm
theorem ZX {S S'}:∀ {k},(∀ j,j<k->1<T.cs j->S j=S' j)->SD T S k=SD T S' k
 | 0,_=>rfl
 | k+1,h=>by
  rw[SD,SD,ZX λj hj=>h j (by omega)];grind
theorem aH9 {S k}:∀ {n},k<=n->(∀ j,k<=j->j<n->1<T.cs j->S j=false)->SD T S n=SD T S k
 | 0,hk,_=>by grind
 | n+1,hk,h=>by
  rcases oG k (n+1)with hl|hl
  ·rw[SD,aH9 (by omega) λj h1 h2=>h j h1 (by omega),if_neg];grind
  grind
theorem aU2 {q:Nat} {S S':Nat->Bool}:∀ {n:Nat},(∀ j,j<n->1<T.cs j->T.bs j=none\/T.bs j=some q->S j=S' j)->(SD T S n).length=(SD T S' n).length/\(SD T S n)[q]?=(SD T S' n)[q]?
 | 0,_=>⟨rfl,rfl⟩
 | n+1,h=>by
  obtain⟨e1,e2⟩:=aU2 (q:=q) (S:=S) (S':=S') (n:=n) λj hj=>h j (by omega)
  rw[SD,SD]
  by_cases hd:1<T.cs n
  ·cases hb:T.bs n with
   | none =>
    have:=h n (by omega) hd (.inl hb);rw[this]
    by_cases hs:S' n=true
    ·rw[if_pos ⟨hs,hd⟩,if_pos ⟨hs,hd⟩];simp only[aJZ,hb,and_self]
    ·grind
   | some p =>
    by_cases hpq:p=q
    ·subst hpq;have:=h n (by omega) hd (.inr hb);rw[this]
     by_cases hs:S' n=true
     ·rw[if_pos ⟨hs,hd⟩,if_pos ⟨hs,hd⟩];simp only[aJZ,hb,List.length_set];grind
     ·grind
    ·have key:∀ X:Heap,(aJZ T n X).length=X.length/\(aJZ T n X)[q]?=X[q]?:=λX=>by
      simp only[aJZ,hb,List.length_set,true_and];grind
     grind
  ·grind
theorem aRW {i:Nat} {S S':Nat->Bool} (hx:1<T.cs i) (hi:S i=false) (hi':S' i=true) (hne:∀ j,j≠i->S' j=S j) (hlate:∀ j,i<j->j<ops.size->1<T.cs j->S j=true->OS (T.bs j) (T.bs i)=true) :
  ∀ n,i<n->n<=ops.size->SD T S' n=aJZ T i (SD T S n)
 | 0,h,_=>by omega
 | n+1,h,hn=>by
  rcases oG i n with hl|hl
  ·rw[SD,aRW hx hi hi' hne hlate n hl (by omega),SD,hne n (by omega)]
   by_cases hc:S n=true/\1<T.cs n
   ·rw[if_pos hc,if_pos hc];have:=hlate n hl (by omega) hc.2 hc.1;cases hb1:T.bs n with
    | none=>rw[hb1]at this; cases this
    | some p =>
     cases hb2:T.bs i with
     | none=>rw[hb1,hb2]at this; cases this
     | some q =>
      rw[hb1,hb2]at this;simp only[OS,Bool.not_eq_true']at this;have hne:p≠q:=λe=>by rw[e,Nat.beq_refl]at this; cases this
      simp only[aJZ,hb1,hb2];exact List.set_comm _ _ (Ne.symm hne)
   ·grind
  ·have:i=n:=by omega
   subst this;rw[SD,if_pos ⟨hi',hx⟩,SD,if_neg (λh=>by rw[hi]at h; cases h.1)]
   congr 1
   exact ZX T λj hj _=>hne j (by omega)
theorem aX0 S:∀ k,∃ F1,∀ t,iL F1 t=VB T S t k
 | 0=>⟨F,λt=>rfl⟩
 | k+1=>by
  obtain⟨F1,h1⟩:=aX0 S k
  by_cases hS:S k=true
  ·cases hd:aHW ops k with
   | none=>exact⟨F1,λt=>by rw[h1,VB]; grind⟩
   | some d =>
    refine⟨MH F1 d (T.vs k),λt=>?_⟩;rw[C9,h1,VB];grind
  ·exact⟨F1,λt=>by rw[h1,VB]; grind⟩
theorem qJ.congr {w G μ F F' a}(h:qJ w G μ nt F a)(he:∀ t,iL F' t=iL F t):qJ w G μ nt F' a:=⟨h.size,λt=>by rw[he]; exact h.slot t,h.defers⟩
theorem I.congr {F F' H a w}(h:I n0 wi Gi μi nt F H a w)(he:∀ t,iL F' t=iL F t):I n0 wi Gi μi nt F' H a w:=by
 obtain⟨G,μ,e,hW,hF⟩:=h;exact⟨G,μ,e,hW,hF.congr he⟩
theorem aPS {o:Oper}{F F' H}(h:∀ t∈o.looksAt ops,iL F' t=iL F t):KO P cl ops.toList o F' H=KO P cl ops.toList o F H:=by
 have hev:∀ x∈o.op.operands,ev F' x=ev F x:=λx hx=>by
  cases x with
  | tmp t=>exact h t (List.mem_append_left _ (List.mem_filterMap.2 ⟨.tmp t,by simpa using hx,rfl⟩))
  | _=>rfl
 have hg:guardOf F' ops.toList o=guardOf F ops.toList o:=by
  unfold guardOf;split
  ·rfl
  ·rename_i j want hgu;split
   ·rename_i p hp;split
    ·rename_i t ht;rw[h t (List.mem_append_right _ (by
      rw[hgu];have hp:ops[j]?=some p:=by simpa using hp
      simp[hp,ht]))]
    ·rfl
   ·rfl
 have hm:mkData P F' ops.toList o=mkData P F ops.toList o:=by
  unfold mkData;split
  ·rename_i t x y ho;rw[hev x (by rw[ho]; simp[Op.operands]),hev y (by rw[ho]; simp[Op.operands])]
  ·rfl
 have hz:opz P cl ops.toList F' H o=opz P cl ops.toList F H o:=by
  unfold opz;rw[a18 hev];split
  ·rename_i t x y ho;rw[hev x (by rw[ho]; simp[Op.operands]),hev y (by rw[ho]; simp[Op.operands])]
  ·rfl
 unfold KO;grind
def aIY(m:List Nat) (S:Nat->Bool):Prop:=∀ j,S j=true->∀ i,(m.getD j 0).testBit i=true->S i=true
theorem aRE {p p' i}(h1:p i=true)(h2:p' i=false)(h3:∀ j,j≠i->p' j=p j):∀ n,i<n->(List.range n).countP p'+1=(List.range n).countP p
 | 0,h=>by omega
 | n+1,h=>by
  rw[List.range_succ,List.countP_append,List.countP_append];rcases oG i n with hl|hl
  ·have:=aRE h1 h2 h3 n hl;grind
  ·have e:(List.range i).countP p'=(List.range i).countP p:=List.countP_congr λj hj=>by
    grind
   grind
theorem a2R {G:Gd} {μ:Mp} {H:Heap} {w:World} (hW:eA n0 G μ H w) {q:Nat} (hq:q<H.length) (hn:μ.loc q=none) (c:Array Value) (t:TypeId) :
  Ext n0 w G μ (w.alloc (.cells c t)) G ⟨λs=>if s=q then some w.heap.size else μ.loc s,μ.len,λs=>if s=q then 0 else μ.sh s⟩/\eA n0 G ⟨λs=>if s=q then some w.heap.size else μ.loc s,μ.len,λs=>if s=q then 0 else μ.sh s⟩ (H.set q (some ⟨lits c,t,false,false,none⟩)) (w.alloc (.cells c t)):=by
 have hnew:(w.alloc (.cells c t)).heap[w.heap.size]?=some (.cells c t (0,0)):=by
  show (w.heap.push _)[w.heap.size]?=_;simp
 have e0:=YO hW (.cells c t) none none;have e:Ext n0 w G μ (w.alloc (.cells c t)) G ⟨λs=>if s=q then some w.heap.size else μ.loc s,μ.len,λs=>if s=q then 0 else μ.sh s⟩:={ e0 with
  map:=λr b hb=>by grind
  len:=λr n h=>h
  sh:=λr b hb=>by
   show (if r=q then 0 else μ.sh r)=μ.sh r;rw[if_neg (by rintro rfl; rw[hn]at hb; cases hb)] }
 have key:∀ (s:Nat) (k1:Blk),(H.set q (some ⟨lits c,t,false,false,none⟩))[s]?=some (some k1)->(s=q/\k1=⟨lits c,t,false,false,none⟩)\/(s≠q/\H[s]?=some (some k1)):=by grind
 refine⟨e,?_,?_,?_,hW.lt.step e.good λb hb=>Nat.lt_of_lt_of_le (hW.lt b hb) e.size,?_,λb hb=>hW.base b (oR e.size hb),?_⟩
 case refine_5 =>
  refine hW.rows.step e.toMono.aZ e.size (λ_=>rfl) (λj b hj=>⟨Below.heap_alloc _ _ _ (hW.rows.sep j b hj).1,id,λs k1 hs hf1 hl=>?_⟩) (λs k1 t1 l1 hs hg1 ht1=>?_)
  ·rcases key s k1 hs with ⟨rfl,rfl⟩|⟨hne,hs'⟩
   ·simp only[if_true]at hl;cases hl;exact absurd (hW.rows.sep j _ hj).1 (Nat.lt_irrefl _)
   ·grind
  ·grind
 ·intro s k1 b hs hb;rcases key s k1 hs with ⟨rfl,rfl⟩|⟨hne,hs'⟩
  ·simp only[if_true]at hb;cases hb;refine⟨c,hnew,?_,λ_=>by simp[lits],λh=>(by cases h),λ_=>⟨hW.base _ (oM _),λhG=>Nat.lt_irrefl _ (hW.lt _ hG)⟩⟩;refine aK.mk λi p hp=>?_
   obtain⟨v,h1,h2⟩:=(IJ (w:=w.alloc (.cells c t)) (G:=G) (μ:=⟨λx=>if x=s then some w.heap.size else μ.loc x,μ.len,λx=>if x=s then 0 else μ.sh x⟩) c).get hp
   simp_all
  ·simp only[if_neg hne]at hb;obtain⟨c',h2,h3,h4⟩:=hW.blk s k1 b hs' hb;have e1:(w.alloc (.cells c t)).heap[b]?=w.heap[b]?:=Below.heap_alloc _ _ _ (NZ h2);simp only[if_neg hne];exact⟨c',e1.trans h2,aK.mono e.toMono e1 _ _ h3,h4⟩
 ·intro s k1 g hs hg;rcases key s k1 hs with ⟨rfl,rfl⟩|⟨hne,hs'⟩
  ·cases hg
  ·exact hW.tags s k1 g hs' hg
 ·intro s1 s2 k1 k2 b h1 h2 f1 f2 m1 m2;rcases key s1 k1 h1 with ⟨rfl,rfl⟩|⟨l1,h1'⟩ <;> rcases key s2 k2 h2 with ⟨e2,rfl⟩|⟨l2,h2'⟩
  ·grind
  ·simp only[if_true]at m1;simp only[if_neg l2]at m2;cases m1;exact absurd (hW.GQ h2' m2) (Nat.lt_irrefl _)
  ·subst e2;simp only[if_true]at m2;simp only[if_neg l1]at m1;cases m2;exact absurd (hW.GQ h1' m1) (Nat.lt_irrefl _)
  ·simp only[if_neg l1]at m1;simp only[if_neg l2]at m2;exact hW.inj s1 s2 k1 k2 b h1' h2' f1 f2 m1 m2
 ·intro r hr;rw[List.length_set]at hr;have:=hW.top r hr;exact⟨by show (if r=q then _ else _)=_; rw[if_neg (by omega)]; exact this.1,this.2⟩
theorem aW8 {o}(h:MZ o=true):o.guard=none/\(∃ d,o.dst=some d)/\((∃ t,o.op=.alloc t)\/∃ c,o.op=.call c):=by
 unfold MZ at h;rw[Bool.or_eq_true]at h;rcases h with h|h
 ·unfold isVar at h;grind
 ·unfold PT at h;split at h
  ·unfold JN at h;grind
  grind
theorem aQW {m o k q}(h:NT m o k=some q):∃ b,m=some b/\q=b+k/\MZ o=true:=by
 unfold NT at h;grind
def aVZ(T:Trace P cl nt ops F H F' H') (n0:Nat->Prop) (wi:World) (Gi:Gd) (μi:Mp):Prop :=
 ∀ (S:Nat->Bool) (F1:Frm) (w:World) (a:Act),aIY (OO ops) S->(∀ t,iL F1 t=VB T S t ops.size)->I n0 wi Gi μi nt F1 (SD T S ops.size) a w->∀ i o q,ops[i]?=some o->S i=false->NT T.md o i=some q ->
  ∃ G μ,Ext n0 wi Gi μi w G μ/\eA n0 G μ (SD T S ops.size) w/\qJ w G μ nt F1 a/\μ.loc q=none/\((SD T S ops.size)[q]?=some none->μ.len q=none)
theorem aVA {b}:∀ {F} t,aU4 b F=true->below b (iL F t)=true
 | [],t,_=>rfl
 | (u,p)::F,t,h=>by
  simp only[aU4,oA]at h;rw[uD];split
  ·grind
  ·exact aVA t h.2
mutual
theorem aYJ {p p':Nat->Bool} (h:∀ r,p r=true->p' r=true):∀ v:PV,inP p v=true->inP p' v=true
 | .lit _,_|.vals ..,_|.iptr _,_|.tl ..,_|.tp ..,_|.junk,_|.row ..,_|.rp ..,_|.mp _,_|.tm _,_=>rfl
 | .own r _,hv=>h r hv
 | .op r _ _ _,hv=>h r hv
 | .win r _ _ _,hv=>h r hv
 | .qs r _,hv=>h r hv
 | .hptr r _,hv=>h r hv
 | .hs r _ _ _ _,hv=>h r hv
 | .agg cs,hv=>by simp only[inP]at hv ⊢; exact aC8 h cs hv
 | .tuple cs,hv=>by simp only[inP]at hv ⊢; exact aC8 h cs hv
 | .clo _ f c,hv=>by
  simp only[inP,oA]at hv ⊢;exact⟨aC8 h f hv.1,aC8 h c hv.2⟩
theorem aC8 {p p':Nat->Bool} (h:∀ r,p r=true->p' r=true):∀ l:List PV,inP.inPs p l=true->inP.inPs p' l=true
 | [],_=>rfl
 | q::l,hv=>by
  simp only[inP.inPs,oA]at hv ⊢;exact⟨aYJ h q hv.1,aC8 h l hv.2⟩
end
mutual
theorem aVS {m:Nat} {p:Nat->Bool} (h:∀ r,r<m->p r=true):∀ v:PV,below m v=true->inP p v=true
 | .lit _,_|.vals ..,_|.iptr _,_|.tl ..,_|.tp ..,_|.junk,_|.row ..,_|.rp ..,_|.mp _,_|.tm _,_=>rfl
 | .own r _,hv=>h r (SG (by simpa only[below]using hv))
 | .op r _ _ _,hv=>h r (SG (by simpa only[below]using hv))
 | .win r _ _ _,hv=>h r (SG (by simpa only[below]using hv))
 | .qs r _,hv=>h r (SG (by simpa only[below]using hv))
 | .hptr r _,hv=>h r (SG (by simpa only[below]using hv))
 | .hs r _ _ _ _,hv=>h r (SG (by simpa only[below]using hv))
 | .agg cs,hv=>by simp only[below]at hv; simp only[inP]; exact aDK h cs hv
 | .tuple cs,hv=>by simp only[below]at hv; simp only[inP]; exact aDK h cs hv
 | .clo _ f c,hv=>by
  simp only[below,oA]at hv;simp only[inP,oA];exact⟨aDK h f hv.1,aDK h c hv.2⟩
theorem aDK {m:Nat} {p:Nat->Bool} (h:∀ r,r<m->p r=true):∀ l:List PV,below.belows m l=true->inP.inPs p l=true
 | [],_=>rfl
 | q::l,hv=>by
  simp only[below.belows,oA]at hv;simp only[inP.inPs,oA];exact⟨aVS h q hv.1,aDK h l hv.2⟩
end
mutual
theorem a2L {p:Nat->Bool} {w:World} {G:Gd} {μ μ':Mp} (h:∀ r,p r=true->μ'.loc r=μ.loc r/\μ'.len r=μ.len r/\μ'.sh r=μ.sh r):∀ (q:PV) (v:Value),inP p q=true->VR w G μ q v->VR w G μ' q v
 | .lit u,v,_,hv=>by rw[VR]at hv ⊢; exact hv
 | .vals ..,v,_,hv=>by rw[VR]at hv ⊢; exact hv
 | .iptr _,v,_,hv=>by rw[VR]at hv ⊢; exact hv
 | .tl ..,v,_,hv=>by rw[VR]at hv ⊢; exact hv
 | .tp ..,v,_,hv=>by rw[VR]at hv ⊢; exact hv
 | .row ..,v,_,hv=>by rw[VR]at hv ⊢; exact hv
 | .rp ..,v,_,hv=>by rw[VR]at hv ⊢; exact hv
 | .mp _,v,_,hv=>by rw[VR]at hv ⊢; exact hv
 | .tm _,v,_,hv=>by rw[VR]at hv ⊢; exact hv
 | .junk,v,_,hv=>by rw[VR]; trivial
 | .hptr r off,v,hb,hv=>by
  have:=h r hb;rw[VR]at hv ⊢; rw[this.1,this.2.2]; exact hv
 | .hs r off l c s,v,hb,hv=>by
  have:=h r hb;rw[VR]at hv ⊢; rw[this.1,this.2.2]; exact hv
 | .own r s,v,hb,hv=>by
  have:=h r hb;rw[VR]at hv ⊢; rw[this.1,this.2.1,this.2.2]; exact hv
 | .op r i off s,v,hb,hv=>by
  have:=h r hb;rw[VR]at hv ⊢; rw[this.1,this.2.2]; exact hv
 | .win r lo n s,v,hb,hv=>by
  have:=h r hb;rw[VR]at hv ⊢; rw[this.1,this.2.1,this.2.2]; exact hv
 | .qs r s,v,hb,hv=>by
  have:=h r hb;rw[VR]at hv ⊢; rw[this.1,this.2.1,this.2.2]; exact hv
 | .agg cs,v,hb,hv=>by
  rw[VR]at hv ⊢;obtain⟨vs,h1,h2⟩:=hv;exact⟨vs,h1,aNF h cs _ (by simpa only[inP]using hb) h2⟩
 | .tuple cs,v,hb,hv=>by
  rw[VR]at hv ⊢;obtain⟨vs,h1,h2⟩:=hv;exact⟨vs,h1,aNF h cs _ (by simpa only[inP]using hb) h2⟩
 | .clo fn f c,v,hb,hv=>by
  rw[VR]at hv ⊢;simp only[inP,oA]at hb;obtain⟨fs,cs,h1,h2,h3⟩:=hv;exact⟨fs,cs,h1,aNF h f _ hb.1 h2,aNF h c _ hb.2 h3⟩
theorem aNF {p:Nat->Bool} {w:World} {G:Gd} {μ μ':Mp} (h:∀ r,p r=true->μ'.loc r=μ.loc r/\μ'.len r=μ.len r/\μ'.sh r=μ.sh r):∀ (ps:List PV) (vs:List Value),inP.inPs p ps=true->VRs w G μ ps vs->VRs w G μ' ps vs
 | [],vs,_,hv=>by rw[VRs]at hv ⊢; exact hv
 | q::ps,vs,hb,hv=>by
  rw[VRs]at hv ⊢;simp only[inP.inPs,oA]at hb;obtain⟨x,xs,h1,h2,h3⟩:=hv;exact⟨x,xs,h1,a2L h q x hb.1 h2,aNF h ps xs hb.2 h3⟩
end
theorem a0E {p w G μ μ'}(h:∀ r,p r=true->μ'.loc r=μ.loc r/\μ'.len r=μ.len r/\μ'.sh r=μ.sh r){b off ps}(hn:inP.inPs p ps=true)(hc:aK w G μ b off ps):aK w G μ' b off ps:=by
 obtain⟨vs,h1,h2⟩:=hc.values;exact aK.gF (aNF h ps vs hn h1) h2
theorem aUA {p:Nat->Bool}:∀ {H:Heap} {r:Nat} {k:Blk},LF p H=true->H[r]?=some (some k)->k.tag.isSome=true\/inP.inPs p k.cells=true
 | [],r,k,_,h=>by simp at h
 | x::H,0,k,hp,h=>by
  simp only[List.getElem?_cons_zero,oJ]at h;subst h;simp only[LF,ON,oA,Bool.or_eq_true]at hp;exact hp.1
 | x::H,r+1,k,hp,h=>by
  simp only[LF,oA]at hp;exact aUA (H:=H) (r:=r) hp.2 (by simpa using h)
def aRO(b:Nat) (S:Nat->Bool) (r:Nat):Bool:=Nat.blt r b||S (r-b)
theorem aL5 {b k S}(hS:aIY (OO ops) S)(hk:S k=true):∀ r,OG b ((OO ops).getD k 0 ||| 2^k) r=true->aRO b S r=true:=by
 intro r h;unfold OG at h;unfold aRO;rw[Bool.or_eq_true]at h ⊢;rcases h with h|h
 ·grind
 ·right;rw[oA,Nat.testBit_or,Bool.or_eq_true]at h;rcases h.2 with h1|h1
  ·exact hS k hk _ h1
  grind
theorem aVH {b}(hm:T.md=some b)(hF:aU4 b F=true){S}(hS:aIY (OO ops) S) t:∀ k,k<=ops.size->inP (aRO b S) (VB T S t k)=true
 | 0,_=>aVS (λr hr=>by unfold aRO; simp_all) _ (aVA t hF)
 | k+1,hk=>by
  obtain⟨o,ho⟩:∃ o,ops[k]?=some o:=⟨ops[k],Array.getElem?_eq_getElem (by omega)⟩;rw[VB]
  by_cases hc:S k=true/\aHW ops k=some t
  ·rw[if_pos hc];have h3:=(T.step k o ho).2.2;rw[hm]at h3;simp only[okT,oA]at h3;exact aYJ (aL5 hS hc.1) _ h3.1
  ·rw[if_neg hc];exact aVH hm hF hS t k (by omega)
theorem aQ3 {b}(hm:T.md=some b)(hH:aH8 b H=true){S}(hS:aIY (OO ops) S):∀ k,k<=ops.size->∀ (r:Nat) x,(SD T S k)[r]?=some (some x)->x.tag.isSome=true\/inP.inPs (aRO b S) x.cells=true
 | 0,_,r,x,h=>by
  rcases aND hH h with h|h
  ·grind
  ·exact .inr (aDK (λr hr=>by unfold aRO; rw[bE,oT hr]; rfl) _ h)
 | k+1,hk,r,x,h=>by
  obtain⟨o,ho⟩:∃ o,ops[k]?=some o:=⟨ops[k],Array.getElem?_eq_getElem (by omega)⟩;rw[SD]at h
  by_cases hc:S k=true/\1<T.cs k
  ·rw[if_pos hc]at h;have h3:=(T.step k o ho).2.2;rw[<- T.hbs k o ho,hm]at h3;simp only[okT,oA,RI]at h3;replace h3:=h3.2;rw[bE,oT hc.2,oC]at h3;unfold aJZ at h;split at h
   ·rename_i q hq;rw[hq]at h3;simp only at h3;rw[List.getElem?_set]at h
    by_cases hqr:q=r
    ·rw[if_pos hqr]at h;split at h
     ·have h5:=oB h;cases h6:(T.Hs (k+1))[q]? with
      | none=>rw[h6]at h5; cases h5
      | some y =>
       rw[h6]at h5;subst h5;have h7:fO (T.Hs (k+1)) q=some x:=by unfold PM.fO; rw[h6]
       rw[h7]at h3;simp only[ON,Bool.or_eq_true]at h3;rcases h3 with h3|h3
       ·grind
       ·exact .inr (aC8 (aL5 hS hc.1) _ h3)
     ·cases h
    ·rw[if_neg hqr]at h;exact aQ3 hm hH hS k (by omega) r x h
   ·rename_i hq;rw[hq]at h3;rcases aUA h3 h with h3|h3
    ·grind
    ·exact .inr (aC8 (aL5 hS hc.1) _ h3)
  ·rw[if_neg hc]at h;exact aQ3 hm hH hS k (by omega) r x h
def aWJ(b:Nat)(S:Nat->Bool)(X:Heap)(μ:Mp):Mp:=⟨λr=>if b<=r/\S (r-b)=false then none else μ.loc r,λr=>if b<=r/\S (r-b)=false/\PW X r=true then none else μ.len r,μ.sh⟩
theorem aU3 {b S X μ}:∀ s,aRO b S s=true->(aWJ b S X μ).loc s=μ.loc s/\(aWJ b S X μ).len s=μ.len s/\(aWJ b S X μ).sh s=μ.sh s:=λs hs=>by
 have h:¬ (b<=s/\S (s-b)=false):=λh=>by
  unfold aRO at hs;rw[Bool.or_eq_true]at hs;rcases hs with hs|hs
  ·have:=SG hs; omega
  grind
 refine⟨?_,?_,rfl⟩
 ·show (if b<=s/\S (s-b)=false then none else μ.loc s)=μ.loc s;grind
 ·show (if b<=s/\S (s-b)=false/\PW X s=true then none else μ.len s)=μ.len s;grind
theorem a4I(hmb:∀ b,T.md=some b->aU4 b F=true/\aH8 b H=true/\∀ r,b<=r->μi.loc r=none/\μi.len r=none):aVZ T n0 wi Gi μi:=by
 intro S F1 w a hC hF1 hI i o q ho hS hr;obtain⟨b,hm,rfl,ha⟩:=aQW hr;obtain⟨hF,hH,hμ⟩:=hmb b hm;obtain⟨G,μ,e,hW,hFI⟩:=hI;refine⟨G,aWJ b S (SD T S ops.size) μ,?_,?_,?_,?_,?_⟩
 ·exact { e with
   map:=λr x hx=>by
    show (if b<=r/\S (r-b)=false then none else μ.loc r)=some x;rw[if_neg (λh=>by rw[(hμ r h.1).1]at hx; cases hx)];exact e.map r x hx
   len:=λr x hx=>by
    show (if b<=r/\S (r-b)=false/\PW (SD T S ops.size) r=true then none else μ.len r)=some x;rw[if_neg (λh=>by rw[(hμ r h.1).2]at hx; cases hx)];exact e.len r x hx }
 ·refine⟨?_,?_,?_,hW.lt,?_,hW.base,hW.rows.a7H λr=>?_⟩
  case refine_5 =>
   show (if b<=r/\S (r-b)=false then none else μ.loc r)=none\/(if b<=r/\S (r-b)=false then none else μ.loc r)=μ.loc r;grind
  ·intro r k x hk hx;change (if b<=r/\S (r-b)=false then none else μ.loc r)=some x at hx;split at hx
   ·cases hx
   ·obtain⟨c,h1,h2,h3⟩:=hW.blk r k x hk hx;refine⟨c,h1,?_,h3⟩;rcases aQ3 T hm hH hC ops.size (oM _) r k hk with h4|h4
    ·obtain⟨g,hg⟩:=Option.isSome_iff_exists.1 h4;rw[(hW.tags r k g hk hg).1]at h2 ⊢;exact EA (nN _ _) h2
    ·exact a0E aU3 h4 h2
  ·intro r k g hk hg;obtain⟨h1,h2⟩:=hW.tags r k g hk hg;refine⟨h1,?_⟩;show (if b<=r/\S (r-b)=false/\PW (SD T S ops.size) r=true then none else μ.len r)=_;rw[if_neg (λh=>by have h3:=aK6.1 h.2.2; rw[hk]at h3; cases h3)];exact h2
  ·intro r s k l x h1 h2 f1 f2 m1 m2;change (if b<=r/\S (r-b)=false then none else μ.loc r)=some x at m1;change (if b<=s/\S (s-b)=false then none else μ.loc s)=some x at m2;split at m1
   ·cases m1
   ·split at m2
    ·cases m2
    ·exact hW.inj r s k l x h1 h2 f1 f2 m1 m2
  ·intro r hr;have:=hW.top r hr;refine⟨?_,?_⟩
   ·show (if b<=r/\_ then _ else _)=_;grind
   ·show (if b<=r/\S (r-b)=false/\PW (SD T S ops.size) r=true then none else μ.len r)=_;grind
 ·refine⟨hFI.size,λt=>?_,hFI.defers⟩;have hv:=hFI.slot t;rw[hF1]at hv ⊢;exact a2L aU3 _ _ (aVH T hm hF hC t ops.size (oM _)) hv
 ·show (if b<=b+i/\S (b+i-b)=false then none else μ.loc (b+i))=none;rw[if_pos ⟨Nat.le_add_right _ _,by rw[Nat.add_sub_cancel_left]; exact hS⟩]
 ·intro hx;show (if b<=b+i/\S (b+i-b)=false/\PW (SD T S ops.size) (b+i)=true then none else μ.len (b+i))=none;rw[if_pos ⟨Nat.le_add_right _ _,by rw[Nat.add_sub_cancel_left]; exact hS,aK6.2 hx⟩]
theorem a5N {G:Gd} {μ:Mp} {H:Heap} {w:World} (hW:eA n0 G μ H w) {q:Nat} (hq:q<H.length) (hn:μ.loc q=none) (hl:μ.len q=none) {w':World} {G':Gd} {μ':Mp} {k:Blk} {sz:Nat} {v:Value}
  (e:Ext (OL w) w G.bare aZ w' G' μ') (hW':eA (OL w) G' μ' [some k] w') (hv:VR w' G' μ' (.own 0 sz) v) (ht:LW k.tag=true) :
  ∃ μ2,Ext n0 w G μ w' (G'.with G) μ2/\eA n0 (G'.with G) μ2 (H.set q (some k)) w'/\VR w' (G'.with G) μ2 (.own q sz) v:=by
 have e2:Ext n0 w G μ w' (G'.with G) ⟨λs=>if s=q then μ'.loc 0 else μ.loc s,λs=>if s=q then μ'.len 0 else μ.len s,λs=>if s=q then μ'.sh 0 else μ.sh s⟩:={
  good:=e.good
  map:=λr b hb=>by grind
  len:=λr b hb=>by grind
  room:=e.room
  sh:=λr b hb=>by grind
  row:=λ_ _ h=>h
  os:=e.os
  tape:=e.tape
  output:=e.output
  size:=e.size
  old:=λb hb _=>e.old b hb (Nat.not_le.2 hb)
  new:=λb hb=>by
   rcases e.new b hb with h|h
   ·exact .inl h
   ·exact .inr (hW.base b h) }
 have hnew:∀ b,μ'.loc 0=some b->∃ c,w'.heap[b]?=some (.cells c k.ty (0,0))/\aK w' G' μ' b (μ'.sh 0) k.cells/\(k.grown=false->c.size=k.cells.length)/\(k.frozen=true->G' b)/\(k.frozen=false->OL w b/\¬ G' b):=λb hb=>hW'.blk 0 k b rfl hb
 obtain⟨g,hg,hgp⟩:∃ g,k.tag=some g/\g.t.plain=true:=by
  cases hk:k.tag with
  | none=>rw[hk]at ht; cases ht
  | some g=>rw[hk]at ht; exact⟨g,rfl,ht⟩
 obtain⟨hgc,hgl⟩:=hW'.tags 0 k g rfl hg;have key:∀ (s:Nat) (k1:Blk),(H.set q (some k))[s]?=some (some k1)->(s=q/\k1=k)\/(s≠q/\H[s]?=some (some k1)):=by grind
 refine⟨_,e2,⟨?_,?_,?_,hW'.lt,?_,λb hb=>hW.base b (oR e.size hb),?_⟩,?_⟩
 ·intro s k1 b hs hb;rcases key s k1 hs with ⟨rfl,rfl⟩|⟨hne,hs'⟩
  ·simp only[if_true]at hb;obtain⟨c,h1,h2,h3,h4,h5⟩:=hnew b hb;simp only[if_true];refine⟨c,h1,?_,h3,h4,λhf=>⟨hW.base b (h5 hf).1,(h5 hf).2⟩⟩;rw[hgc]at h2 ⊢;exact rP (G:=G') (G':=G'.with G) (λb h=>h) _ _ _ _ (uZ _ hgp _) (EA (nN _ _) h2)
  ·simp only[if_neg hne]at hb;obtain⟨c',h2,h3,h4,h5,h6⟩:=hW.blk s k1 b hs' hb;have hlt:=hW.GQ hs' hb;have e1:w'.heap[b]?=w.heap[b]?:=e.old b hlt (Nat.not_le.2 hlt);simp only[if_neg hne];refine⟨c',e1.trans h2,aK.mono e2.toMono e1 _ _ h3,h4,λhf=>(e.good b (h5 hf)).1,λhf=>⟨(h6 hf).1,λhg=>?_⟩⟩;rcases e.new b hg with h|h
   ·exact(h6 hf).2 h
   ·grind
 ·intro s k1 g1 hs hg1;rcases key s k1 hs with ⟨rfl,rfl⟩|⟨hne,hs'⟩
  ·grind
  ·simp only[if_neg hne];exact hW.tags s k1 g1 hs' hg1
 ·intro s1 s2 k1 k2 b h1 h2 f1 f2 m1 m2;rcases key s1 k1 h1 with ⟨rfl,rfl⟩|⟨l1,h1'⟩ <;> rcases key s2 k2 h2 with ⟨e2,rfl⟩|⟨l2,h2'⟩
  ·grind
  ·simp only[if_true]at m1;simp only[if_neg l2]at m2;obtain⟨_,_,_,_,_,h5⟩:=hnew b m1;exact absurd (hW.GQ h2' m2) (Nat.not_lt.2 (h5 f1).1)
  ·subst e2;simp only[if_true]at m2;simp only[if_neg l1]at m1;obtain⟨_,_,_,_,_,h5⟩:=hnew b m2;exact absurd (hW.GQ h1' m1) (Nat.not_lt.2 (h5 f2).1)
  ·simp only[if_neg l1]at m1;simp only[if_neg l2]at m2;exact hW.inj s1 s2 k1 k2 b h1' h2' f1 f2 m1 m2
 ·intro r hr;rw[List.length_set]at hr;have:=hW.top r hr;exact⟨by show (if r=q then _ else _)=_; rw[if_neg (by omega)]; exact this.1,by show (if r=q then _ else _)=_; rw[if_neg (by omega)]; exact this.2⟩
 ·refine hW.rows.step e2.toMono.aZ e.size (λ_=>rfl) (λj b hj=>?_) (λs k1 t1 l1 hs hg1 ht1=>?_)
  ·have hlt:=(hW.rows.sep j b hj).1;refine⟨e.old b hlt (Nat.not_le.2 hlt),λhg=>?_,λs k1 hs hf1 hl=>?_⟩
   ·rcases e.new b hg with h|h
    ·exact h
    ·exact absurd hlt (Nat.not_lt.2 h)
   ·rcases key s k1 hs with ⟨rfl,rfl⟩|⟨hne,hs'⟩
    ·simp only[if_true]at hl;obtain⟨_,_,_,_,_,h5⟩:=hnew b hl;exact absurd hlt (Nat.not_lt.2 (h5 hf1).1)
    ·simp only[if_neg hne]at hl;exact⟨s,k1,hs',hf1,hl⟩
  ·rcases key s k1 hs with ⟨rfl,rfl⟩|⟨hne,hs'⟩
   ·rw[hg]at ht1;cases ht1;cases hgp
   ·exact⟨k1,hs',rfl,rfl,rfl,by simp only[if_neg hne]⟩
 ·rw[VR]at hv ⊢;simp only[if_true];exact hv
theorem a43 {G:Gd} {μ:Mp} {H:Heap} {w:World} (hW:eA n0 G μ H w) {w':World} {G':Gd} {μ':Mp} (e:Ext (OL w) w G.bare aZ w' G' μ') (hlt':∀ b,G' b->b<w'.heap.size):Ext n0 w G μ w' (G'.with G) μ/\eA n0 (G'.with G) μ H w':=by
 have e2:Ext n0 w G μ w' (G'.with G) μ:={
  good:=e.good
  map:=λ_ _ h=>h
  len:=λ_ _ h=>h
  room:=e.room
  row:=λ_ _ h=>h
  os:=e.os
  tape:=e.tape
  output:=e.output
  size:=e.size
  old:=λb hb _=>e.old b hb (Nat.not_le.2 hb)
  new:=λb hb=>by
   rcases e.new b hb with h|h
   ·exact .inl h
   ·exact .inr (hW.base b h) }
 have hback:∀ b,b<w.heap.size->G' b->G b:=λb hlt hg=>by
  rcases e.new b hg with h|h
  ·exact h
  ·grind
 refine⟨e2,hW.keep e2 ⟨λ_=>rfl,λj b hj=>?_⟩ ?_ hlt'⟩
 ·have hlt:=(hW.rows.sep j b hj).1;exact⟨e.old b hlt (Nat.not_le.2 hlt),hback b hlt⟩
 ·intro r k b hr hb;have hlt:=hW.GQ hr hb;exact⟨e.old b hlt (Nat.not_le.2 hlt),hback b hlt⟩
def a4A:Frm->Frm
 | []=>[]
 | (t,p)::r=>(t,bif iU p&&iM p then p else .junk)::a4A r
theorem aT3 t:∀ F ,iL (a4A F) t=bif iU (iL F t)&&iM (iL F t) then iL F t else .junk
 | []=>rfl
 | (u,p)::F=>by
  rw[a4A,uD,uD]
  by_cases h:t=u
  ·grind
  ·rw[if_neg h,if_neg h]; exact aT3 t F
theorem aTZ:∀ {l p},iU.noRefs l=true->p∈l->iU p=true
 | [],_,_,h=>by grind
 | q::l,p,h,hp=>by
  simp only[iU.noRefs,oA]at h;rcases List.mem_cons.1 hp with rfl|hp
  ·grind
  ·exact aTZ h.2 hp
theorem aUF:∀ {l p},iM.noRows l=true->p∈l->iM p=true
 | [],_,_,h=>by grind
 | q::l,p,h,hp=>by
  simp only[iM.noRows,oA]at h;rcases List.mem_cons.1 hp with rfl|hp
  ·grind
  ·exact aUF h.2 hp
theorem a5Y {P:Program} {ops:Array Oper} (hmask:aGP (OO ops) 0 ops.toList=true) {Q:Exit->Act->World->Prop} {J:Array Bool->Act->World->Prop} (hend:∀ listed a w,(∀ i,i<ops.size->listed.getD i false=true)->J listed a w->Q .normal a w)
  (hstep:∀ (listed listed':Array Bool) (a:Act) (w:World) (i:Nat) (o:Oper),ops[i]?=some o->listed.size=ops.size->listed.getD i false=false->aIY (OO ops) (λi=>listed.getD i false)->(∀ b,((OO ops).getD i 0).testBit b=true->listed.getD b false=true) ->
   listed'.getD i false=true->(∀ j,j≠i->listed'.getD j false=listed.getD j false)->J listed a w->∀ K:Act->World->Prop,(∀ a' w',J listed' a' w'->K a' w')->wpOp P ops Q i K a w) {a:Act} {w:World} (hJ:J (Array.replicate ops.size false) a w) :
  wpAny P .any ops Q ops.size (Array.replicate ops.size false) a w:=by
 have hm:∀ i o,ops[i]?=some o->(OO ops).getD i 0=aPR (OO ops) o.after.toList/\∀ e∈o.after,Region.binds .any e=true->e.on<i:=λi o ho=>by
  have:=aQ2 hmask (i:=i) (o:=o) (by simpa using ho);grind
 have hnone:∀ listed:Array Bool,listed.size=ops.size->Region.ready .any ops listed=[]->∀ i,i<ops.size->listed.getD i false=true:=by
  intro listed hsz hr i
  induction i using Nat.strongRecOn with
  | _ i ih =>
   intro hi;cases hli:listed.getD i false with
   | true=>rfl
   | false =>
    obtain⟨o,ho⟩:∃ o,ops[i]?=some o:=⟨ops[i],Array.getElem?_eq_getElem hi⟩;have:i∈Region.ready .any ops listed:=mem_ready.2 ⟨by
     have hlt:i<listed.size:=by omega
     simpa[Array.getD,hlt]using hli,o,ho,λe he hb=>ih e.on ((hm i o ho).2 e he hb) (by have:=(hm i o ho).2 e he hb; omega)⟩
    grind
 have hfalse:∀ j,(Array.replicate ops.size false).getD j false=false:=λj=>by
  simp only[Array.getD]
  simp_all
 suffices key:∀ (fuel:Nat) (listed:Array Bool) (a:Act) (w:World),(List.range ops.size).countP (λi=>!listed.getD i false)=fuel->listed.size=ops.size->aIY (OO ops) (λi=>listed.getD i false)->J listed a w->wpAny P .any ops Q fuel listed a w by
  refine key ops.size _ _ _ ?_ (by simp) ?_ hJ
  ·simp_all
  ·intro j hj;grind
 intro fuel
 induction fuel with
 | zero =>
  intro listed a w hc hsz hcs hI;have hall:∀ i,i<ops.size->listed.getD i false=true:=λi hi=>by
   rw[List.countP_eq_zero]at hc;have:=hc i (List.mem_range.2 hi);simpa using this
  refine⟨?_,hend listed a w hall hI⟩;cases hr:Region.ready .any ops listed with
  | nil=>rfl
  | cons i r =>
   have:i∈Region.ready .any ops listed:=by rw[hr]; exact List.mem_cons_self
   obtain⟨h1,o,ho,_⟩:=mem_ready.1 this;have hi:i<ops.size:=(Array.getElem?_eq_some_iff.1 ho).1;have h2:=hall i hi;have hlt:i<listed.size:=by omega
   simp only[Array.getD,hlt,dif_pos]at h1 h2;rw[h1]at h2; cases h2
 | succ fuel ih =>
  intro listed a w hc hsz hcs hI;refine⟨λhr=>hend listed a w (hnone listed hsz hr) hI,λi hi=>?_⟩;obtain⟨h1,o,ho,hdeps⟩:=mem_ready.1 hi;have hlt:i<ops.size:=(Array.getElem?_eq_some_iff.1 ho).1;have hlt':i<listed.size:=by omega
  have hun:listed.getD i false=false:=by
   simp only[Array.getD,hlt',dif_pos]at h1 ⊢;exact h1
  have hahead:∀ b,((OO ops).getD i 0).testBit b=true->listed.getD b false=true:=λb hb=>by
   rw[(hm i o ho).1]at hb;rcases aF3 _ _ hb with h0|⟨e,he,hbd,h2⟩
   ·simp at h0
   ·have he':=hdeps e (Array.mem_toList_iff.1 he) hbd;rcases h2 with rfl|h2
    ·exact he'
    ·exact hcs e.on he' b h2
  have hS':∀ j,j≠i->(listed.setIfInBounds i true).getD j false=listed.getD j false:=λj hj=>getD_set_ne false (λe=>hj e.symm)
  have hSi:(listed.setIfInBounds i true).getD i false=true:=by simp[Array.getD,hlt']
  refine hstep listed _ a w i o ho hsz hun hcs hahead hSi hS' hI _ λa' w' h=>ih _ a' w' ?_ (by simpa using hsz) ?_ h
  ·have:=aRE (p:=λi=>!listed.getD i false) (p':=λj=>!(listed.setIfInBounds i true).getD j false) (i:=i) (by simp only[hun,Bool.not_false]) (by simp only[hSi,Bool.not_true]) (λj hj=>by simp only[hS' j hj]) ops.size hlt;omega
  ·intro j hj b hb
   by_cases hji:j=i
   ·subst hji
    by_cases hbj:b=j
    ·subst hbj; exact hSi
    ·show (listed.setIfInBounds j true).getD b false=true;rw[hS' b hbj]; exact hahead b hb
   ·have hj':listed.getD j false=true:=by rw[<- hS' j hji]; exact hj
    by_cases hbi:b=i
    ·subst hbi; exact hSi
    ·show (listed.setIfInBounds i true).getD b false=true;rw[hS' b hbi]; exact hcs j hj' b hb
theorem a7O(T:Trace P cl nt ops F H F' H') (hcl:BM P cl) (hst:aGI ops=true) {S S':Nat->Bool} (hcs:aIY (OO ops) S) {i:Nat} {o:Oper} (ho:ops[i]?=some o) (hun:S i=false)
  (hahead:∀ b,((OO ops).getD i 0).testBit b=true->S b=true) (hSi:S' i=true) (hS':∀ j,j≠i->S' j=S j) {F1:Frm} (hF1:∀ t,iL F1 t=VB T S t ops.size) :
  ∃ c1 F2,stepT (NT T.md o i) P cl ops.toList o F1 (SD T S ops.size)=some (T.vs i,SD T S' ops.size,c1)/\RA nt F1 o.dst (T.vs i)=some F2/\∀ t,iL F2 t=VB T S' t ops.size:=by
 simp only[aGI,oA]at hst;obtain⟨hmask,hpairs⟩:=hst;have hlt:i<ops.size:=(Array.getElem?_eq_some_iff.1 ho).1;have hap:∀ i j oi oj,ops[i]?=some oi->ops[j]?=some oj->i<j->((OO ops).getD j 0).testBit i=true\/oi.apart ops oj=true:=λi j oi oj hi hj hij=>by
  have:=aRP hpairs (j:=j) (oj:=oj) (by simpa using hj);rw[Nat.zero_add]at this;have:=aTJ this (i:=i) (oi:=oi) (by simpa using hi) (by omega);grind
 have hbehind:∀ j,((OO ops).getD j 0).testBit i=true->S j=false:=λj hj=>by
  cases hlj:S j with
  | false=>rfl
  | true =>
   have h5:S i=true:=hcs j hlj i hj;grind
 have hwr:∀ t,(t∈o.looksAt ops\/o.dst=some t)->(∀ j,j<i->aHW ops j=some t->S j=true)/\(∀ j,i<j->j<ops.size->aHW ops j=some t->S j=false):=by
  intro t ht;refine⟨λj hj hd=>?_,λj hj hjs hd=>?_⟩
  ·cases hoj:ops[j]? with
   | none=>simp[aHW,hoj]at hd
   | some oj =>
    simp only[aHW,hoj,Option.bind_some]at hd;rcases hap j i oj o hoj ho hj with h3|h3
    ·grind
    ·obtain⟨a1,a2,a3⟩:=Oper.apart_spec h3;grind
  ·cases hoj:ops[j]? with
   | none=>simp[aHW,hoj]at hd
   | some oj =>
    simp only[aHW,hoj,Option.bind_some]at hd;rcases hap i j o oj ho hoj hj with h3|h3
    ·grind
    ·obtain⟨a1,a2,a3⟩:=Oper.apart_spec h3;grind
 have hslot:∀ t∈o.looksAt ops,VB T S t ops.size=iL (T.Fs i) t:=λt ht=>by
  obtain⟨w1,w2⟩:=hwr t (.inl ht);rw[aID T (k:=i) (by omega) λj hj hjs hd=>by
   rcases oG i j with hl|hl
   ·grind
   ·have:j=i:=by omega
    subst this; exact hun]
  rw[aGB T (S':=λ_=>true) λj hj hd=>w1 j hj hd,aO6 T t i (by omega)]
 obtain⟨hstep,hput,-⟩:=T.step i o ho;have hord:∀ j,j<ops.size->1<T.cs j->T.cs i≠0->OS (T.bs j) (T.bs i)=false->S j=decide (j<i):=λj hjs hx hc0 hap'=>by
  rcases Nat.lt_trichotomy j i with hl|hl|hl
  ·rw[oT hl];rcases T.hits j i hl hlt (by omega) hc0 (.inl hx)with h3|h3
   ·have:OS (T.bs j) (T.bs i)=true:=by
     revert h3
     cases T.bs j <;> cases T.bs i <;> simp only[OS,Bool.not_eq_true',imp_self,Bool.false_eq_true,false_implies]
     rename_i x y;intro h3;cases hxy:Nat.beq x y with
     | false=>rfl
     | true=>rw[oE hxy,Nat.beq_refl]at h3; cases h3
    rw[this]at hap'; cases hap'
   ·exact hahead j h3
  ·subst hl; rw[oF (by omega)]; exact hun
  ·rw[oF (by omega)];rcases T.hits i j hl hjs hc0 (by omega) (.inr hx)with h3|h3
   ·rw[h3]at hap'; cases hap'
   ·exact hbehind j h3
 have hheap:T.cs i≠0->T.bs i=none->SD T S ops.size=T.Hs i:=λhc0 hb0=>by
  have ho':∀ j,j<ops.size->1<T.cs j->S j=decide (j<i):=λj hjs hx=>hord j hjs hx hc0 (by rw[hb0]; cases T.bs j <;> rfl)
  rw[aH9 T (k:=i) (by omega) λj hj hjs hx=>by rw[ho' j hjs hx,oF (by omega)]];rw[ZX T (S':=λ_=>true) λj hj hx=>by rw[ho' j (by omega) hx,oT hj],aKL T hcl i (by omega)]
 have hheapq:∀ q,T.cs i≠0->T.bs i=some q->(SD T S ops.size)[q]?=(T.Hs i)[q]?:=λq hc0 hb0=>by
  have ho':∀ j,j<ops.size->1<T.cs j->T.bs j=none\/T.bs j=some q->S j=decide (j<i):=λj hjs hx hbj=>hord j hjs hx hc0 (by
   rw[hb0];rcases hbj with h|h <;> rw[h]
   ·rfl
   ·simp[OS])
  have h1:=(aU2 T (q:=q) (S:=S) (S':=λj=>decide (j<i)) (n:=ops.size) ho').2;rw[h1,aH9 T (k:=i) (by omega) λj hj hjs hx=>oF (by omega)];rw[ZX T (S':=λ_=>true) λj hj hx=>oT hj,aKL T hcl i (by omega)]
 have hnewheap:SD T S' ops.size=if 1<T.cs i then aJZ T i (SD T S ops.size) else SD T S ops.size:=by
  by_cases hx:1<T.cs i
  ·rw[if_pos hx];refine aRW T hx hun hSi hS' (λj hj hjs hxj hlj=>?_) ops.size hlt (oM _);cases hap':OS (T.bs j) (T.bs i)with
   | true=>rfl
   | false =>
    have:=hord j hjs hxj (by omega) hap';rw[oF (by omega)]at this;exact absurd hlj (by rw[this]; decide)
  ·rw[if_neg hx];refine ZX T λj hj hxj=>?_
   exact hS' j (λe=>hx (e ▸ hxj))
 have hcg:∀ H2,stepT (NT T.md o i) P cl ops.toList o F1 H2=stepT (NT T.md o i) P cl ops.toList o (T.Fs i) H2:=λH2=>by
  have h0:∀ H2,KO P cl ops.toList o F1 H2=KO P cl ops.toList o (T.Fs i) H2:=λH2=>aPS λt ht=>by rw[hF1,hslot t ht]
  cases NT T.md o i with
  | none=>exact h0 H2
  | some q =>
   have h5:∀ x∈o.op.operands,ev F1 x=ev (T.Fs i) x:=λx hx=>by
    cases x with
    | tmp t =>
     have h7:t∈o.looksAt ops:=List.mem_append_left _ (List.mem_filterMap.2 ⟨.tmp t,by simpa using hx,rfl⟩);show iL F1 t=iL (T.Fs i) t;rw[hF1,hslot t h7]
    | _=>rfl
   have h6:o.op.operands.toList.map (ev F1)=o.op.operands.toList.map (ev (T.Fs i)):=List.map_congr_left λx hx=>h5 x (by simpa using hx)
   simp only[stepT,h0,h6]
 have hop:∃ c1,stepT (NT T.md o i) P cl ops.toList o F1 (SD T S ops.size)=some (T.vs i,SD T S' ops.size,c1):=by
  rw[hcg,hnewheap]
  by_cases hc0:T.cs i=0
  ·rw[hc0]at hstep ⊢;refine⟨0,(((aQM hcl hstep).2 rfl _).trans ?_)⟩;simp
  ·cases hb0:T.bs i with
   | none =>
    rw[hheap hc0 hb0];refine⟨T.cs i,hstep.trans ?_⟩
    by_cases hx:1<T.cs i
    ·rw[if_pos hx]; simp only[aJZ,hb0]
    ·rw[if_neg hx,(aQM hcl hstep).1 (by omega)]
   | some q =>
    obtain⟨H3,c,h3,h4⟩:=T.loc i o q ho hb0 hc0 _ (hheapq q hc0 hb0);refine⟨c,h3.trans ?_⟩;rw[h4]; simp only[aJZ,hb0]
 obtain⟨c1,hop⟩:=hop;have hputF1:∃ F2,RA nt F1 o.dst (T.vs i)=some F2:=by
  cases hd:o.dst with
  | none=>exact⟨F1,rfl⟩
  | some d =>
   rw[hd]at hput;simp only[RA]at hput ⊢;cases hb:Nat.blt d nt with
   | true=>exact⟨_,rfl⟩
   | false=>rw[hb]at hput; cases hput
 obtain⟨F2,hF2⟩:=hputF1;refine⟨c1,F2,hop,hF2,λt=>?_⟩;rw[aY3 hF2 t]
 by_cases hd:o.dst=some t
 ·rw[if_pos hd];symm;rw[aID T (k:=i+1) (by omega) λj hj hjs hdj=>by
   rw[hS' j (by omega)];exact(hwr t (.inr hd)).2 j (by omega) hjs hdj]
  rw[VB,if_pos ⟨hSi,by simp[aHW,ho,hd]⟩]
 ·rw[if_neg hd,hF1];symm;refine aGB T λj hj hdj=>hS' j ?_
  rintro rfl;simp only[aHW,ho,Option.bind_some]at hdj;exact hd hdj
theorem a2M(hcl:BM P cl)(hst:aGI ops=true)(hE:aVZ T n0 wi Gi μi){Q}(hQ:∀ a' w',I n0 wi Gi μi nt F' H' a' w'->Q .normal a' w'){a w}(hI:I n0 wi Gi μi nt F H a w) :
  wpAny P .any ops Q ops.size (Array.replicate ops.size false) a w:=by
 have hst2:=hst;simp only[aGI,oA]at hst2;refine a5Y hst2.1 (J:=λlisted a w=>∀ F1,(∀ t,iL F1 t=VB T (λi=>listed.getD i false) t ops.size)->I n0 wi Gi μi nt F1 (SD T (λi=>listed.getD i false) ops.size) a w) ?_ ?_ ?_
 ·intro listed a w hall hI;have h1:∀ t,iL F' t=VB T (λi=>listed.getD i false) t ops.size:=λt=>by rw[aGB T (S':=λ_=>true) λj hj _=>hall j hj,aO6 T t _ (oM _),T.fn]
  have h2:=hI F' h1;rw[ZX T (S':=λ_=>true) λj hj _=>hall j hj,aKL T hcl _ (oM _),T.hn]at h2;grind
 ·intro listed listed' a w i o ho hsz hun hcs hahead hSi hS' hI K hK;obtain⟨F1,hF1⟩:=aX0 T (λi=>listed.getD i false) ops.size;have hI1:=hI F1 hF1;obtain⟨c1,F2,hop,hF2,hF3⟩:=a7O T hcl hst hcs ho hun hahead hSi hS' hF1;generalize hH1:SD T (λk=>listed'.getD k false) ops.size=H1 at hop;have hnext:∀ (a':Act) (w':World),(∃ F2,RA nt F1 o.dst (T.vs i)=some F2/\I n0 wi Gi μi nt F2 H1 a' w')->K a' w':=by
   rintro a' w' ⟨F4,hF4,hI2⟩;obtain rfl:F2=F4:=oB (hF2.symm.trans hF4);refine hK a' w' λF5 hF5=>?_
   rw[hH1];exact hI2.congr λt=>by rw[hF5,hF3]
  cases hr:NT T.md o i with
  | some q =>
   obtain⟨G,μ,e,hW,hF,hnone,hlnone⟩:=hE (λi=>listed.getD i false) F1 w a hcs hF1 hI1 i o q ho hun hr;obtain⟨b,_,_,ha⟩:=aQW hr;obtain⟨hg,⟨d,hd⟩,hkind⟩:=aW8 ha;rw[hr]at hop;rcases hkind with ⟨t,hop'⟩|⟨cc,hop'⟩
   case inr =>
    simp only[stepT,hop']at hop;obtain⟨hnr,hop⟩:=cC hop;split at hop
    ·rename_i v1 X c2 hs;have hcut:KO P cl ops.toList o (a4A F1) []=some (v1,X,c2):=by
      rw[<- hs];refine aPS λt ht=>?_
      rw[aT3];have h7:Operand.tmp t∈o.op.operands:=by
       unfold Oper.looksAt at ht;rw[hg]at ht;simp only[Option.toList,List.append_nil,List.mem_filterMap]at ht;obtain⟨x,h8,h9⟩:=ht;cases x with
       | tmp u=>simp only[oJ]at h9; subst h9; simpa using h8
       | _=>cases h9
      rw[oA]at hnr;have h8:iU (iL F1 t)=true:=aTZ hnr.1 (List.mem_map.2 ⟨.tmp t,by rw[<- hop']; simpa using h7,rfl⟩);have h9:iM (iL F1 t)=true:=aUF hnr.2 (List.mem_map.2 ⟨.tmp t,by rw[<- hop']; simpa using h7,rfl⟩);rw[h8,h9]; rfl
     have hW0:eA (OL w) G.bare aZ [] w:=⟨λr k b h=>by simp at h,λr k g h=>by simp at h,λr s k l b h=>by simp at h,hW.lt,λ_ _=>⟨rfl,rfl⟩,λ_ h=>h,qO.none _ _ (λ_=>rfl) _ _ (λr k h=>by simp at h)⟩;have hF0:qJ w G.bare aZ nt (a4A F1) a:=⟨hF.size,λt=>by
      rw[aT3];cases hn:(iU (iL F1 t)&&iM (iL F1 t))with
      | true =>
       rw[oA]at hn;exact F4 (G:=G) (G':=G.bare) (λb h=>h) _ _ _ hn.2 (F5 _ _ hn.1 (hF.slot t))
      | false=>rw[oD,VR]; trivial,hF.defers⟩
     unfold wpOp;rw[ho];simp only;rcases aJ9 hcl hcut hW0 hF0 with ⟨k1,k2⟩|⟨k1,k2,k3⟩
     ·rw[if_pos k1];refine .inl (k2 _ _ λv' w' G' μ' e' hW' hv'=>?_);rcases aGT hop with ⟨sz,k,rfl,rfl,hv,hH,_,hq,hqn,htag⟩|⟨rfl,hn1,hv,hH,_⟩
      case inr =>
       obtain⟨m1,m2⟩:=a43 hW e' hW'.lt;rw[oA]at hn1;exact hnext _ _ ⟨F2,hF2,_,μ,e.trans m1,by rw[hH]; exact m2,(hF.mono m1.toMono).aY4 hF2 (by rw[hv]; exact(F4 (G:=G') (G':=G'.with G) (λb h=>h) _ _ _ hn1.2 (F5 _ _ hn1.1 hv')).fK)⟩
      obtain⟨μ2,m1,m2,m3⟩:=a5N hW hq hnone (hlnone hqn) e' hW' hv' htag;exact hnext _ _ ⟨F2,hF2,_,μ2,e.trans m1,by rw[hH]; exact m2,(hF.mono m1.toMono).aY4 hF2 (by rw[hv]; exact m3)⟩
     ·rw[k1,if_neg (by decide)];subst k3;rcases aGT hop with ⟨_,_,_,h9,_⟩|⟨_,_,hv,hH,_⟩
      ·cases h9
      ·exact hnext _ _ ⟨F2,hF2,G,μ,e,by rw[hH]; exact hW,hF.aY4 hF2 (by rw[hv,k2,VR])⟩
    ·cases hop
   simp only[stepT,hop']at hop;cases hz:yI P t with
   | none=>rw[hz]at hop; cases hop
   | some z =>
    rw[hz]at hop;simp only at hop;obtain⟨hq,hop⟩:=cC hop;simp only[oJ,oP]at hop;obtain⟨hv,hH,-⟩:=hop;obtain⟨e1,e2⟩:=a2R hW (SG hq) hnone z.cells t;unfold wpOp;rw[ho];simp only;rw[if_pos (WV hF (b:=true) (by simp only[guardOf,hg]))];refine .inl ?_;have hok:zG P n0 w G μ o a (T.vs i) H1:=by
     refine .value (s:=Instr.alloc t true (.tuple #[])) (by simp only[execOp,hop']) ?_;refine⟨.pointer (some ⟨w.heap.size,0,none⟩),w.alloc (.cells z.cells t),G,_,?_,e1,by rw[<- hH]; exact e2,?_⟩
     ·have hzv:(zeroValue t).run P w=.ok z w:=by
       unfold yI at hz;split at hz
       ·rename_i i hi;simp[zeroValue,YL hi,hz]
       ·cases hz
      simp only[Instr.alloc,Sem.run_bind,hzv,Result.andThen_ok,newVar];simp[newRow]
     ·rw[<- hv,VR];exact⟨w.heap.size,by show (if q=q then _ else _)=_; rw[if_pos rfl],by simp⟩
    exact hok _ _ λv' w' G' μ' e' hW' hv=>hnext _ _ ⟨F2,hF2,G',μ',e.trans e',hW',(hF.mono e'.toMono).aY4 hF2 hv⟩
  | none =>
  rw[hr]at hop;replace hop:KO P cl ops.toList o F1 (SD T (λi=>listed.getD i false) ops.size)=some (T.vs i,H1,c1):=hop;obtain⟨G,μ,e,hW,hF⟩:=hI1;unfold wpOp;rw[ho];simp only;rcases aJ9 hcl hop hW hF with ⟨k1,k2⟩|⟨k1,k2,k3⟩
  ·rw[if_pos k1];exact .inl (k2 _ _ λv' w' G' μ' e' hW' hv=>hnext _ _ ⟨F2,hF2,G',μ',e.trans e',hW',(hF.mono e'.toMono).aY4 hF2 hv⟩)
  ·rw[k1,if_neg (by decide)];exact hnext _ _ ⟨F2,hF2,G,μ,e,by rw[k3]; exact hW,hF.aY4 hF2 (by rw[k2,VR])⟩
 ·intro F1 hF1;have hfalse:∀ j,(Array.replicate ops.size false).getD j false=false:=λj=>by
   simp only[Array.getD];split <;> simp
  rw[aH9 T (k:=0) (Nat.zero_le _) λj _ _ _=>hfalse j];exact hI.congr λt=>by rw[hF1,aID T (k:=0) (Nat.zero_le _) λj _ _ _=>hfalse j]; rfl
theorem aZ9 {G μ H w}(hW:eA n0 G μ H w) n:eA n0 G μ (H++List.replicate n none) w:=by
 have key:∀ (r:Nat) k,(H++List.replicate n none)[r]?=some (some k)->H[r]?=some (some k):=by grind
 exact⟨λr k b h=>hW.blk r k b (key r k h),λr k g h=>hW.tags r k g (key r k h),λr s k l b h1 h2=>hW.inj r s k l b (key r k h1) (key s l h2),hW.lt,λr hr=>hW.top r (by grind),hW.base,hW.rows.a6R id (λ_ _ h=>h) (λr k h=>⟨key r k h,rfl⟩)⟩
theorem aMT {b n}:∀ {H:Heap},aH8 b H=true->aH8 b (H++List.replicate n none)=true
 | [],_=>by
  induction n with
  | zero=>rfl
  | succ n ih=>exact ih
 | none::H,h=>aMT (H:=H) h
 | some k::H,h=>by
  simp only[aH8,oA,List.cons_append]at h ⊢;exact⟨h.1,aMT h.2⟩
theorem a1O {H0} (T:Trace P cl nt ops F H0 F' H') (hcl:BM P cl) (hst:aGI ops=true) (hE:aVZ T n0 wi Gi μi) {a w Q} (hI:I n0 wi Gi μi nt F H0 a w)
  (hQ:∀ a' w',I n0 wi Gi μi nt F' H' a' w'->Q .normal a' w'):wpAny P .any ops Q ops.size (Array.replicate ops.size false) a { w with drawn:=w.drawn+1 }:=by
 obtain⟨G,μ,e,hW,hF⟩:=hI;exact a2M T hcl hst hE hQ ⟨G,μ,e.trans (aP6 (Nat.le_add_right _ _)),aJE hW _,hF.mono (aNB _)⟩
theorem aMG(hcl:BM P cl) {a w Q} (h:aIC P cl nt ops F H=some (F',H')) (hI:I n0 wi Gi μi nt F H a w)
  (hQ:∀ a' w',I n0 wi Gi μi nt F' H' a' w'->Q .normal a' w'):wpAny P .any ops Q ops.size (Array.replicate ops.size false) a { w with drawn:=w.drawn+1 }:=by
 obtain⟨hst,h⟩:=cC h;rw[oA]at hst;split at h
 ·rename_i F2 H2 hl hs;obtain⟨hh,h⟩:=cC h;obtain⟨rfl,rfl⟩:=h;obtain⟨T,hT⟩:=a3F hcl hs hh;have hI0:=hI;obtain⟨G,μ,e,hW,hF⟩:=hI;refine a1O T hcl hst.1 ?_ ?_ hQ
  ·refine a4I T λb hb=>?_
   rw[hT]at hb;have h2:=hst.2;rw[hb]at h2 ⊢;simp only[aXN,oA]at h2;refine⟨h2.1,aMT h2.2,λr hr=>?_⟩;obtain⟨_,hb⟩:=cC hb;simp only[oJ]at hb;subst hb;refine⟨?_,?_⟩
   ·cases hx:μi.loc r with
    | none=>rfl
    | some x =>
     have:=e.map r x hx;rw[(hW.top r hr).1]at this;grind
   ·cases hx:μi.len r with
    | none=>rfl
    | some x =>
     have:=e.len r x hx;rw[(hW.top r hr).2]at this;grind
  ·cases aOT ops H with
   | none=>exact hI0
   | some b=>exact⟨G,μ,e,aZ9 hW _,hF⟩
 ·cases h
theorem aOB(hcl:BM P cl) (hP:P.follows .mixedOrders=true) {id a w Q} (h:aIC P cl nt ops F H=some (F',H')) (hI:I n0 wi Gi μi nt F H a w)
  (hQ:∀ a' w',I n0 wi Gi μi nt F' H' a' w'->Q .normal a' w'):(Code.region id ops true).wp P Q a w:=wp_region_any hP (aMG hcl h hI hQ)
end
end
inductive Ex where
 | normal
 | exit (id:Nat)
 | ret
def Ex.to:Ex->Exit
 | .normal=>.normal
 | .exit id=>.exit id
 | .ret=>.ret
structure Cfg where
 nt:Nat
 keep:Nat
 slots:List Nat
 loops:List (Nat×Q9)
 floor:Nat
def settle {α:Type} (m:Nat):Nat->Frm->(Frm->α)->α
 | 0,F,k=>k F
 | _+1,[],k=>k []
 | n+1,(t,p)::r,k=>bif aH1 m t then settle m n r (λr=>k ((t,p)::r)) else settle m n r k
def R0:Code->Nat
 | .region id _ _=>id
 | .seq a _=>R0 a
 | .block _ a=>R0 a
 | .loop a=>R0 a
 | .scope a=>R0 a
 | .cond _ a _=>R0 a
 | _=>0
def aYK:List (Nat×Q9)->Nat->Option Q9
 | [],_=>none
 | (i,m)::r,id=>bif Nat.beq i id then some m else aYK r id
def aNG {α}(F:Frm):List Nat->(Frm->α)->α
 | [],k=>k []
 | t::r,k=>fPV (iL F t) λp=>aNG F r λr=>k ((t,p)::r)
def a3K(cfg:Cfg)(id:Nat)(F:Frm)(H:Heap)(k:Frm->Heap->Option (Ex×Frm×Heap)):Option (Ex×Frm×Heap) :=
 match aYK cfg.loops id with
 | none=>aNG F cfg.slots λF=>k F H
 | some pl=>bif Nat.ble cfg.floor pl.base then match tidy pl F H with
  | some (F',H')=>k F' H'
  | none=>none
  else none
abbrev Out:=Option (Ex×Frm×Heap)
def iter(f:Frm->Heap->Out):Nat->Frm->Heap->Out
 | 0,_,_=>none
 | n+1,F,H=>match f F H with
  | some (.normal,F',H')=>iter f n F' H'
  | r=>r
def exec(P:Program)(cl:Callee)(cfg:Cfg)(L:Nat):Code->Frm->Heap->Out
 | .skip,F,H=>some (.normal,F,H)
 | .label _,F,H=>some (.normal,F,H)
 | .region _ ops draw,F,H=>match (bif draw then aIC P cl cfg.nt ops F H else aFD P cl cfg.nt ops.toList ops.toList F H)with
  | some (F',H')=>settle cfg.keep (aSF ops.toList) F' λF'=>some (.normal,F',H')
  | none=>none
 | .seq a b,F,H=>match exec P cl cfg L a F H with
  | some (.normal,F',H')=>exec P cl cfg L b F' H'
  | r=>r
 | .cond c a b,F,H=>match ev F c with
  | .lit (.bool t)=>bif t then exec P cl cfg L a F H else exec P cl cfg L b F H
  | _=>none
 | .block id a,F,H=>match exec P cl cfg L a F H with
  | some (.exit i,F',H')=>bif Nat.beq i id then some (.normal,F',H') else some (.exit i,F',H')
  | r=>r
 | .loop a,F,H=>iter (λF H=>a3K cfg (R0 a) F H λF H=>exec P cl cfg L a F H) L F H
 | .exit id,F,H=>some (.exit id,F,H)
 | .scope a,F,H=>exec P cl cfg L a F H
 | .ret,F,H=>some (.ret,F,H)
 | _,_,_=>none
section
variable {P:Program} {cl:Callee} {cfg:Cfg} {L:Nat} {n0:Nat->Prop} {wi:World} {Gi:Gd} {μi:Mp}
def Off(m:Nat) (F:Frm):Prop:=∀ t,aH1 m t=false->iL F t=.junk
theorem aOS {α} m F:∀ news (k:Frm->α),∃ F',settle m news.length (news++F) k=k F'/\(Off m F->∀ t,iL F' t=if aH1 m t then iL (news++F) t else .junk)
 | [],k=>⟨F,rfl,λh t=>by
  cases hb:aH1 m t with
  | true=>rfl
  | false=>simpa using h t hb⟩
 | (s,p)::news,k=>by
  simp only[List.length_cons,List.cons_append,settle];cases hs:aH1 m s with
  | true =>
   obtain⟨F',h1,h2⟩:=aOS m F news λr=>k ((s,p)::r)
   refine⟨(s,p)::F',h1,λh t=>?_⟩;rw[uD,uD,h2 h t];grind
  | false =>
   obtain⟨F',h1,h2⟩:=aOS m F news k;refine⟨F',h1,λh t=>?_⟩;rw[uD,h2 h t];grind
theorem aN6 {α} F:∀ l (k:Frm->α),∃ F',aNG F l k=k F'/\∀ t,iL F' t=iL F t\/iL F' t=.junk
 | [],k=>⟨[],rfl,λt=>.inr rfl⟩
 | s::l,k=>by
  simp only[aNG,aIO];obtain⟨F',h1,h2⟩:=aN6 F l λr=>k ((s,iL F s)::r)
  refine⟨(s,iL F s)::F',h1,λt=>?_⟩;rw[uD];grind
theorem I.a13 {nt F F' H a w}(h:I n0 wi Gi μi nt F H a w)(hF:∀ t,iL F' t=iL F t\/iL F' t=.junk):I n0 wi Gi μi nt F' H a w:=by
 obtain⟨G,μ,e,hW,hI⟩:=h;refine⟨G,μ,e,hW,hI.size,λt=>?_,hI.defers⟩;rcases hF t with h1|h1
 ·rw[h1]; exact hI.slot t
 ·rw[h1,VR]; simp
def a7U(P:Program) (n0:Nat->Prop) (wi:World) (Gi:Gd) (μi:Mp) (nt:Nat) (c:Code) (a:Act) (w:World) (r:Ex×Frm×Heap):Prop :=
 c.wp P (λe a' w'=>e=r.1.to/\I n0 wi Gi μi nt r.2.1 r.2.2 a' w') a w
def a2Y(P:Program) (n0:Nat->Prop) (wi:World) (Gi:Gd) (μi:Mp) (cfg:Cfg) (c:Code) (a:Act) (w:World) (r:Ex×Frm×Heap):Prop :=
 a7U P n0 wi Gi μi cfg.nt c a w r/\Off cfg.keep r.2.1
theorem aZZ {c}{f:Frm->Heap->Out}(hf:∀ F H a w r,f F H=some r->I n0 wi Gi μi cfg.nt F H a w->Off cfg.keep F->a2Y P n0 wi Gi μi cfg c a w r):∀ {n F H a w r},
  iter f n F H=some r->I n0 wi Gi μi cfg.nt F H a w->Off cfg.keep F->a2Y P n0 wi Gi μi cfg (.loop c) a w r:=by
 intro n F H a w r h hI hO;constructor
 ·refine wp_loop_ghost (λk a w=>∃ F H,iter f k F H=some r/\I n0 wi Gi μi cfg.nt F H a w/\Off cfg.keep F) n ⟨F,H,h,hI,hO⟩ ?_;rintro k a w ⟨F,H,h,hI,hO⟩;cases k with
  | zero=>cases h
  | succ k =>
   simp only[iter]at h;split at h
   ·rename_i F' H' hs;obtain⟨h1,h2⟩:=hf F H a w _ hs hI hO;refine wp_mono h1 ?_;rintro e a' w' ⟨rfl,hI'⟩;exact⟨k,by omega,F',H',h,hI',h2⟩
   ·rename_i hno;obtain⟨ex,F',H'⟩:=r;refine wp_mono (hf F H a w _ h hI hO).1 ?_;rintro e a' w' ⟨rfl,hI'⟩;cases ex with
    | normal=>exact absurd h (hno F' H')
    | exit id=>exact⟨rfl,hI'⟩
    | ret=>exact⟨rfl,hI'⟩
 ·induction n generalizing F H a w with
  | zero=>cases h
  | succ n ih =>
   simp only[iter]at h;split at h
   ·rename_i F' H' hs;obtain⟨h1,h2⟩:=hf F H a w _ hs hI hO;obtain⟨e,a',w',⟨_,hI'⟩,_⟩:=h1 default [] [];grind
   ·exact(hf F H a w _ h hI hO).2
theorem U4(hcl:BM P cl)(hP:P.follows .mixedOrders=true)(hfl:∀ r,cfg.floor<=r->μi.loc r=none/\μi.len r=none):∀ c F H a w r,exec P cl cfg L c F H=some r->I n0 wi Gi μi cfg.nt F H a w->Off cfg.keep F->a2Y P n0 wi Gi μi cfg c a w r
 | .skip,F,H,a,w,r,h,hI,hO=>by
  simp only[exec,oJ]at h;subst h;exact⟨wp_skip ⟨rfl,hI⟩,hO⟩
 | .label l,F,H,a,w,r,h,hI,hO=>by
  simp only[exec,oJ]at h;subst h;exact⟨wp_label ⟨rfl,hI⟩,hO⟩
 | .region id ops draw,F,H,a,w,r,h,hI,hO=>by
  simp only[exec]at h;split at h
  ·rename_i F' H' hr;obtain⟨news,e1,l1⟩:∃ news:Frm,F'=news++F/\news.length=aSF ops.toList:=by
    cases draw with
    | true=>exact aWV hr
    | false=>exact aRL hr
   obtain⟨F2,h2,h3⟩:=aOS (α:=Out) cfg.keep F news λF'=>some (.normal,F',H')
   rw[<- l1,e1,h2]at h;simp only[oJ]at h;subst h;have h3:=h3 hO;refine⟨?_,λt ht=>by rw[h3 t,ht]; rfl⟩;have hw:∀ t,iL F2 t=iL F' t\/iL F2 t=.junk:=λt=>by grind
   cases draw with
   | true=>exact aOB hcl hP hr hI λa' w' h'=>⟨rfl,h'.a13 hw⟩
   | false=>exact wp_region_list (YG hcl ops.toList F H a w hr hI λa' w' h'=>⟨rfl,h'.a13 hw⟩)
  ·cases h
 | .seq x y,F,H,a,w,r,h,hI,hO=>by
  simp only[exec]at h;split at h
  ·rename_i F' H' hx;obtain⟨h1,h2⟩:=U4 hcl hP hfl x F H a w _ hx hI hO;refine⟨wp_seq (wp_mono h1 ?_),?_⟩
   ·rintro e a' w' ⟨rfl,hI'⟩;exact(U4 hcl hP hfl y F' H' a' w' r h hI' h2).1
   ·obtain⟨e,a',w',⟨_,hI'⟩,_⟩:=h1 default [] [];exact(U4 hcl hP hfl y F' H' a' w' r h hI' h2).2
  ·rename_i hno;obtain⟨ex,F',H'⟩:=r;obtain⟨h1,h2⟩:=U4 hcl hP hfl x F H a w _ h hI hO;refine⟨wp_seq (wp_mono h1 ?_),h2⟩;rintro e a' w' ⟨rfl,hI'⟩;cases ex with
   | normal=>exact absurd h (hno F' H')
   | exit id=>exact⟨rfl,hI'⟩
   | ret=>exact⟨rfl,hI'⟩
 | .cond c x y,F,H,a,w,r,h,hI,hO=>by
  simp only[exec]at h;split at h
  ·rename_i t ht;obtain⟨G,μ,e,hW,hF⟩:=hI;have hc:=QU hF c;rw[ht,VR]at hc;cases t with
   | true =>
    obtain⟨h1,h2⟩:=U4 hcl hP hfl x F H a w r h ⟨G,μ,e,hW,hF⟩ hO;exact⟨wp_cond hc h1,h2⟩
   | false =>
    obtain⟨h1,h2⟩:=U4 hcl hP hfl y F H a w r h ⟨G,μ,e,hW,hF⟩ hO;exact⟨wp_cond hc h1,h2⟩
  ·cases h
 | .block id x,F,H,a,w,r,h,hI,hO=>by
  simp only[exec]at h;split at h
  ·rename_i i F' H' hx;obtain⟨h1,h2⟩:=U4 hcl hP hfl x F H a w _ hx hI hO;have hr:r=(if i=id then .normal else .exit i,F',H'):=by
    cases hi:Nat.beq i id with
    | true =>
     rw[hi]at h;simp only[oC,oJ]at h;rw[if_pos (oE hi),h]
    | false =>
     rw[hi]at h;simp only[oD,oJ]at h;rw[if_neg (λe=>by rw[e]at hi; simp at hi),h]
   subst hr;refine⟨wp_block (wp_mono h1 ?_),h2⟩;rintro e a' w' ⟨rfl,hI'⟩;simp only[Ex.to,Exit.inBlock];split
   ·exact⟨rfl,hI'⟩
   ·exact⟨rfl,hI'⟩
  ·rename_i hno;obtain⟨ex,F',H'⟩:=r;obtain⟨h1,h2⟩:=U4 hcl hP hfl x F H a w _ h hI hO;refine⟨wp_block (wp_mono h1 ?_),h2⟩;rintro e a' w' ⟨rfl,hI'⟩;cases ex with
   | normal=>exact⟨rfl,hI'⟩
   | exit i=>exact absurd h (hno i F' H')
   | ret=>exact⟨rfl,hI'⟩
 | .loop x,F,H,a,w,r,h,hI,hO=>by
  simp only[exec]at h;refine aZZ (λF H a w r h hI hO=>?_) h hI hO;unfold a3K at h;split at h
  ·obtain⟨F',h1,h2⟩:=aN6 (α:=Out) F cfg.slots λF=>exec P cl cfg L x F H
   simp only[h1]at h;exact U4 hcl hP hfl x F' H a w r h (hI.a13 h2) λt ht=>by
    rcases h2 t with h3|h3
    ·rw[h3]; exact hO t ht
    ·exact h3
  ·rename_i pl hpl;obtain⟨hb,h⟩:=cC h;split at h
   ·rename_i F' H' hti;obtain⟨h1,h2⟩:=aUG hti (λr hr=>hfl r (oR (oL hb) hr)) hI;exact U4 hcl hP hfl x F' H' a w r h h1 λt ht=>h2 t (hO t ht)
   ·cases h
 | .exit id,F,H,a,w,r,h,hI,hO=>by
  simp only[exec,oJ]at h;subst h;exact⟨wp_exit ⟨rfl,hI⟩,hO⟩
 | .scope x,F,H,a,w,r,h,hI,hO=>by
  simp only[exec]at h;obtain⟨h1,h2⟩:=U4 hcl hP hfl x F H a w r h hI hO;refine⟨wp_scope_straight (wp_mono h1 ?_),h2⟩;rintro e a' w' ⟨rfl,hI'⟩;obtain⟨ex,F',H'⟩:=r;cases ex <;> exact⟨rfl,hI'⟩
 | .ret,F,H,a,w,r,h,hI,hO=>by
  simp only[exec,oJ]at h;subst h;exact⟨wp_ret ⟨rfl,hI⟩,hO⟩
 | .rangeFunc ..,F,H,a,w,r,h,hI,hO=>by simp only[exec]at h; cases h
 | .goto l,F,H,a,w,r,h,hI,hO=>by simp only[exec]at h; cases h
 | .refuse s,F,H,a,w,r,h,hI,hO=>by simp only[exec]at h; cases h
end
def aSR(P:Program) (F:Frm) (H:Heap):ResultVar->Option PV
 | .tmp t=>some (iL F t)
 | .cell t ty=>match QG P H ty (iL F t)with|some (v,_)=>some v|none=>none
def U9(P:Program)(F:Frm)(H:Heap):List ResultVar->Option (List PV)
 | []=>some []
 | r::rs=>match aSR P F H r,U9 P F H rs with
  | some v,some vs=>some (v::vs)
  | _,_=>none
def HP:List PV->PV
 | [v]=>v
 | vs=>.tuple vs
def start(m:Nat):Nat->List PV->Frm
 | _,[]=>[]
 | i,p::ps=>bif aH1 m i then (i,p)::start m (i+1) ps else start m (i+1) ps
def aSQ(P:Program) (cl:Callee) (cfg:Cfg) (L:Nat) (fn:Func) (args:List PV) (H:Heap):Option (PV×Frm×Heap) :=
 match fn.body with
 | some c=>bif Nat.ble args.length fn.ntmps&&Nat.beq fn.ntmps cfg.nt then match exec P cl { cfg with floor:=H.length } L c (start cfg.keep 0 args) H with
  | some (.normal,F,H')|some (.ret,F,H')=>match U9 P F H' fn.results.toList with
   | some vs=>some (HP vs,F,H')
   | none=>none
  | _=>none
  else none
 | none=>none
section
variable {P:Program} {cl:Callee} {cfg:Cfg} {L:Nat} {n0:Nat->Prop} {w:World} {G:Gd} {μ:Mp} {H:Heap}
theorem aPB m:∀ ps i t,iL (start m i ps) t=if i<=t/\aH1 m t=true then (ps[t-i]?).getD .junk else .junk
 | [],i,t=>by simp[start,iL]
 | p::ps,i,t=>by
  simp only[start];have ih:=aPB m ps (i+1) t;cases hi:aH1 m i with
  | true =>
   rw[oC,uD,ih];grind
  | false =>
   grind
theorem a06 m ps:Off m (start m 0 ps):=λt ht=>by rw[aPB,ht]; rfl
theorem U3 {args vs n m}(h:VRs w G μ args vs.toList)(hn:args.length<=n):qJ w G μ n (start m 0 args) ⟨vs++Array.replicate (n-vs.size) undef,[]⟩ where
 size:=by
  have :=by simpa using h.length
  grind
 slot t:=by
  rw[aPB]
  by_cases hb:aH1 m t=true
  case neg=>rw[if_neg (λh=>hb h.2),VR]; trivial
  rw[if_pos ⟨Nat.zero_le _,hb⟩,Nat.sub_zero];cases ht:args[t]? with
  | none=>simp only[Option.getD_none]; rw[VR]; trivial
  | some p =>
   obtain⟨v,h1,h2⟩:=h.get ht;have hv :=by simpa using h1
   have hlt :=(Array.getElem?_eq_some_iff.1 hv).1;have:(vs++Array.replicate (n-vs.size) undef).getD t undef=v:=by rw[Array.getD_eq_getD_getElem?,Array.getElem?_append_left hlt,hv]; rfl
   grind
 defers:=rfl
def aXC(tmps:Array Value):ResultVar->Sem Value
 | .tmp t=>pure (tmps.getD t undef)
 | .cell b t=>do loadVar t (<- asAddr (tmps.getD b undef))
theorem ZT fn tmps:results fn tmps=(do let vs <- fn.results.mapM (aXC tmps); pure (if h:vs.size=1 then vs[0] else .tuple vs)):=by rfl
theorem UF {nt F a}(hW:eA n0 G μ H w)(hF:qJ w G μ nt F a):∀ {rs vs},U9 P F H rs=some vs->∃ us ,(rs.mapM (aXC a.tmps)).run P w=.ok us w/\VRs w G μ vs us
 | [],vs,h=>by
  simp only[U9,oJ]at h;subst h;exact⟨[],rfl,by rw[VRs]⟩
 | r::rs,vs,h=>by
  simp only[U9]at h;split at h
  ·rename_i v vs' hv hvs;simp only[oJ]at h;subst h;obtain⟨us,h1,h2⟩:=UF hW hF hvs;cases r with
   | tmp t =>
    simp only[aSR,oJ]at hv;subst hv;refine⟨a.tmps.getD t undef::us,?_,by rw[VRs]; exact⟨_,_,rfl,hF.slot t,h2⟩⟩;rw[List.mapM_cons];simp only[aXC,Sem.run_bind,Sem.run_pure,Result.andThen_ok,h1]
   | cell b t =>
    simp only[aSR]at hv;split at hv
    ·rename_i u c hu;simp only[oJ]at hv;subst hv;obtain⟨v',h3,h4⟩:=aR3 (P:=P) hW (hF.slot b) hu;refine⟨v'::us,?_,by rw[VRs]; exact⟨_,_,rfl,h4,h2⟩⟩;have h5:(do loadVar t (<- asAddr (a.tmps.getD b undef)):Sem Value).run P w=.ok v' w:=by
      simp only[Instr.loadAt]at h3;cases hp:a.tmps.getD b undef <;> rw[hp]at h3 <;> simp[Instr.sureAddr]at h3
      rename_i ad;cases ad with
      | none=>simp[Instr.sureAddr]at h3
      | some ad=>simpa[asAddr,Instr.sureAddr]using h3
     rw[List.mapM_cons];simp only[aXC,Sem.run_bind]at h5 ⊢
     simp_all
    ·cases hv
  ·cases h
theorem VJ {vs us}(h:VRs w G μ vs us):VR w G μ (HP vs) (if hh:us.toArray.size=1 then us.toArray[0] else .tuple us.toArray):=by
 match vs,us,h with
 | [v],us,h =>
  obtain⟨x,xs,rfl,h1,h2⟩:=h;subst h2;simpa[HP]using h1
 | [],us,h =>
  subst h;exact⟨_,by simp; rfl,by simp[VRs]⟩
 | v::v2::vs,us,h =>
  have hl:=h.length;simp only[List.length_cons]at hl;have:¬ us.toArray.size=1:=by simp; omega
  rw[dif_neg this];exact⟨_,rfl,by omega⟩
theorem aUJ(hcl:BM P cl) (hP:P.follows .mixedOrders=true) {g:FuncId} {fn:Func} (hg:P.funcs[g]?=some fn) {args:List PV} {vs:Array Value} {v:PV} {F:Frm} {H':Heap} (h:aSQ P cl cfg L fn args H=some (v,F,H'))
  (hW:eA n0 G μ H w) (hv:VRs w G μ args vs.toList):Calls P g vs w λe w'=>∃ v' G' μ',e=.returned v'/\Ext n0 w G μ w' G' μ'/\eA n0 G' μ' H' w'/\VR w' G' μ' v v':=by
 unfold aSQ at h;split at h
 ·rename_i c hc;cases hb:(Nat.ble args.length fn.ntmps&&Nat.beq fn.ntmps cfg.nt)with
  | false=>rw[hb]at h; cases h
  | true =>
   rw[hb]at h;simp only[oA]at hb;have h1:=oL hb.1;have h2:=oE hb.2;have hI:I n0 w G μ cfg.nt (start cfg.keep 0 args) H ⟨vs++Array.replicate (fn.ntmps-vs.size) undef,[]⟩ w:=⟨G,μ,Ext.refl _ _ _ _,hW,by rw[<- h2]; exact U3 hv h1⟩;refine calls_of_wp hg hc ?_;have key:∀ ex F1 H1,exec P cl { cfg with floor:=H.length } L c (start cfg.keep 0 args) H=some (ex,F1,H1)->(match U9 P F1 H1 fn.results.toList with
     | some vs=>some (HP vs,F1,H1)
     | none=>none)=some (v,F,H')->(ex=.normal\/ex=.ret)->Code.wp P c (bodyPost P fn λe w'=>∃ v' G' μ',e=.returned v'/\Ext n0 w G μ w' G' μ'/\eA n0 G' μ' H' w'/\VR w' G' μ' v v') ⟨vs++Array.replicate (fn.ntmps-vs.size) undef,[]⟩ w:=by
    intro ex F1 H1 hx hr hex;split at hr
    ·rename_i us hus;simp only[oJ,oP]at hr;obtain⟨rfl,rfl,rfl⟩:=hr;refine wp_mono (U4 (cfg:={ cfg with floor:=H.length }) hcl hP (λr hr=>hW.top r hr) c _ H _ w _ hx hI (a06 _ _)).1 ?_;rintro e a' w' ⟨rfl,G',μ',e',hW',hF'⟩;obtain⟨ws,h3,h4⟩:=UF (P:=P) hW' hF' hus;have hres:(results fn a'.tmps).run P w'=.ok (if hh:ws.toArray.size=1 then ws.toArray[0] else .tuple ws.toArray) w':=by
      rw[ZT,Array.mapM_eq_mapM_toList]
      simp_all
     have hpost:a'.defers=[]/\∃ v,(results fn a'.tmps).run P w'=.ok v w'/\(∃ v' G'' μ'',Ending.returned v=.returned v'/\Ext n0 w G μ w' G'' μ''/\eA n0 G'' μ'' H1 w'/\VR w' G'' μ'' (HP us) v') :=
      ⟨hF'.defers,_,hres,_,G',μ',rfl,e',hW',VJ h4⟩
     rcases hex with rfl|rfl
     ·exact hpost
     ·exact hpost
    ·cases hr
   grind
 ·cases h
end
def wC(f:PV->Option PV):List PV->Option (List PV)
 | []=>some []
 | p::ps=>match f p with
  | some q=>match wC f ps with
   | some qs=>some (q::qs)
   | none=>none
  | none=>none
def inl(fz:Bool) (H:Heap):Nat->PV->Option PV
 | _,.lit v=>some (.lit v)
 | _,.vals cs n cap=>some (.vals cs n cap)
 | _,.iptr cs=>some (.iptr cs)
 | _,.tl t l cap e=>some (.tl t l cap e)
 | _,.tp t l i off e=>some (.tp t l i off e)
 | _,.row j lo n sz=>some (.row j lo n sz)
 | _,.own r _=>match fO H r with
  | some k=>match k.tag with
   | some g=>bif k.frozen||!fz then some (uE g.t g.l none) else none
   | none=>none
  | none=>none
 | _,.win r lo n sz=>match fO H r with
  | some k=>match k.tag with
   | some g=>bif (k.frozen||!fz)&&Nat.beq sz g.t.size then some (uE g.t ((g.l.drop lo).take n) none) else none
   | none=>none
  | none=>none
 | n+1,.hs r off len _ sz=>match fO H r with
  | some k=>bif (k.frozen||!fz)&&Nat.ble (off+len*sz) k.cells.length then match wC (λp=>inl fz H n p) ((k.cells.drop off).take (len*sz))with
    | some cs=>some (.vals cs len none)
    | none=>none
   else none
  | none=>none
 | n+1,.hptr r off=>match fO H r with
  | some k=>bif k.frozen||!fz then match wC (λp=>inl fz H n p) (k.cells.drop off)with
    | some cs=>some (.iptr cs)
    | none=>none
   else none
  | none=>none
 | n+1,.agg cs=>match wC (λp=>inl fz H n p) cs with|some qs=>some (.agg qs)|none=>none
 | n+1,.tuple cs=>match wC (λp=>inl fz H n p) cs with|some qs=>some (.tuple qs)|none=>none
 | n+1,.clo fn f c=>match wC (λp=>inl fz H n p) f,wC (λp=>inl fz H n p) c with
  | some f',some c'=>some (.clo fn f' c')
  | _,_=>none
 | _,_=>none
section
variable {P:Program} {n0:Nat->Prop} {w:World} {G G':Gd} {μ:Mp} {H:Heap}
theorem tB {f}(hf:∀ p q v,f p=some q->VR w G μ p v->VR w G' aZ q v):∀ {ps qs vs},wC f ps=some qs->VRs w G μ ps vs->VRs w G' aZ qs vs
 | [],qs,vs,h,hv=>by
  simp only[wC,oJ]at h;subst h;exact hv
 | p::ps,qs,vs,h,hv=>by
  simp only[wC]at h;split at h
  ·rename_i q hq;split at h
   ·rename_i qs' hqs;simp only[oJ]at h;subst h;obtain⟨x,xs,h1,h2,h3⟩:=hv;exact⟨x,xs,h1,hf p q x hq h2,tB hf hqs h3⟩
   grind
  grind
theorem xX {f}(hf:∀ p q v,f p=some q->VR w G μ p v->VR w G' aZ q v){b}:∀ {ps qs off},wC f ps=some qs->aK w G μ b off ps->aK w G' aZ b off qs
 | [],qs,off,h,hv=>by
  simp only[wC,oJ]at h;subst h;trivial
 | p::ps,qs,off,h,hv=>by
  simp only[wC]at h;split at h
  ·rename_i q hq;split at h
   ·rename_i qs' hqs;simp only[oJ]at h;subst h;obtain⟨⟨v,h1,h2⟩,h3⟩:=hv;exact⟨⟨v,h1,hf p q v hq h2⟩,xX hf hqs h3⟩
   grind
  grind
theorem CW(hW:eA n0 G μ H w){fz}(hR:∀ j b,G.row j=some b->G'.row j=some b)(hG:∀ b,G b->G' b)(hB:∀ r k b,H[r]?=some (some k)->(k.frozen=true\/fz=false)->μ.loc r=some b->G' b):∀ n p q v,inl fz H n p=some q->VR w G μ p v->VR w G' aZ q v:=by
 have hm:Mono w G aZ w G' aZ:=⟨λb hb=>⟨hG b hb,rfl⟩,λ_ _ h=>h,λ_ _ h=>h,λ_ _ h=>h,hR,λ_ _ _=>rfl⟩;have base:∀ (p q:PV) (v:Value),some p=some q->iU p=true->VR w G μ p v->VR w G' aZ q v:=λp q v h hn hv=>by
  cases h;exact VR.mono hm _ _ (F5 p v hn hv)
 have owned:∀ (r sz:Nat) (q:PV) (v:Value),(match fO H r with
  | some k=>match k.tag with
   | some g=>bif k.frozen||!fz then some (uE g.t g.l none) else none
   | none=>none
  | none=>none)=some q->VR w G μ (.own r sz) v->VR w G' aZ q v:=λr sz q v h hv=>by
  split at h
  ·rename_i k hk;split at h
   ·rename_i g hg;obtain⟨hb,h⟩:=cC h;simp only[Bool.or_eq_true,Bool.not_eq_true']at hb;simp only[oJ]at h;subst h;exact u7 hW hv hk hg hG (λb h1=>hB r k b (bB hk) hb h1) hR
   ·cases h
  ·cases h
 have wind:∀ (r lo n sz:Nat) (q:PV) (v:Value),(match fO H r with
  | some k=>match k.tag with
   | some g=>bif (k.frozen||!fz)&&Nat.beq sz g.t.size then some (uE g.t ((g.l.drop lo).take n) none) else none
   | none=>none
  | none=>none)=some q->VR w G μ (.win r lo n sz) v->VR w G' aZ q v:=λr lo n sz q v h hv=>by
  split at h
  ·rename_i k hk;split at h
   ·rename_i g hg;obtain⟨hb,h⟩:=cC h;simp only[oA,Bool.or_eq_true,Bool.not_eq_true']at hb;simp only[oJ]at h;subst h;exact GS hW hv hk hg (oE hb.2) hG (λb h1=>hB r k b (bB hk) hb.1 h1) hR
   ·cases h
  ·cases h
 intro n
 induction n with
 | zero =>
  intro p q v h hv;cases p <;> simp only[inl]at h <;> first|(cases h; done)|exact base _ q v h rfl hv|exact owned _ _ q v h hv|exact wind _ _ _ _ q v h hv
 | succ n ih =>
  intro p q v h hv;cases p with
  | lit u=>simp only[inl]at h; exact base _ q v h rfl hv
  | vals cs k cap=>simp only[inl]at h; exact base _ q v h rfl hv
  | iptr cs=>simp only[inl]at h; exact base _ q v h rfl hv
  | junk=>simp only[inl]at h; cases h
  | tl t l cap e=>simp only[inl]at h; exact base _ q v h rfl hv
  | tp t l i off e=>simp only[inl]at h; exact base _ q v h rfl hv
  | own r sz=>simp only[inl]at h; exact owned r sz q v h hv
  | op r i off sz=>simp only[inl]at h; cases h
  | row j lo n sz=>simp only[inl]at h; exact base _ q v h rfl hv
  | rp j off=>simp only[inl]at h; cases h
  | mp j=>simp only[inl]at h; cases h
  | tm l=>simp only[inl]at h; cases h
  | qs r sz=>simp only[inl]at h; cases h
  | win r lo n sz=>simp only[inl]at h; exact wind r lo n sz q v h hv
  | hs r off len cap sz =>
   simp only[inl]at h;split at h
   ·rename_i k hk;cases hb:((k.frozen||!fz)&&Nat.ble (off+len*sz) k.cells.length)with
    | false=>rw[hb]at h; cases h
    | true =>
     rw[hb]at h;simp only[oC]at h;simp only[oA,Bool.or_eq_true,Bool.not_eq_true']at hb;split at h
     ·rename_i cs hcs;simp only[oJ]at h;subst h;rw[VR]at hv; rw[VR];obtain⟨b,c,h1,rfl,h3,_,_⟩:=hv;obtain⟨c',g2,g3,_⟩:=hW.blk r k b (bB hk) h1;refine⟨_,c,rfl,h3,λk hk=>(by cases hk),.inr ⟨b,μ.sh r+off,rfl,hB r k b (bB hk) hb.1 h1,?_⟩⟩;have:=g3.sub off (len*sz);exact xX (λp q v h hv=>ih p q v h hv) hcs this
     ·cases h
   ·cases h
  | hptr r off =>
   simp only[inl]at h;split at h
   ·rename_i k hk;cases hb:(k.frozen||!fz)with
    | false=>rw[hb]at h; cases h
    | true =>
     rw[hb]at h;simp only[oC]at h;simp only[Bool.or_eq_true,Bool.not_eq_true']at hb;split at h
     ·rename_i cs hcs;simp only[oJ]at h;subst h;rw[VR]at hv; rw[VR];obtain⟨b,h1,rfl⟩:=hv;obtain⟨c',g2,g3,_⟩:=hW.blk r k b (bB hk) h1;refine⟨b,μ.sh r+off,rfl,hB r k b (bB hk) hb h1,?_⟩;have:=g3.drop off;exact xX (λp q v h hv=>ih p q v h hv) hcs this
     ·cases h
   ·cases h
  | agg cs =>
   simp only[inl]at h;split at h
   ·rename_i qs hqs;simp only[oJ]at h;subst h;rw[VR]at hv ⊢;obtain⟨vs,h1,h2⟩:=hv;exact⟨vs,h1,tB (λp q v h hv=>ih p q v h hv) hqs h2⟩
   ·cases h
  | tuple cs =>
   simp only[inl]at h;split at h
   ·rename_i qs hqs;simp only[oJ]at h;subst h;rw[VR]at hv ⊢;obtain⟨vs,h1,h2⟩:=hv;exact⟨vs,h1,tB (λp q v h hv=>ih p q v h hv) hqs h2⟩
   ·cases h
  | clo fn f c =>
   simp only[inl]at h;split at h
   ·rename_i f' c' hf hc;simp only[oJ]at h;subst h;rw[VR]at hv ⊢;obtain⟨fs,cs,h1,h2,h3⟩:=hv;exact⟨fs,cs,h1,tB (λp q v h hv=>ih p q v h hv) hf h2,tB (λp q v h hv=>ih p q v h hv) hc h3⟩
   ·cases h
def vT(P:Program) (g:FuncId) (args:List PV) (r:PV):Prop :=
 ∀ (w:World) (G:Nat->Prop) (vs:Array Value),Lt w G->VRs w (Gd.of G) aZ args vs.toList ->
  (callFunc g vs).run P w=.ok (.enter g vs) w/\Calls P g vs w λe w'=>∃ v' G',e=.returned v'/\Ext (OL w) w (Gd.of G) aZ w' (Gd.of G') aZ/\(∀ b,G' b->b<w'.heap.size)/\VR w' (Gd.of G') aZ r v'
def AM:PV->Bool
 | .lit _=>true
 | _=>false
def EJ:PV->Bool
 | .lit _=>true
 | .agg cs=>cs.all AM
 | _=>false
def flat:PV->Bool
 | .lit _=>true
 | .agg cs=>cs.all AM
 | .tuple cs=>cs.all EJ
 | _=>false
theorem zE {w' G'}:∀ {ps vs},ps.all AM=true->VRs w G aZ ps vs->VRs w' G' μ ps vs
 | [],vs,_,h=>h
 | p::ps,vs,hf,h=>by
  simp only[List.all_cons,oA]at hf;obtain⟨x,xs,h1,h2,h3⟩:=h;refine⟨x,xs,h1,?_,zE hf.2 h3⟩;cases p <;> simp only[AM]at hf <;> try grind
  exact h2
theorem C4 {w' G'}:∀ {ps vs},ps.all EJ=true->VRs w G aZ ps vs->VRs w' G' μ ps vs
 | [],vs,_,h=>h
 | p::ps,vs,hf,h=>by
  simp only[List.all_cons,oA]at hf;obtain⟨x,xs,h1,h2,h3⟩:=h;refine⟨x,xs,h1,?_,C4 hf.2 h3⟩;cases p <;> simp only[EJ]at hf <;> try grind
  ·exact h2
  ·obtain⟨us,q1,q2⟩:=h2;exact⟨us,q1,zE hf.1 q2⟩
theorem NG {w' G' p v}(hf:flat p=true)(h:VR w G aZ p v):VR w' G' μ p v:=by
 cases p <;> simp only[flat]at hf <;> try grind
 ·exact h
 ·obtain⟨vs,h1,h2⟩:=h;exact⟨vs,h1,zE hf h2⟩
 ·obtain⟨vs,h1,h2⟩:=h;exact⟨vs,h1,C4 hf h2⟩
theorem CX(hW:eA n0 G μ H w) {w':World} {G0 G1:Gd} (hG:∀ b,G b->G0 b) (hG0:∀ b,G0 b->G b\/∃ r,μ.loc r=some b) (e:Ext (OL w) w G0 aZ w' G1 aZ) (hlt:∀ b,G1 b->b<w'.heap.size) {G':Gd}
  (hG':∀ b,G' b->G b\/w.heap.size<=b/\b<w'.heap.size) (hGG':∀ b,G b->G' b) (hrow:∀ j,G'.row j=G.row j):Ext n0 w G μ w' G' μ/\eA n0 G' μ H w':=by
 have e':Ext n0 w G μ w' G' μ:={
  good:=λb hb=>⟨hGG' b hb,e.old b (hW.lt b hb) (Nat.not_le.2 (hW.lt b hb))⟩
  map:=λ_ _ h=>h
  len:=λ_ _ h=>h
  room:=e.room
  row:=λj b h=>by rw[hrow]; exact h
  os:=e.os
  tape:=e.tape
  output:=e.output
  size:=e.size
  old:=λb hb _=>e.old b hb (Nat.not_le.2 hb)
  new:=λb hb=>by
   rcases hG' b hb with h|h
   ·exact .inl h
   ·exact .inr (hW.base b h.1) }
 refine⟨e',hW.keep e' ⟨hrow,λj b hj=>?_⟩ ?_ ?_⟩
 ·have hlt:=(hW.rows.sep j b hj).1;refine⟨e.old b hlt (Nat.not_le.2 hlt),λhb'=>?_⟩;rcases hG' b hb' with h|h
  ·exact h
  ·omega
 ·intro r k b hr hb;have hlt:b<w.heap.size:=hW.GQ hr hb;refine⟨e.old b hlt (Nat.not_le.2 hlt),λhb'=>?_⟩;rcases hG' b hb' with h|h
  ·exact h
  ·omega
 ·intro b hb;rcases hG' b hb with h|h
  ·exact Nat.lt_of_lt_of_le (hW.lt b h) e.size
  ·exact h.2
theorem JM(hW:eA n0 G μ H w) {g:FuncId} {args qs:List PV} {r:PV} {n:Nat} {vs:List Value} (hp:vT P g qs r) (hq:wC (inl false H n) args=some qs) (hn:iM.noRows qs=true) (hf:flat r=true) (hv:VRs w G μ args vs):vQ P n0 w G μ g vs.toArray r H:=by
 have hlive:∀ r k b,H[r]?=some (some k)->μ.loc r=some b->b<w.heap.size:=λr k b hr hb=>by exact hW.GQ hr hb
 have hvs:VRs w (⟨λb=>b<w.heap.size,G.row⟩:Gd) aZ qs vs:=tB (λp q v h hv=>CW (G':=⟨λb=>b<w.heap.size,G.row⟩) hW (λ_ _ h=>h) (λb hb=>hW.lt b hb) (λr k b hr _ hb=>hlive r k b hr hb) n p q v h hv) hq hv;have hvs:VRs w (Gd.of λb=>b<w.heap.size) aZ qs vs:=pO (G:=⟨λb=>b<w.heap.size,G.row⟩) (G':=Gd.of λb=>b<w.heap.size) (λb h=>h) _ _ _ hn hvs;obtain⟨h1,h2⟩:=hp w (λb=>b<w.heap.size) vs.toArray hW.lt.all (by simpa using hvs)
 refine⟨h1,h2.mono ?_⟩;rintro e w' ⟨v',G',rfl,e1,e2,e3⟩;have e4:Ext n0 w G μ w' G μ:={
  good:=λb hb=>⟨hb,e1.old b (hW.lt b hb) (Nat.not_le.2 (hW.lt b hb))⟩
  map:=λ_ _ h=>h
  len:=λ_ _ h=>h
  room:=e1.room
  row:=λ_ _ h=>h
  os:=e1.os
  tape:=e1.tape
  output:=e1.output
  size:=e1.size
  old:=λb hb _=>e1.old b hb (Nat.not_le.2 hb)
  new:=λb hb=>.inl hb }
 refine⟨v',G,μ,rfl,e4,hW.keep e4 ⟨λ_=>rfl,λj b hj=>⟨e1.old b (hW.rows.sep j b hj).1 (Nat.not_le.2 (hW.rows.sep j b hj).1),id⟩⟩ ?_ ?_,NG hf e3⟩
 ·intro r k b hr hb;exact⟨e1.old b (hlive r k b hr hb) (Nat.not_le.2 (hlive r k b hr hb)),id⟩
 ·intro b hb;exact Nat.lt_of_lt_of_le (hW.lt b hb) e1.size
theorem J7(hW:eA n0 G μ H w) {g:FuncId} {args qs:List PV} {r:PV} {n:Nat} {vs:List Value} (hp:vT P g qs r) (hq:wC (inl true H n) args=some qs) (hn:iM.noRows qs=true) (hv:VRs w G μ args vs):vQ P n0 w G μ g vs.toArray r H:=by
 have hvs:VRs w G aZ qs vs:=tB (λp q v h hv=>CW hW (λ_ _ h=>h) (λb hb=>hb) (λr k b hr hf hb=>by
  obtain⟨c,h2,_,_,h5,_⟩:=hW.blk r k b hr hb;rcases hf with hf|hf
  ·exact h5 hf
  ·cases hf) n p q v h hv) hq hv
 have hvs:VRs w (Gd.of G.ok) aZ qs vs:=pO (G:=G) (G':=Gd.of G.ok) (λb h=>h) _ _ _ hn hvs;obtain⟨h1,h2⟩:=hp w G.ok vs.toArray hW.lt (by simpa using hvs);refine⟨h1,h2.mono ?_⟩;rintro e w' ⟨v',G',rfl,e1,e2,e3⟩;obtain⟨e4,e5⟩:=CX (G':=⟨G',G.row⟩) hW (G0:=Gd.of G.ok) (λb h=>h) (λb h=>.inl h) e1 e2 (λb hb=>by
  rcases e1.new b hb with h|h
  ·exact .inl h
  ·exact .inr ⟨h,e2 b hb⟩) (λb hb=>(e1.good b hb).1) (λ_=>rfl)
 exact⟨v',⟨G',G.row⟩,μ,rfl,e4,e5,(VR.mono (I2 (λb h=>h)) _ _ e3).fK⟩
end
def reach(H:Heap):Nat->PV->List Nat
 | n+1,.hs r _ _ _ _=>r::(match fO H r with|some k=>k.cells.flatMap (λp=>reach H n p)|none=>[])
 | n+1,.hptr r _=>r::(match fO H r with|some k=>k.cells.flatMap (λp=>reach H n p)|none=>[])
 | _,.own r _=>[r]
 | _,.op r _ _ _=>[r]
 | _,.win r _ _ _=>[r]
 | n+1,.agg cs=>cs.flatMap (λp=>reach H n p)
 | n+1,.tuple cs=>cs.flatMap (λp=>reach H n p)
 | n+1,.clo _ f c=>f.flatMap (λp=>reach H n p)++c.flatMap (λp=>reach H n p)
 | _,_=>[]
def depth:Nat:=16
def QV(P:Program) (t:TypeId):Bool:=match P.info? t with
 | some i=>!i.hasPointers||(match P.underlying t with|some .string=>true|_=>false)
 | none=>false
def GV(P:Program)(g:FuncId):Bool:=match P.funcs[g]? with
 | some fn=>fn.resultTypes.toList.all (QV P)
 | none=>false
def callee(P:Program) (sh:FuncId->Bool) (pure:FuncId->List PV->Option PV) (shared:FuncId->List PV->Heap->Option (PV×Heap)):Callee:=λg args H =>
 bif sh g then match shared g args H with
  | some (r,H')=>some (r,H',2)
  | none=>none
 else bif iU.noRefs args then bif iM.noRows args then match pure g args with
  | some r=>some (r,H,0)
  | none=>none
  else none
 else bif GV P g then match wC (λp=>inl false H depth p) args with
  | some qs=>bif iM.noRows qs then match pure g qs with
   | some r=>bif flat r then some (r,H,1) else none
   | none=>none
   else none
  | none=>none
 else match rG H (args.flatMap (λp=>reach H depth p))with
  | H1=>match wC (λp=>inl true H1 depth p) args with
   | some qs=>bif iM.noRows qs then match pure g qs with
    | some r=>some (r,H1,2)
    | none=>none
    else none
   | none=>none
section
variable {P:Program} {n0:Nat->Prop} {w:World} {G:Gd} {μ:Mp} {H:Heap}
theorem vQ.trans {g vs r H' G1}(e:Ext n0 w G μ w G1 μ)(h:vQ P n0 w G1 μ g vs r H'):vQ P n0 w G μ g vs r H':=by
 refine⟨h.1,h.2.mono ?_⟩;rintro x w' ⟨v',G',μ',rfl,e1,e2,e3⟩;exact⟨v',G',μ',rfl,e.trans e1,e2,e3⟩
theorem JK {sh pure shared} (hp:∀ g args r,pure g args=some r->vT P g args r)
  (hs:∀ g args H r H',shared g args H=some (r,H')->∀ {n0 G μ w vs},eA n0 G μ H w->VRs w G μ args vs->vQ P n0 w G μ g vs.toArray r H'):BM P (callee P sh pure shared) where
 call:=by
  intro g args H r H' c h n0 G μ w vs hW hv;unfold callee at h;cases hsh:sh g with
  | true =>
   rw[hsh]at h;simp only[oC]at h;split at h
   ·rename_i r1 H1 hr;simp only[oJ,oP]at h;obtain⟨rfl,rfl,rfl⟩:=h;exact hs g args H r1 H1 hr hW hv
   ·cases h
  | false =>
   rw[hsh]at h;simp only[oD]at h;cases hn:iU.noRefs args with
   | true =>
    rw[hn]at h;simp only[oC]at h;obtain⟨hnr,h⟩:=cC h;split at h
    ·rename_i r1 hr;simp only[oJ,oP]at h;obtain⟨rfl,rfl,rfl⟩:=h;obtain⟨h1,h2⟩:=hp g args r1 hr w G.ok vs.toArray hW.lt (by simpa using pO (G:=G) (G':=Gd.of G.ok) (λb h=>h) _ _ _ hnr (eF _ _ hn hv));refine⟨h1,h2.mono ?_⟩;rintro e w' ⟨v',G',rfl,e1,e2,e3⟩;obtain⟨e4,e5⟩:=CX (G':=⟨G',G.row⟩) hW (G0:=Gd.of G.ok) (λb h=>h) (λb h=>.inl h) e1 e2 (λb hb=>by
      rcases e1.new b hb with h|h
      ·exact .inl h
      ·exact .inr ⟨h,e2 b hb⟩) (λb hb=>(e1.good b hb).1) (λ_=>rfl)
     exact⟨v',⟨G',G.row⟩,μ,rfl,e4,e5,(VR.mono (I2 (λb h=>h)) _ _ e3).fK⟩
    ·cases h
   | false =>
    rw[hn]at h;simp only[oD]at h;cases hf:GV P g with
    | true =>
     rw[hf]at h;simp only[oC]at h;split at h
     ·rename_i qs hq;obtain⟨hnr,h⟩:=cC h;split at h
      ·rename_i r1 hr;cases hfl:flat r1 with
       | true =>
        rw[hfl]at h;simp only[oC,oJ,oP]at h;obtain⟨rfl,rfl,rfl⟩:=h;exact JM hW (hp g qs r1 hr) hq hnr hfl hv
       | false=>rw[hfl]at h; cases h
      ·cases h
     ·cases h
    | false =>
     rw[hf]at h;simp only[oD]at h;split at h
     ·rename_i qs hq;obtain⟨hnr,h⟩:=cC h;split at h
      ·rename_i r1 hr;simp only[oJ,oP]at h;obtain⟨rfl,rfl,rfl⟩:=h;obtain⟨G1,e1,hW1⟩:=vE (args.flatMap (λp=>reach H depth p)) H G hW;exact(J7 hW1 (hp g qs r1 hr) hq hnr (VRs.mono e1.toMono _ _ hv)).trans e1
      ·cases h
     ·cases h
 free:=by
  intro g args H r H' h;unfold callee at h ⊢;grind
 reads:=by
  intro g args H r H' h;unfold callee at h;cases hsh:sh g with
  | true =>
   rw[hsh]at h;simp only[oC]at h;split at h
   ·simp only[oJ,oP]at h;exact absurd h.2.2 (by decide)
   ·cases h
  | false =>
   rw[hsh]at h;simp only[oD]at h;cases hn:iU.noRefs args with
   | true =>
    rw[hn]at h;simp only[oC]at h;obtain⟨_,h⟩:=cC h;split at h
    ·simp only[oJ,oP]at h;exact absurd h.2.2 (by decide)
    ·cases h
   | false =>
    rw[hn]at h;simp only[oD]at h;cases hf:GV P g with
    | true =>
     rw[hf]at h;simp only[oC]at h;split at h
     ·obtain⟨_,h⟩:=cC h;split at h
      ·rename_i r1 hr;cases hfl:flat r1 with
       | true =>
        rw[hfl]at h;simp only[oC,oJ,oP]at h;exact h.2.1.symm
       | false=>rw[hfl]at h; cases h
      ·cases h
     ·cases h
    | false =>
     rw[hf]at h;simp only[oD]at h;split at h
     ·obtain⟨_,h⟩:=cC h;split at h
      ·simp only[oJ,oP]at h;exact absurd h.2.2 (by decide)
      ·cases h
     ·cases h
theorem aB6 {g:FuncId} {args:List PV} {v q:PV} {H':Heap} {n:Nat} (hs:∀ {n0 G μ w vs},eA n0 G μ [] w->VRs w G μ args vs->vQ P n0 w G μ g vs.toArray v H') (hq:inl false H' n v=some q) (hn:iM q=true):vT P g args q:=by
 intro w G vs hlt hv;have hW:eA (OL w) (Gd.of G) aZ [] w:=⟨λr k b h=>by simp at h,λr k g h=>by simp at h,λr s k l b h=>by simp at h,hlt,λ_ _=>⟨rfl,rfl⟩,λ_ h=>h,qO.none _ _ (λ_=>rfl) _ _ (λr k h=>by simp at h)⟩;obtain⟨h1,h2⟩:=hs hW hv;have hvs:vs.toList.toArray=vs:=by simp
 rw[hvs]at h1 h2;refine⟨h1,h2.mono ?_⟩;rintro e w' ⟨v',G1,μ1,rfl,e1,e2,e3⟩;refine⟨v',λb=>G1 b\/∃ r k,H'[r]?=some (some k)/\μ1.loc r=some b,rfl,?_,?_,?_⟩
 ·exact {
   good:=λb hb=>⟨.inl (e1.good b hb).1,(e1.good b hb).2⟩
   map:=λ_ _ h=>h
   len:=λ_ _ h=>h
   room:=e1.room
   row:=λ_ _ h=>h
   os:=e1.os
   tape:=e1.tape
   output:=e1.output
   size:=e1.size
   old:=e1.old
   new:=λb hb=>by
    rcases hb with hb|⟨r,k,hr,hb⟩
    ·exact e1.new b hb
    ·obtain⟨c,_,_,_,g5,g6⟩:=e2.blk r k b hr hb;cases hf:k.frozen with
     | true=>exact e1.new b (g5 hf)
     | false=>exact .inr (g6 hf).1 }
 ·rintro b (hb|⟨r,k,hr,hb⟩)
  ·exact e2.lt b hb
  ·exact e2.GQ hr hb
 ·exact F4 (G:=⟨λb=>G1 b\/∃ r k,H'[r]?=some (some k)/\μ1.loc r=some b,G1.row⟩) (G':=Gd.of _) (λb h=>h) _ _ _ hn
   (CW (G':=⟨λb=>G1 b\/∃ r k,H'[r]?=some (some k)/\μ1.loc r=some b,G1.row⟩) e2 (λ_ _ h=>h) (λb hb=>.inl hb) (λr k b hr _ hb=>.inr ⟨r,k,hr,hb⟩) n v q v' hq e3)
theorem enters {g:Nat}{fn}(h:P.funcs[g]?=some fn)(hn:(fn.name== "runtime.NumGoroutine")=false)(hb:fn.body.isNone=false) xs w:(callFunc g xs).run P w=.ok (.enter g xs) w:=by
 unfold callFunc;simp only[Sem.run_bind,program,Sem.run,Result.andThen_ok,h,hn,hb];rfl
end
def aWM(H:Heap) (v:PV):Option PV:=match inl false H depth v with
 | some q=>bif iM q then some q else none
 | none=>none
theorem YQ {H v q}(h:aWM H v=some q):inl false H depth v=some q/\iM q=true:=by
 unfold aWM at h;grind
def a4E(P:Program) (cfgs:FuncId->Cfg) (sh:FuncId->Bool) (prim:FuncId->List PV->Option PV) (L:Nat):Nat->FuncId->List PV->Heap->Option (PV×Heap)
 | 0,_,_,_=>none
 | n+1,g,args,H=>match P.funcs[g]? with
  | some fn=>match aSQ P (callee P sh (λg as1=>match prim g as1 with
    | some r=>some r
    | none=>match a4E P cfgs sh prim L n g as1 []with
     | some (v,H')=>aWM H' v
     | none=>none) (λg as1 H=>a4E P cfgs sh prim L n g as1 H)) (cfgs g) L fn args H with
   | some (v,_,H')=>some (v,H')
   | none=>none
  | none=>none
def a7Y(P:Program) (cfgs:FuncId->Cfg) (sh:FuncId->Bool) (prim:FuncId->List PV->Option PV) (L n:Nat) (g:FuncId) (args:List PV):Option PV :=
 match a4E P cfgs sh prim L n g args []with
 | some (v,H')=>aWM H' v
 | none=>none
structure aEU (P:Program):Prop where
 mixed:P.follows .mixedOrders=true
 names:∀ (g:Nat) (fn:Func),P.funcs[g]?=some fn->(fn.name== "runtime.NumGoroutine")=false
section
variable {P:Program} {cfgs:FuncId->Cfg} {sh:FuncId->Bool} {prim:FuncId->List PV->Option PV} {L:Nat}
theorem a0A(hP:aEU P)(hprim:∀ g args r,prim g args=some r->vT P g args r):∀ n g args H r H',a4E P cfgs sh prim L n g args H=some (r,H') ->
  ∀ {n0 G μ w vs},eA n0 G μ H w->VRs w G μ args vs->vQ P n0 w G μ g vs.toArray r H':=by
 intro n
 induction n with
 | zero=>intro g args H r H' h; cases h
 | succ n ih =>
  intro g args H r H' h n0 G μ w vs hW hv;simp only[a4E]at h;split at h
  ·rename_i fn hg;split at h
   ·rename_i v F H1 hb;simp only[oJ,oP]at h;obtain⟨rfl,rfl⟩:=h;refine⟨enters hg (hP.names g fn hg) ?_ _ _,?_⟩
    ·unfold aSQ at hb;grind
    ·refine aUJ (JK ?_ ?_) hP.mixed hg hb hW (by simpa using hv)
     ·intro g' args' r' h';split at h'
      ·grind
      ·split at h'
       ·rename_i v1 H2 hr;exact aB6 (λhW hv=>ih g' args' [] v1 H2 hr hW hv) (YQ h').1 (YQ h').2
       ·cases h'
     ·intro g' args' H0 r' H2 h';exact ih g' args' H0 r' H2 h'
   ·cases h
  ·cases h
theorem aZX(hP:aEU P)(hprim:∀ g args r,prim g args=some r->vT P g args r){n g args r}(h:a7Y P cfgs sh prim L n g args=some r):vT P g args r:=by
 unfold a7Y at h;split at h
 ·rename_i v H' hr;exact aB6 (λhW hv=>a0A hP hprim n g args [] v H' hr hW hv) (YQ h).1 (YQ h).2
 grind
end
def a3T:Operand->Nat
 | .tmp t=>2^t
 | _=>0
def bitsOf(m:Nat):List Operand->Nat
 | []=>m
 | .tmp t::r=>bitsOf (m ||| 2^t) r
 | _::r=>bitsOf m r
def aDR(m d:Nat):Nat:=(m ||| d) ^^^ d
def a2X(l:List Oper)(o:Oper):Nat:=match o.guard with
 | some (j,_)=>match l[j]? with
  | some p=>match p.dst with|some t=>2^t|none=>0
  | none=>0
 | none=>0
def aMK(l:List Oper):List Oper->Nat->Nat->Nat
 | [],_,acc=>acc
 | o::r,d,acc=>aMK l r (match o.dst with|some t=>d ||| 2^t|none=>d) (acc ||| aDR (bitsOf (a2X l o) o.op.operands.toList) d)
def aBH:Code->Nat
 | .region _ ops _=>aMK ops.toList ops.toList 0 0
 | .seq a b=>aBH a ||| aBH b
 | .cond c a b=>a3T c ||| aBH a ||| aBH b
 | .block _ a=>aBH a
 | .loop a=>aBH a
 | .scope a=>aBH a
 | _=>0
def aIB:List ResultVar->Nat->Nat
 | [],m=>m
 | .tmp t::r,m=>aIB r (m ||| 2^t)
 | .cell t _::r,m=>aIB r (m ||| 2^t)
def RV(fn:Func):Nat:=match fn.body with
 | some c=>aIB fn.results.toList (aBH c)
 | none=>0
def a0W(m:Nat):Nat->List Nat->List Nat
 | 0,l=>l
 | n+1,l=>a0W m n (bif aH1 m n then n::l else l)
def a8G(P:Program)(g:FuncId):Cfg:=match P.funcs[g]? with
 | some fn=>⟨fn.ntmps,RV fn,a0W (RV fn) fn.ntmps [],[],0⟩
 | none=>⟨0,0,[],[],0⟩
inductive Kd where
 | int (k:IntKind)
 | bool
 | str
 | list (t:Ty)
 | agg (t:Ty)
 | own (e:TypeId) (t:Ty)
 | box (e:TypeId) (t:Ty)
 | ptr (t:Ty)
 | fn (g:FuncId)
 | nil0
 | val
 | nilI
 | clo (g:FuncId) (ts:List Ty)
 | win (j sz:Nat)
 | bown (e et:TypeId) (t:Ty)
 | bque (e et:TypeId) (t:Ty)
 | bag (e:TypeId) (t1:Ty) (et:TypeId) (t:Ty) (t2:Option Ty)
 | bag2 (e:TypeId) (t1:Ty) (et:TypeId) (t:Ty) (eu:TypeId) (u:Ty)
 | hnd (sz:Nat)
 | mpk (j:Nat)
 | ar (e:TypeId) (t:Ty)
@[reducible] def NB:Option Ty->Type
 | none=>Unit
 | some t=>t.den
def OF:(t:Option Ty)->NB t->List PV
 | none,_=>[]
 | some t,x=>enc t x
@[reducible] def LP:List Ty->Type
 | []=>Unit
 | t::r=>t.den×LP r
@[reducible] def Kd.den:Kd->Type
 | .int _=>Int
 | .bool=>Bool
 | .str=>ByteArray
 | .list t=>List t.den
 | .agg t=>t.den
 | .own _ t=>List t.den
 | .box _ t=>t.den
 | .ptr t=>t.den
 | .fn _=>Unit
 | .nil0=>Unit
 | .val=>Value
 | .nilI=>Unit
 | .clo _ ts=>LP ts
 | .win _ _=>Nat×Nat
 | .bown _ _ t=>List t.den
 | .bque _ _ t=>List t.den
 | .bag _ t1 _ t t2=>t1.den×List t.den×NB t2
 | .bag2 _ t1 _ t _ u=>t1.den×List t.den×List u.den
 | .hnd _=>Nat×Nat×Nat
 | .mpk _=>Unit
 | .ar _ t=>List (List t.den)
abbrev Shape:=List (Nat×Kd)
@[reducible] def Shape.den:List (Nat×Kd)->Type
 | []=>Unit
 | (_,k)::r=>k.den×Shape.den r
def Kd.pos:Kd->Nat
 | .own _ _|.box _ _|.ar _ _=>1
 | .bown _ _ _=>2
 | .bque _ _ _=>2
 | .bag _ _ _ _ _=>2
 | .bag2 _ _ _ _ _ _=>3
 | _=>0
def LX:(ts:List Ty)->LP ts->List PV
 | [],_=>[]
 | t::r,(x,xs)=>.iptr (enc t x)::LX r xs
def KD:(k:Kd)->k.den->Nat->PV
 | .int k,x,_=>.lit (.int k x)
 | .bool,x,_=>.lit (.bool x)
 | .str,x,_=>.lit (.string x)
 | .list t,l,_=>uE t l none
 | .agg t,x,_=>.agg (enc t x)
 | .own _ t,_,n=>.own n t.size
 | .box _ _,_,n=>.hptr n 0
 | .ptr t,x,_=>.iptr (enc t x)
 | .fn g,_,_=>.lit (.func (.func g) #[] #[])
 | .nil0,_,_=>.lit (.slice none 0 0)
 | .val,x,_=>.lit x
 | .nilI,_,_=>.lit .nilIface
 | .clo g ts,x,_=>.clo (.func g) [] (LX ts x)
 | .win j sz,x,_=>.win j x.1 x.2 sz
 | .bown _ _ _,_,n=>.hptr n 0
 | .bque _ _ _,_,n=>.hptr n 0
 | .bag _ _ _ _ _,_,n=>.hptr n 0
 | .bag2 _ _ _ _ _ _,_,n=>.hptr n 0
 | .hnd sz,x,_=>.row x.1 x.2.1 x.2.2 sz
 | .mpk j,_,_=>.mp j
 | .ar _ _,_,_=>.junk
def PD:(k:Kd)->k.den->Nat->Heap
 | .own e t,l,_=>[some ⟨aP t l,e,true,false,some ⟨t,l⟩⟩]
 | .box e t,x,_=>[some ⟨enc t x,e,false,false,none⟩]
 | .bown e et t,l,n=>[some ⟨[.own (n+1) t.size],e,false,false,none⟩,some ⟨aP t l,et,true,false,some ⟨t,l⟩⟩]
 | .bque e et t,l,n=>[some ⟨[.qs (n+1) t.size],e,false,false,none⟩,some ⟨aP t l,et,true,false,some ⟨t,l⟩⟩]
 | .bag e t1 et t t2,x,n=>[some ⟨enc t1 x.1++.own (n+1) t.size::OF t2 x.2.2,e,false,false,none⟩,some ⟨aP t x.2.1,et,true,false,some ⟨t,x.2.1⟩⟩]
 | .bag2 e t1 et t eu u,x,n=>[some ⟨enc t1 x.1++[.own (n+1) t.size,.own (n+2) u.size],e,false,false,none⟩,some ⟨aP t x.2.1,et,true,false,some ⟨t,x.2.1⟩⟩,some ⟨aP u x.2.2,eu,true,false,some ⟨u,x.2.2⟩⟩]
 | .ar e t,l,_=>[some ⟨aP (.rows t) l,e,false,false,some ⟨.rows t,l⟩⟩]
 | .int _,_,_|.bool,_,_|.str,_,_|.list _,_,_|.agg _,_,_|.ptr _,_,_|.fn _,_,_|.nil0,_,_|.val,_,_|.nilI,_,_|.clo _ _,_,_|.win _ _,_,_|.hnd _,_,_|.mpk _,_,_=>[]
def JE:(sh:List (Nat×Kd))->Shape.den sh->Nat->Frm
 | [],_,_=>[]
 | (t,k)::r,(x,xs),n=>(t,KD k x n)::JE r xs (n+k.pos)
def CK:(sh:List (Nat×Kd))->Shape.den sh->Nat->Heap
 | [],_,_=>[]
 | (_,k)::r,(x,xs),n=>PD k x n++CK r xs (n+k.pos)
def MX sh (x:Shape.den sh):Heap:=CK sh x 0
def sD(e:TypeId)(t:Ty)(p:PV)(H:Heap)(n:Nat):Option (List t.den) :=
 match p with
 | .own s sz=>bif Nat.beq s n&&Nat.beq sz t.size then match fO H n with
  | some k=>match k.tag with
   | some g=>match pI g.t t g.l with
    | some l=>bif Nat.beq k.ty e&&k.grown&&!k.frozen then some l else none
    | none=>none
   | none=>none
  | none=>none
  else none
 | _=>none
def H9(e:TypeId)(t:Ty)(p:PV)(H:Heap)(n:Nat):Option t.den :=
 match p with
 | .hptr s off=>bif Nat.beq s n&&Nat.beq off 0 then match fO H n with
  | some k=>bif Nat.beq k.ty e&&!k.grown&&!k.frozen&&!k.tag.isSome then dec t k.cells else none
  | none=>none
  else none
 | _=>none
def D8(e et:TypeId)(t:Ty)(p:PV)(H:Heap)(n:Nat):Option (List t.den) :=
 match p with
 | .hptr s off=>bif Nat.beq s n&&Nat.beq off 0 then match fO H n with
  | some k=>bif Nat.beq k.ty e&&!k.grown&&!k.frozen&&!k.tag.isSome then match k.cells with
   | [.own r sz]=>sD et t (.own r sz) H (n+1)
   | _=>none
   else none
  | none=>none
  else none
 | _=>none
def EL(e et:TypeId)(t:Ty)(p:PV)(H:Heap)(n:Nat):Option (List t.den) :=
 match p with
 | .hptr s off=>bif Nat.beq s n&&Nat.beq off 0 then match fO H n with
  | some k=>bif Nat.beq k.ty e&&!k.grown&&!k.frozen&&!k.tag.isSome then match k.cells with
   | [.own r sz]=>bif Nat.beq sz t.size then sD et t (.own r sz) H (n+1) else none
   | [.qs r sz]=>bif Nat.beq sz t.size then sD et t (.own r sz) H (n+1) else none
   | _=>none
   else none
  | none=>none
  else none
 | _=>none
def P3:(t:Option Ty)->List PV->Option (NB t)
 | none,cs=>match cs with
  | []=>some ()
  | _::_=>none
 | some t,cs=>dec t cs
def IB(e:TypeId)(t1:Ty)(et:TypeId)(t:Ty) t2 (p:PV)(H:Heap)(n:Nat):Option (t1.den×List t.den×NB t2) :=
 match p with
 | .hptr s off=>bif Nat.beq s n&&Nat.beq off 0 then match fO H n with
  | some k=>bif Nat.beq k.ty e&&!k.grown&&!k.frozen&&!k.tag.isSome then match k.cells.drop t1.size with
   | .own r sz::rest=>match dec t1 (k.cells.take t1.size),sD et t (.own r sz) H (n+1),P3 t2 rest with
    | some a,some l,some b=>some (a,l,b)
    | _,_,_=>none
   | _=>none
   else none
  | none=>none
  else none
 | _=>none
def ES(e:TypeId)(t1:Ty)(et:TypeId)(t:Ty)(eu:TypeId)(u:Ty)(p:PV)(H:Heap)(n:Nat):Option (t1.den×List t.den×List u.den) :=
 match p with
 | .hptr s off=>bif Nat.beq s n&&Nat.beq off 0 then match fO H n with
  | some k=>bif Nat.beq k.ty e&&!k.grown&&!k.frozen&&!k.tag.isSome then match k.cells.drop t1.size with
   | [.own r sz,.own r2 sz2]=>match dec t1 (k.cells.take t1.size),sD et t (.own r sz) H (n+1),sD eu u (.own r2 sz2) H (n+2)with
    | some a,some l,some b=>some (a,l,b)
    | _,_,_=>none
   | _=>none
   else none
  | none=>none
  else none
 | _=>none
def MR(e:TypeId)(t:Ty)(H:Heap)(n:Nat):Option (List (List t.den)):=match fO H n with
 | some k=>match k.tag with
  | some g=>match pI g.t (.rows t) g.l with
   | some l=>bif Nat.beq k.ty e&&!k.grown&&!k.frozen then some l else none
   | none=>none
  | none=>none
 | none=>none
def MQ(t:Ty):PV->Option t.den
 | .agg cs=>dec t cs
 | _=>none
def ER(t:Ty):PV->Option t.den
 | .iptr cs=>dec t cs
 | _=>none
def OD:(ts:List Ty)->List PV->Option (LP ts)
 | [],[]=>some ()
 | t::r,p::ps=>match ER t p with
  | some x=>match OD r ps with
   | some xs=>some (x,xs)
   | none=>none
  | none=>none
 | _,_=>none
def L2(j:Nat):PV->Option Unit
 | .mp i=>bif Nat.beq i j then some () else none
 | _=>none
def K4(g:FuncId):PV->Option Unit
 | .lit (.func (.func f) first caps)=>bif Nat.beq f g&&Nat.beq first.size 0&&Nat.beq caps.size 0 then some () else none
 | _=>none
def G3:PV->Option Unit
 | .lit (.slice none o c)=>bif Nat.beq o 0&&Nat.beq c 0 then some () else none
 | _=>none
def H7:PV->Option Value
 | .lit v=>some v
 | _=>none
def DQ:PV->Option Unit
 | .lit .nilIface=>some ()
 | _=>none
theorem ET {p x}(h:H7 p=some x):p=.lit x:=by
 unfold H7 at h;grind
theorem CE {p x}(h:DQ p=some x):p=.lit .nilIface:=by
 unfold DQ at h;grind
def G7(g:FuncId) ts:PV->Option (LP ts)
 | .clo (.func f) [] caps=>bif Nat.beq f g then OD ts caps else none
 | _=>none
def G4(j sz:Nat):PV->Option (Nat×Nat)
 | .win r lo n s=>bif Nat.beq r j&&Nat.beq s sz then some (lo,n) else none
 | _=>none
def PL:(k:Kd)->PV->Heap->Nat->Option k.den
 | .int k,p,_,_=>D7 k [p]
 | .bool,p,_,_=>AQ [p]
 | .str,p,_,_=>EC [p]
 | .list t,p,_,_=>dec (.list t) [p]
 | .agg t,p,_,_=>MQ t p
 | .own e t,p,H,n=>sD e t p H n
 | .box e t,p,H,n=>H9 e t p H n
 | .ptr t,p,_,_=>ER t p
 | .fn g,p,_,_=>K4 g p
 | .nil0,p,_,_=>G3 p
 | .val,p,_,_=>H7 p
 | .nilI,p,_,_=>DQ p
 | .clo g ts,p,_,_=>G7 g ts p
 | .win j sz,p,_,_=>G4 j sz p
 | .bown e et t,p,H,n=>D8 e et t p H n
 | .bque e et t,p,H,n=>EL e et t p H n
 | .bag e t1 et t t2,p,H,n=>IB e t1 et t t2 p H n
 | .bag2 e t1 et t eu u,p,H,n=>ES e t1 et t eu u p H n
 | .hnd sz,p,_,_=>EK sz [p]
 | .mpk j,p,_,_=>L2 j p
 | .ar e t,_,H,n=>MR e t H n
def NC:(sh:List (Nat×Kd))->Frm->Heap->Nat->Option (Shape.den sh)
 | [],_,_,_=>some ()
 | (t,k)::r,F,H,n=>match PL k (iL F t) H n with
  | some x=>match NC r F H (n+k.pos)with
   | some xs=>some (x,xs)
   | none=>none
  | none=>none
def aUI:List (Nat×Kd)->List (Nat×TypeId×Option Ty)
 | []=>[]
 | (t,.own e ty)::r=>(t,e,some ty)::aUI r
 | (t,.box e _)::r=>(t,e,none)::aUI r
 | (t,.ar e ty)::r=>(t,e,some (.rows ty))::aUI r
 | _::r=>aUI r
def slotsOf:List (Nat×Kd)->List Nat
 | []=>[]
 | (t,_)::r=>t::slotsOf r
def GM:List (Nat×Kd)->Nat
 | []=>0
 | (_,k)::r=>k.pos+GM r
def LM(e:TypeId) (ty:Ty) (H:Heap):PV->Option (PV×Heap)
 | .win s lo n sz=>bif Nat.beq lo 0&&Nat.beq sz ty.size then match sD e ty (.own s sz) H s with
   | some l=>some (.own H.length sz,(H.set s none)++[some ⟨aP ty (l.take n),e,true,false,some ⟨ty,l.take n⟩⟩])
   | none=>none
  else none
 | _=>none
def lP:List (Nat×Kd)->Frm->Heap->Frm×Heap
 | [],F,H=>(F,H)
 | (t,.list _)::r,F,H=>match iL F t with
  | .own s _=>match fO H s with
   | some k=>match k.tag with
    | some g=>bif k.frozen then lP r ((t,uE g.t g.l none)::F) H else lP r ((t,uE g.t g.l none)::F) (H.set s (some { k with frozen:=true }))
    | none=>lP r F H
   | none=>lP r F H
  | _=>lP r F H
 | (t,.hnd sz)::r,F,H=>match iL F t with
  | .own s sz2=>bif Nat.beq sz2 sz then match EG H sz s with
   | some (q,H1)=>lP r ((t,q)::F) H1
   | none=>lP r F H
   else lP r F H
  | _=>lP r F H
 | (t,.own e ty)::r,F,H=>match LM e ty H (iL F t)with
  | some (q,H1)=>lP r ((t,q)::F) H1
  | none=>lP r F H
 | _::r,F,H=>lP r F H
def aH7(sh:List (Nat×Kd)) (F:Frm) (H:Heap):Option (Shape.den sh) :=
 match lP sh F H with
 | (F1,H1)=>match tidy ⟨slotsOf sh,aUI sh,0⟩ F1 H1 with
  | some (F',H')=>bif Nat.beq H'.length (GM sh) then NC sh F' H' 0 else none
  | none=>none
section
variable {P:Program} {n0:Nat->Prop} {w wi:World} {G Gi:Gd} {μ μi μ':Mp} {H:Heap} {F:Frm} {a:Act} {nt:Nat}
theorem jT(hW:eA n0 G μ H w){e t p n l}(h:sD e t p H n=some l):p=.own n t.size/\H[n]?=some (some ⟨aP t l,e,true,false,some ⟨t,l⟩⟩):=by
 unfold sD at h;split at h
 ·rename_i s sz;replace h:=cC h;obtain⟨hb,h⟩:=h;simp only[oA]at hb;have h1:=oE hb.1;have h2:=oE hb.2;subst h1; subst h2;split at h
  ·rename_i k hk;split at h
   ·rename_i g hg;split at h
    ·rename_i l' hc;obtain⟨hb,h⟩:=cC h;simp only[oA]at hb;simp only[oJ]at h;subst h;have ht:=(hW.tags s k g (bB hk) hg).1;obtain⟨rfl,rfl⟩:=xT hc;rw[bB hk];obtain⟨k1,k2,k3,k4,k5⟩:=k
     simp_all
    ·cases h
   ·cases h
  ·cases h
 ·cases h
theorem CC(hW:eA n0 G μ H w){e et t p n l}(h:D8 e et t p H n=some l) :
  p=.hptr n 0/\H[n]?=some (some ⟨[.own (n+1) t.size],e,false,false,none⟩)/\H[n+1]?=some (some ⟨aP t l,et,true,false,some ⟨t,l⟩⟩):=by
 unfold D8 at h;split at h
 ·rename_i s off;replace h:=cC h;obtain⟨hb,h⟩:=h;simp only[oA]at hb;have h1:=oE hb.1;have h2:=oE hb.2;subst h1; subst h2;refine⟨rfl,?_⟩;split at h
  ·rename_i k hk;replace h:=cC h;obtain⟨hc,h⟩:=h;simp only[oA,Bool.not_eq_true']at hc;obtain⟨⟨⟨c1,c2⟩,c3⟩,c4⟩:=hc;split at h
   ·rename_i r sz hcs;obtain⟨h3,h4⟩:=jT hW h;cases h3;rw[bB hk];obtain⟨k1,k2,k3,k4,k5⟩:=k
    simp_all
   ·cases h
  ·cases h
 ·cases h
def KU(k k':Blk):Prop:=k.tag=none/\k'.ty=k.ty/\k'.grown=k.grown/\k'.frozen=k.frozen/\k'.tag=none/\∀ (w:World) (G:Gd) (μ:Mp) (b o:Nat),aK w G μ b o k.cells->aK w G μ b o k'.cells/\k'.cells.length=k.cells.length
def FX(a b:Option (Option Blk)):Prop:=a=b\/∃ k k',a=some (some k)/\b=some (some k')/\KU k k'
theorem eA.N4 (hW:eA n0 G μ H w){H'}(h:∀ r:Nat,FX H[r]? H'[r]?):eA n0 G μ H' w:=by
 have key:∀ (r:Nat) (k':Blk),H'[r]?=some (some k')->∃ k,H[r]?=some (some k)/\(k=k'\/KU k k')/\k'.frozen=k.frozen:=by
  intro r k' hr;rcases h r with h1|⟨k,k2,h1,h2,h3⟩
  ·grind
  ·rw[hr]at h2;cases h2;exact⟨k,h1,.inr h3,h3.2.2.2.1⟩
 refine⟨?_,?_,?_,hW.lt,?_,hW.base,hW.rows.step (Mono.refl _ _ _) (oM _) (λ_=>rfl) (λj b hj=>⟨rfl,id,λr k' hr hf hl=>?_⟩) (λr k' t l hr hg ht=>?_)⟩
 case refine_5 =>
  grind
 case refine_6 =>
  obtain⟨k,h1,h2,h3⟩:=key r k' hr;rcases h2 with rfl|⟨_,_,_,_,e4,_⟩
  ·grind
  ·grind
 ·intro r k' b hr hb;obtain⟨k,h1,h2,h3⟩:=key r k' hr;obtain⟨c,a1,a2,a3,a4⟩:=hW.blk r k b h1 hb;rcases h2 with rfl|⟨_,e1,e2,e3,_,e5⟩
  ·grind
  ·grind
 ·intro r k' g hr hg;obtain⟨k,h1,h2,_⟩:=key r k' hr;rcases h2 with rfl|⟨_,_,_,_,e4,_⟩
  ·exact hW.tags r k g h1 hg
  ·grind
 ·intro r s k l b hr hs fk fl m1 m2;obtain⟨k1,h1,_,h3⟩:=key r k hr;obtain⟨l1,h4,_,h6⟩:=key s l hs;exact hW.inj r s k1 l1 b h1 h4 (by rw[<- h3]; exact fk) (by rw[<- h6]; exact fl) m1 m2
 ·intro r hr;refine hW.top r ?_;rcases oG r H.length with hl|hl
  ·rcases h r with h1|⟨k,k',_,h2,_⟩
   ·grind
   ·grind
  ·exact hl
theorem CG(hW:eA n0 G μ H w){e et t p n l}(h:EL e et t p H n=some l) :
  p=.hptr n 0/\FX H[n]? (some (some ⟨[.qs (n+1) t.size],e,false,false,none⟩))/\H[n+1]?=some (some ⟨aP t l,et,true,false,some ⟨t,l⟩⟩):=by
 unfold EL at h;split at h
 ·replace h:=cC h;obtain⟨hb,h⟩:=h;simp only[oA]at hb;have h1:=oE hb.1;have h2:=oE hb.2;subst h1; subst h2;refine⟨rfl,?_⟩;split at h
  ·rename_i k hk;replace h:=cC h;obtain⟨hc,h⟩:=h;simp only[oA,Bool.not_eq_true']at hc;obtain⟨⟨⟨c1,c2⟩,c3⟩,c4⟩:=hc;have c1:=oE c1;split at h
   ·rename_i r sz hcs;obtain⟨_,h⟩:=cC h;obtain⟨h3,h4⟩:=jT hW h;cases h3;refine⟨.inr ⟨k,_,bB hk,rfl,by simpa using c4,c1.symm,c2.symm,c3.symm,rfl,?_⟩,h4⟩;intro w G μ b o hc;rw[hcs]at hc ⊢;obtain⟨⟨v,u1,u2⟩,_⟩:=hc;refine⟨?_,rfl⟩;exact⟨⟨v,u1,MF u2⟩,trivial⟩
   ·rename_i r sz hcs;obtain⟨_,h⟩:=cC h;obtain⟨h3,h4⟩:=jT hW h;cases h3;refine⟨?_,h4⟩;rw[bB hk];obtain⟨k1,k2,k3,k4,k5⟩:=k;dsimp only at c1 c2 c3 c4 hcs;rw[hcs,c1,c2,c3];cases k5 with
    | none=>exact .inl rfl
    | some g=>simp at c4
   ·cases h
  ·cases h
 ·cases h
theorem EO {e t p n x}(h:H9 e t p H n=some x):p=.hptr n 0/\FX H[n]? (some (some ⟨enc t x,e,false,false,none⟩)):=by
 unfold H9 at h;split at h
 ·replace h:=cC h;obtain⟨hb,h⟩:=h;simp only[oA]at hb;have h1:=oE hb.1;have h2:=oE hb.2;subst h1; subst h2;refine⟨rfl,?_⟩;split at h
  ·rename_i k hk;obtain⟨hc,h⟩:=cC h;simp only[oA,Bool.not_eq_true']at hc;obtain⟨⟨⟨c1,c2⟩,c3⟩,c4⟩:=hc;have c1:=oE c1;refine .inr ⟨k,_,bB hk,rfl,by simp_all,c1.symm,c2.symm,c3.symm,rfl,?_⟩;intro w G μ b o hc;obtain⟨vs,d1,d2⟩:=hc.values;have d3:=tZ t μ k.cells x vs h d1;exact⟨aK.gF d3.fK d2,by rw[d3.length,d1.length]⟩
  grind
 grind
theorem M9 t μ cs x vs (h:P3 t cs=some x)(hv:VRs w G μ cs vs):VRs w G aZ (OF t x) vs:=by
 cases t with
 | none =>
  cases cs with
  | nil=>exact hv
  | cons p ps=>cases h
 | some t=>exact tZ t μ cs x vs h hv
theorem EI(hW:eA n0 G μ H w){e t1 et t t2 p n x}(h:IB e t1 et t t2 p H n=some x) :
  p=.hptr n 0/\FX H[n]? (some (some ⟨enc t1 x.1++.own (n+1) t.size::OF t2 x.2.2,e,false,false,none⟩))/\H[n+1]?=some (some ⟨aP t x.2.1,et,true,false,some ⟨t,x.2.1⟩⟩):=by
 unfold IB at h;split at h
 ·rename_i s off;replace h:=cC h;obtain⟨hb,h⟩:=h;simp only[oA]at hb;have h1:=oE hb.1;have h2:=oE hb.2;subst h1; subst h2;refine⟨rfl,?_⟩;split at h
  ·rename_i k hk;obtain⟨hc,h⟩:=cC h;simp only[oA,Bool.not_eq_true']at hc;obtain⟨⟨⟨c1,c2⟩,c3⟩,c4⟩:=hc;have c1:=oE c1;split at h
   ·rename_i r sz rest hd;split at h
    ·rename_i xa xl xb ha hl hbb;simp only[oJ]at h;subst h;obtain⟨h3,h4⟩:=jT hW hl;cases h3;refine⟨.inr ⟨k,_,bB hk,rfl,by simpa using c4,c1.symm,c2.symm,c3.symm,rfl,?_⟩,h4⟩;intro w G μ b o hc;obtain⟨vs,d1,d2⟩:=hc.values;have d3:=d1.take t1.size;have d4:=d1.drop t1.size;rw[hd,VRs]at d4;obtain⟨v,vc,e1,d5,d6⟩:=d4;have d7:=tZ t1 μ _ xa _ ha d3;have d8:=M9 t2 μ _ xb vc hbb d6;have d9:VRs w G μ (enc t1 xa++.own (s+1) t.size::OF t2 xb) (vs.take t1.size++v::vc):=VRs.append d7.fK (by rw[VRs]; exact⟨v,vc,rfl,d5,d8.fK⟩)
     rw[<- e1,List.take_append_drop]at d9;exact⟨aK.gF d9 d2,by rw[d9.length,d1.length]⟩
    ·cases h
   ·cases h
  ·cases h
 ·cases h
theorem CH(hW:eA n0 G μ H w){e t1 et t eu u p n x}(h:ES e t1 et t eu u p H n=some x) :
  p=.hptr n 0/\FX H[n]? (some (some ⟨enc t1 x.1++[.own (n+1) t.size,.own (n+2) u.size],e,false,false,none⟩))/\H[n+1]?=some (some ⟨aP t x.2.1,et,true,false,some ⟨t,x.2.1⟩⟩)/\H[n+2]?=some (some ⟨aP u x.2.2,eu,true,false,some ⟨u,x.2.2⟩⟩):=by
 unfold ES at h;split at h
 ·rename_i s off;replace h:=cC h;obtain⟨hb,h⟩:=h;simp only[oA]at hb;have h1:=oE hb.1;have h2:=oE hb.2;subst h1; subst h2;refine⟨rfl,?_⟩;split at h
  ·rename_i k hk;obtain⟨hc,h⟩:=cC h;simp only[oA,Bool.not_eq_true']at hc;obtain⟨⟨⟨c1,c2⟩,c3⟩,c4⟩:=hc;have c1:=oE c1;split at h
   ·rename_i r sz r2 sz2 hd;split at h
    ·rename_i xa xl xb ha hl hbb;simp only[oJ]at h;subst h;obtain⟨h3,h4⟩:=jT hW hl;cases h3;obtain⟨h5,h6⟩:=jT hW hbb;cases h5;refine⟨.inr ⟨k,_,bB hk,rfl,by simpa using c4,c1.symm,c2.symm,c3.symm,rfl,?_⟩,h4,h6⟩;intro w G μ b o hc;obtain⟨vs,d1,d2⟩:=hc.values;have d3:=d1.take t1.size;have d4:=d1.drop t1.size;rw[hd]at d4;have d7:=tZ t1 μ _ xa _ ha d3;have d9:VRs w G μ (enc t1 xa++[.own (s+1) t.size,.own (s+2) u.size]) (vs.take t1.size++vs.drop t1.size):=VRs.append d7.fK d4
     rw[List.take_append_drop]at d9;exact⟨aK.gF d9 d2,by rw[d9.length,d1.length]⟩
    ·cases h
   ·cases h
  ·cases h
 ·cases h
theorem L8 {g:Tg}{b l'}(h:pI g.t b g.l=some l'):g=⟨b,l'⟩:=by
 obtain⟨a,l⟩:=g;unfold pI at h;grind
theorem FL(hW:eA n0 G μ H w){e t n l}(h:MR e t H n=some l):H[n]?=some (some ⟨aP (.rows t) l,e,false,false,some ⟨.rows t,l⟩⟩):=by
 unfold MR at h;split at h
 ·rename_i k hk;split at h
  ·rename_i g hg;split at h
   ·rename_i l' hc;obtain⟨hb,h⟩:=cC h;simp only[oA]at hb;simp only[oJ]at h;have hb3:=oE hb.1.1;have ht:=(hW.tags n k g (bB hk) hg).1;have hge:=L8 hc;rw[<- h,bB hk];obtain⟨k1,k2,k3,k4,k5⟩:=k;grind
   grind
  grind
 grind
theorem yP {t p x v}(h:ER t p=some x)(hv:VR w G μ p v):VR w G aZ (.iptr (enc t x)) v:=by
 unfold ER at h;split at h
 ·rename_i cs;obtain⟨b,off,h1,h2,h3⟩:=hv;obtain⟨vs,d1,d2⟩:=h3.values;exact⟨b,off,h1,h2,aK.gF (tZ t aZ cs x vs h d1) d2⟩
 grind
theorem BA:∀ ts {ps x vs},OD ts ps=some x->VRs w G μ ps vs->VRs w G aZ (LX ts x) vs
 | [],[],x,vs,h,hv=>by simp only[LX]; exact hv
 | [],_::_,x,vs,h,hv=>by cases h
 | _::_,[],x,vs,h,hv=>by cases h
 | t::r,p::ps,x,vs,h,hv=>by
  simp only[OD]at h;split at h
  ·rename_i y hy;split at h
   ·rename_i ys hys;simp only[oJ]at h;subst h;obtain⟨u,us,h1,h2,h3⟩:=hv;exact⟨u,us,h1,yP hy h2,BA r hys h3⟩
   grind
  grind
theorem DV {p x}(h:G3 p=some x):p=.lit (.slice none 0 0):=by
 unfold G3 at h;split at h
 ·rename_i o c;cases hb:(Nat.beq o 0&&Nat.beq c 0)with
  | false=>grind
  | true =>
   simp_all
 grind
theorem E5 {j p x}(h:L2 j p=some x):p=.mp j:=by
 unfold L2 at h;split at h
 ·rw[oE (cC h).1]
 grind
theorem FJ {g p x}(h:K4 g p=some x):p=.lit (.func (.func g) #[] #[]):=by
 unfold K4 at h;split at h
 ·replace h:=(cC h).1
  simp_all
 grind
theorem DT {g ts p x v}(h:G7 g ts p=some x)(hv:VR w G μ p v):VR w G aZ (.clo (.func g) [] (LX ts x)) v:=by
 unfold G7 at h;split at h
 ·have h1:=oE (cC h).1;have h2:=(cC h).2;subst h1;obtain⟨fs,cs,e1,e2,e3⟩:=hv;exact⟨fs,cs,e1,e2,BA ts h2 e3⟩
 grind
theorem EH {j sz p x}(h:G4 j sz p=some x):p=.win j x.1 x.2 sz:=by
 unfold G4 at h;split at h
 ·replace h:=cC h;obtain⟨hb,h⟩:=h;simp only[oA]at hb;have h1:=oE hb.1;have h2:=oE hb.2;grind
 grind
theorem HZ(hW:eA n0 G μ H w):∀ k {p n x v},PL k p H n=some x->VR w G μ p v->VR w G μ (KD k x n) v/\∀ i ,i<k.pos->FX H[n+i]? (PD k x n)[i]?
 | .int k,p,n,x,v,h,hv=>by
  have:=AA h;simp only[List.cons.injEq,and_true]at this;subst this;exact⟨hv,λi hi=>absurd hi (Nat.not_lt_zero _)⟩
 | .bool,p,n,x,v,h,hv=>by
  have:=yN h;simp only[List.cons.injEq,and_true]at this;subst this;exact⟨hv,λi hi=>absurd hi (Nat.not_lt_zero _)⟩
 | .str,p,n,x,v,h,hv=>by
  have:=zP h;simp only[List.cons.injEq,and_true]at this;subst this;exact⟨hv,λi hi=>absurd hi (Nat.not_lt_zero _)⟩
 | .list t,p,n,x,v,h,hv=>by
  have:=tZ (.list t) μ [p] x [v] h (by rw[VRs]; exact⟨v,[],rfl,hv,by rw[VRs]⟩);refine⟨?_,λi hi=>absurd hi (Nat.not_lt_zero _)⟩;simp only[enc]at this;obtain⟨y,ys,h1,h2,_⟩:=this;cases h1;exact h2.fK
 | .agg t,p,n,x,v,h,hv=>by
  refine⟨?_,λi hi=>absurd hi (Nat.not_lt_zero _)⟩;simp only[PL]at h;unfold MQ at h;split at h
  ·rename_i cs;rw[VR]at hv;obtain⟨vs,rfl,h2⟩:=hv;simp only[KD];rw[VR];exact⟨vs,rfl,(tZ t μ cs x vs.toList h h2).fK⟩
  ·cases h
 | .own e t,p,n,x,v,h,hv=>by
  obtain⟨rfl,h2⟩:=jT hW h;refine⟨hv,λi hi=>?_⟩;simp only[Kd.pos]at hi;have:i=0:=by omega
  subst this;simp only[Nat.add_zero,h2];exact .inl rfl
 | .box e t,p,n,x,v,h,hv=>by
  obtain⟨rfl,h2⟩:=EO h;refine⟨hv,λi hi=>?_⟩;simp only[Kd.pos]at hi;have:i=0:=by omega
  subst this;exact h2
 | .ptr t,p,n,x,v,h,hv=>⟨(yP h hv).fK,λi hi=>absurd hi (Nat.not_lt_zero _)⟩
 | .fn g,p,n,x,v,h,hv=>by
  have:=FJ h;subst this;exact⟨hv,λi hi=>absurd hi (Nat.not_lt_zero _)⟩
 | .mpk j,p,n,x,v,h,hv=>by
  have:=E5 h;subst this;exact⟨hv,λi hi=>absurd hi (Nat.not_lt_zero _)⟩
 | .nil0,p,n,x,v,h,hv=>by
  have:=DV h;subst this;exact⟨hv,λi hi=>absurd hi (Nat.not_lt_zero _)⟩
 | .val,p,n,x,v,h,hv=>by
  have:=ET (p:=p) (x:=x) h;subst this;exact⟨hv,λi hi=>absurd hi (Nat.not_lt_zero _)⟩
 | .nilI,p,n,x,v,h,hv=>by
  have:=CE (p:=p) (x:=x) h;subst this;exact⟨hv,λi hi=>absurd hi (Nat.not_lt_zero _)⟩
 | .clo g ts,p,n,x,v,h,hv=>⟨(DT h hv).fK,λi hi=>absurd hi (Nat.not_lt_zero _)⟩
 | .win j sz,p,n,x,v,h,hv=>by
  have:=EH h;subst this;exact⟨hv,λi hi=>absurd hi (Nat.not_lt_zero _)⟩
 | .bown e et t,p,n,x,v,h,hv=>by
  obtain⟨rfl,h2,h3⟩:=CC hW h;refine⟨hv,λi hi=>?_⟩;simp only[Kd.pos]at hi;rcases(show i=0\/i=1 by omega)with rfl|rfl
  ·simp only[Nat.add_zero,h2];exact .inl rfl
  ·simp only[h3];exact .inl rfl
 | .bque e et t,p,n,x,v,h,hv=>by
  obtain⟨rfl,h2,h3⟩:=CG hW h;refine⟨hv,λi hi=>?_⟩;simp only[Kd.pos]at hi;rcases(show i=0\/i=1 by omega)with rfl|rfl
  ·exact h2
  ·simp only[h3];exact .inl rfl
 | .bag e t1 et t t2,p,n,x,v,h,hv=>by
  obtain⟨rfl,h2,h3⟩:=EI hW h;refine⟨hv,λi hi=>?_⟩;simp only[Kd.pos]at hi;rcases(show i=0\/i=1 by omega)with rfl|rfl
  ·exact h2
  ·simp only[h3];exact .inl rfl
 | .bag2 e t1 et t eu u,p,n,x,v,h,hv=>by
  obtain⟨rfl,h2,h3,h4⟩:=CH hW h;refine⟨hv,λi hi=>?_⟩;simp only[Kd.pos]at hi;rcases(show i=0\/i=1\/i=2 by omega)with rfl|rfl|rfl
  ·exact h2
  ·simp only[h3];exact .inl rfl
  ·simp only[h4];exact .inl rfl
 | .hnd sz,p,n,x,v,h,hv=>by
  refine⟨?_,λi hi=>absurd hi (Nat.not_lt_zero _)⟩;have:=CO (μ:=μ) (vs:=[v]) h (by rw[VRs]; exact⟨v,[],rfl,hv,by rw[VRs]⟩);rw[VRs]at this;obtain⟨y,ys,h1,h2,_⟩:=this;cases h1;exact h2.fK
 | .ar e t,p,n,x,v,h,hv=>by
  have h2:=FL hW h;refine⟨by simp only[KD]; rw[VR]; trivial,λi hi=>?_⟩;simp only[Kd.pos]at hi;have:i=0:=by omega
  subst this;simp only[Nat.add_zero,h2];exact .inl rfl
theorem tK:∀ k x n,(PD k x n).length=k.pos
 | .int _,_,_|.bool,_,_|.str,_,_|.list _,_,_|.agg _,_,_|.ptr _,_,_|.fn _,_,_|.nil0,_,_|.val,_,_|.nilI,_,_|.clo _ _,_,_|.win _ _,_,_|.hnd _,_,_|.mpk _,_,_=>rfl
 | .ar _ _,_,_=>rfl
 | .own _ _,_,_=>rfl
 | .box _ _,_,_=>rfl
 | .bown _ _ _,_,_=>rfl
 | .bque _ _ _,_,_=>rfl
 | .bag _ _ _ _ _,_,_=>rfl
 | .bag2 _ _ _ _ _ _,_,_=>rfl
theorem yB:∀ sh x n,(CK sh x n).length=GM sh
 | [],_,_=>rfl
 | (_,k)::r,(x,xs),n=>by simp only[CK,oH,tK,yB r xs,GM]
theorem FZ sh x:(MX sh x).length=GM sh:=yB sh x 0
theorem BW(hW:eA n0 G μ H w)(hF:∀ t,VR w G μ (iL F t) (a.tmps.getD t undef)):∀ sh {n x},NC sh F H n=some x->(∀ t,VR w G μ (iL (JE sh x n) t) (a.tmps.getD t undef))/\∀ i ,i<GM sh->FX H[n+i]? (CK sh x n)[i]?
 | [],n,x,h=>⟨λt=>by simp only[JE,iL]; rw[VR]; trivial,λi hi=>absurd hi (Nat.not_lt_zero _)⟩
 | (t,k)::r,n,x,h=>by
  simp only[NC]at h;split at h
  ·rename_i y hy;split at h
   ·rename_i ys hys;simp only[oJ]at h;subst h;obtain⟨h1,h2⟩:=HZ hW k hy (hF t);obtain⟨h3,h4⟩:=BW hW hF r hys;refine⟨λs=>?_,λi hi=>?_⟩
    ·simp only[JE];rw[uD];grind
    ·simp only[CK];rcases oG i k.pos with hl|hl
     ·rw[List.getElem?_append_left (by rw[tK]; exact hl)];grind
     ·rw[List.getElem?_append_right (by rw[tK]; exact hl),tK];have:=h4 (i-k.pos) (by simp only[GM]at hi; omega);grind
   ·cases h
  ·cases h
theorem GB(hW:eA n0 G μ H w){e ty p q H1 v}(h:LM e ty H p=some (q,H1))(hv:VR w G μ p v) :
  ∃ μ',Ext n0 w G μ w G μ'/\eA n0 G μ' H1 w/\VR w G μ' q v:=by
 unfold LM at h;split at h
 ·rename_i r lo n sz;obtain⟨hb,hh⟩:(Nat.beq lo 0&&Nat.beq sz ty.size)=true/\(match sD e ty (.own r sz) H r with
   | some l=>some (PV.own H.length sz,(H.set r none)++[some (⟨aP ty (l.take n),e,true,false,some ⟨ty,l.take n⟩⟩:Blk)])
   | none=>none)=some (q,H1):=by
   grind
  rw[oA]at hb;have h0:=oE hb.1;have h1:=oE hb.2;subst h0; subst h1;split at hh
  ·rename_i l hl;obtain⟨rfl,rfl⟩:=hh;obtain⟨_,hr⟩:=jT hW hl;obtain⟨b,c,m,a1,a2,a3,a4,a5,a6,_,a7⟩:=hv;have ht:=(hW.tags r _ _ hr rfl).2;rw[ht]at a5;cases a5;have hlen:(l.take n).length=n:=by rw[List.length_take]; change 0+n<=l.length at a6; omega
   have hk:=J8 hW r;have hl':(H.set r none).length=H.length:=by simp
   have e0:=yO hW (some b) (some n);have e2:Ext n0 w G μ w G (upd μ (H.set r none).length (some b) (some n)):=by rw[hl']; exact e0
   refine⟨_,e0,?_,?_⟩
   ·have:=DF hk e2 ⟨aP ty (l.take n),e,true,false,some ⟨ty,l.take n⟩⟩ (λ_ _ _ _ _=>rfl) ?_ ?_ ?_ (CQ hk e2 (λt l h1 h2=>by cases h1) (λ_ _ _=>rfl) (λj b1 hj hf hh=>by cases hh; exact(hW.rows.sep j b hj).2.2.2 r _ hr rfl a1))
    ·grind
    ·rintro b' hb';cases hb';obtain⟨c1,h2,h3,h4⟩:=hW.blk r _ b hr a1;rw[a7]at h3;refine⟨c1,h2,?_,λh=>(by cases h),λh=>(by cases h),h4.2.2⟩;have h5:=aK.mono e2.toMono rfl _ _ h3;refine aK.mk λi p hp=>?_
     rw[<- vV]at hp;have hi:i<(aP ty l).length/\(aP ty l)[i]?=some p:=by grind
     exact h5.get hi.2
    ·grind
    ·intro s k' b' hs hf hb' hh;cases hh;obtain⟨hs1,hs2⟩:=sU hs;exact hs2 (hW.inj s r k' _ b hs1 hr hf rfl hb' a1)
   ·rw[VR,KG];refine⟨n,rN _ _ _ _,.inr ⟨b,c,rL _ _ _ _,by rw[a2,a7,Nat.zero_mul],a3,?_,rfl⟩⟩;grind
  ·cases hh
 ·cases h
theorem mY:∀ sh F H,I n0 wi Gi μi nt F H a w->I n0 wi Gi μi nt (lP sh F H).1 (lP sh F H).2 a w
 | [],F,H,hI=>hI
 | (t,k0)::r,F,H,hI=>by
  have skip:I n0 wi Gi μi nt (lP r F H).1 (lP r F H).2 a w:=mY r F H hI;unfold lP;split
  ·exact hI
  ·rename_i heq;cases heq;split
   ·rename_i s sz ht;split
    ·rename_i k hk;split
     ·rename_i g hg;obtain⟨G,μ,e,hW,hF⟩:=hI;have hv:=hF.slot t;rw[ht]at hv;cases hfz:k.frozen with
      | true =>
       refine mY r _ _ ⟨G,μ,e,hW,hF.named ?_⟩;exact(u7 hW hv hk hg (λb h=>h) (λb hb=>by
        obtain⟨_,_,_,_,h5,_⟩:=hW.blk s k b (bB hk) hb;exact h5 hfz)).fK
      | false =>
       obtain⟨e1,w1⟩:=vU hW (bB hk) hfz;refine mY r _ _ ⟨_,μ,e.trans e1,w1,(hF.mono e1.toMono).named ?_⟩;exact(u7 (G':=G.or λx=>μ.loc s=some x) hW hv hk hg (λb h=>.inl h) (λb hb=>.inr hb)).fK
     ·grind
    ·grind
   ·grind
  ·rename_i heq;cases heq;split
   ·rename_i s sz2 ht;cases hsz:Nat.beq sz2 _ with
    | true =>
     have hsz:=oE hsz;subst hsz;split
     ·rename_i q H1 hA;obtain⟨G,μ,e,hW,hF⟩:=hI;have hv:=hF.slot t;rw[ht]at hv;obtain⟨G',μ',e1,w1,v1⟩:=DN hW hA hv;exact mY r _ _ ⟨G',μ',e.trans e1,w1,(hF.mono e1.toMono).named v1.fK⟩
     ·grind
    | false=>exact skip
   ·grind
  ·rename_i heq;cases heq;split
   ·rename_i q H1 hA;obtain⟨G,μ,e,hW,hF⟩:=hI;have hv:=hF.slot t;obtain⟨μ',e1,w1,v1⟩:=GB hW hA hv;exact mY r _ _ ⟨G,μ',e.trans e1,w1,(hF.mono e1.toMono).named v1⟩
   ·grind
  ·grind
theorem aAR {sh x}(h:aH7 sh F H=some x)(hfl:∀ r,μi.loc r=none/\μi.len r=none)(hI:I n0 wi Gi μi nt F H a w):I n0 wi Gi μi nt (JE sh x 0) (MX sh x) a w:=by
 unfold aH7 at h;replace hI:=mY sh F H hI;split at h;rename_i F1 H1 hd;rw[hd]at hI;split at h
 ·rename_i F' H' ht;obtain⟨hb,h⟩:=cC h;obtain⟨⟨G,μ,e,hW,hF⟩,_⟩:=aUG ht (λr _=>hfl r) hI;obtain⟨h1,h2⟩:=BW hW hF.slot sh h;have hH:∀ i:Nat,FX H'[i]? (MX sh x)[i]?:=by
   intro i;rcases oG i (GM sh)with hl|hl
   ·have:=h2 i hl;rwa[Nat.zero_add]at this
   ·have e1:=oE hb;exact .inl (by rw[List.getElem?_eq_none (by omega),List.getElem?_eq_none (by rw[FZ]; omega)])
  exact⟨G,μ,e,hW.N4 hH,hF.size,h1,hF.defers⟩
 grind
end
end Go.PM
