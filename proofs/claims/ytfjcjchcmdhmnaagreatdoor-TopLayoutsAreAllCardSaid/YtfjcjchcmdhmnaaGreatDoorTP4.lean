/- Texts of one proof, joined (4). -/
import Derived.Scope
import Derived.ProofKit
import Derived.Lib.SmallJoins
import Derived.Test.YtfjcjchcmdhmnaaGreatDoorRows
import Derived.Test.YtfjcjchcmdhmnaaGreatDoorTP3
set_option linter.unusedSimpArgs false
set_option linter.unusedVariables false
noncomputable section
namespace Go.PM
open Go Go.RowKit
def MP(m:List Nat) (es:List Edge):Nat:=es.foldl (λs e=>bif Region.binds .any e then s ||| (2^e.on ||| m.getD e.on 0) else s) 0
def AG(m:List Nat):Nat->List Oper->Bool
 | _,[]=>true
 | j,o::l=>Nat.beq (m.getD j 0) (MP m o.after.toList)&&o.after.toList.all (λe=>!Region.binds .any e||Nat.blt e.on j)&&AG m (j+1) l
def LV(ops:Array Oper)(m:List Nat)(j:Nat)(oj:Oper):Nat->List Oper->Bool
 | _,[]=>true
 | i,oi::l=>bif Nat.blt i j then ((m.getD j 0).testBit i||oi.apart ops oj)&&LV ops m j oj (i+1) l else true
def LW(ops:Array Oper)(m:List Nat):Nat->List Oper->Bool
 | _,[]=>true
 | j,oj::l=>LV ops m j oj 0 ops.toList&&LW ops m (j+1) l
def fP(ops:Array Oper):List Nat:=(Region.before ops).toList
def zU(ops:Array Oper):Bool:=AG (fP ops) 0 ops.toList&&LW ops (fP ops) 0 ops.toList
def aC6(F:Frm) (o:Oper):Option Nat:=match o.op with
 | .load _ a=>match ev F a with
  | .hptr r _=>some r
  | _=>none
 | .store _ a _=>match ev F a with
  | .hptr r _=>some r
  | _=>none
 | _=>none
def CG:Option Nat->Option Nat->Bool
 | some a,some b=>!Nat.beq a b
 | _,_=>false
abbrev aK4:=List (Nat×Nat×Option Nat)
def aTP:List Nat:=[34]
def OU:Op->Bool
 | .call c=>match c.callee with
  | .value (.func g)=>HQ aTP g
  | _=>false
 | _=>false
def isVar(o:Oper):Bool:=match o.guard,o.op,o.dst with
 | none,.alloc _,some _=>true
 | _,_,_=>false
def P5(o:Oper):Bool:=match o.guard,o.dst with
 | none,some _=>OU o.op
 | _,_=>false
def IX(o:Oper):Bool:=isVar o||P5 o
def aN4:List Oper->Nat
 | []=>0
 | o::r=>bif P5 o then aN4 r+1 else aN4 r
def FV(X:Heap)(q:Nat):Bool:=match X[q]? with|some none=>true|_=>false
theorem FK {X q}:FV X q=true↔X[q]?=some none:=by
 unfold FV;grind
def T1:Option Tg->Bool
 | some g=>g.t.plain
 | none=>false
def XQ(q:Nat) (v:PV) (X H:Heap):Option (PV×Heap×Nat):=match X with
 | []=>bif bU v&&cR v then some (v,H,0) else none
 | [some k]=>match v with
  | .own r sz=>bif Nat.beq r 0&&Nat.blt q H.length&&FV H q&&T1 k.tag then some (.own q sz,H.set q (some k),2) else none
  | _=>none
 | _=>none
def ZP:List Oper->Nat
 | []=>0
 | o::r=>bif IX o then ZP r+1 else ZP r
def wY(m:Option Nat)(o:Oper)(k:Nat):Option Nat:=match m with
 | none=>none
 | some b=>bif IX o then some (b+k) else none
def stepT(r:Option Nat)(P:Program)(cl:Callee)(l:List Oper)(o:Oper)(F:Frm)(H:Heap):Option (PV×Heap×Nat):=match r with
 | none=>mH P cl l o F H
 | some q=>match o.op with
  | .alloc t=>match pL P t with
   | some z=>bif Nat.blt q H.length then some (.hptr q 0,H.set q (some ⟨lits z.cells,t,false,false,none⟩),2) else none
   | none=>none
  | .call _=>bif bU.noRefs (o.op.operands.toList.map (ev F))&&cR.noRows (o.op.operands.toList.map (ev F)) then match mH P cl l o F []with
    | some (v,X,_)=>XQ q v X H
    | none=>none
   else none
  | _=>none
def N5(r:Option Nat)(F:Frm)(o:Oper):Option Nat:=match r with
 | none=>aC6 F o
 | some q=>some q
def inP(p:Nat->Bool):PV->Bool
 | .hptr r _=>p r
 | .hs r _ _ _ _=>p r
 | .own r _=>p r
 | .op r _ _ _=>p r
 | .win r _ _ _=>p r
 | .qs r _=>p r
 | .agg cs|.tuple cs=>inPs p cs
 | .clo _ f c=>inPs p f&&inPs p c
 | _=>true
where inPs (p:Nat->Bool):List PV->Bool
 | []=>true
 | q::qs=>inP p q&&inPs p qs
def aHF(b m r:Nat):Bool:=Nat.blt r b||(Nat.ble b r&&Nat.testBit m (r-b))
def aII(p:Nat->Bool):Option Blk->Bool
 | some k=>k.tag.isSome||inP.inPs p k.cells
 | none=>true
def TJ(p:Nat->Bool):Heap->Bool
 | []=>true
 | x::r=>aII p x&&TJ p r
def aWA(p:Nat->Bool)(q:Option Nat)(c:Nat)(H:Heap):Bool:=bif Nat.blt 1 c then (match q with
 | some q=>aII p (dY H q)
 | none=>TJ p H) else true
def okT(m:Option Nat)(mk k:Nat)(q:Option Nat)(c:Nat)(v:PV)(H:Heap):Bool:=match m with
 | none=>true
 | some b=>inP (aHF b (mk ||| 2^k)) v&&aWA (aHF b (mk ||| 2^k)) q c H
def WW(b:Nat):Frm->Bool
 | []=>true
 | (_,p)::r=>below b p&&WW b r
def aHZ:List Oper->Bool
 | []=>false
 | o::r=>(match o.op with|.load ..=>true|_=>false)||aHZ r
def aO6(l:List Oper):List Oper->Bool
 | []=>true
 | o::r=>(match o.op with
  | .makeSlice ..=>aLS l o.dst
  | .box ..|.buildSlice ..=>false
  | .call c=>(match c.callee with|.builtin .append|.builtin .copy|.builtin .clear=>false|_=>true)
  | _=>true)&&aO6 l r
def aUX(l:List Oper):Bool:=Nat.blt 0 (ZP l)&&aHZ l&&aO6 l l
def KT(ops:Array Oper)(H:Heap):Option Nat:=bif Nat.blt 0 (aN4 ops.toList)||Nat.blt 1 (ZP ops.toList)||aUX ops.toList then some H.length else none
def aPH(m:Option Nat)(n:Nat)(H:Heap):Heap:=match m with
 | none=>H
 | some _=>H++List.replicate n none
def aBM(m:Option Nat)(F:Frm)(H:Heap):Bool:=match m with
 | none=>true
 | some b=>WW b F&&B3 b H
def JL(P:Program)(cl:Callee)(nt:Nat)(m:Option Nat)(ms:List Nat)(l:List Oper)(F:Frm)(H:Heap):Nat->Option (Frm×Heap×aK4)
 | 0=>some (F,H,[])
 | k+1=>match JL P cl nt m ms l F H k with
  | some (F,H,hl)=>match l[k]? with
   | some o=>match stepT (wY m o k) P cl l o F H with
    | some (v,H',c)=>bif okT m (ms.getD k 0) k (N5 (wY m o k) F o) c v H' then (fPV v λv=>match CN nt F o.dst v with
     | some F'=>bif Nat.beq c 0 then some (F',H',hl) else MJ H' λH'=>some (F',H',(k,c,N5 (wY m o k) F o)::hl)
     | none=>none) else none
    | none=>none
   | none=>none
  | none=>none
def aIQ(m:List Nat)(j:Nat)(d:Nat)(b:Option Nat):aK4->Bool
 | []=>true
 | (i,c,b')::r=>(!(Nat.blt 1 c||Nat.blt 1 d)||CG b b'||(m.getD j 0).testBit i)&&aIQ m j d b r
def KV(m:List Nat):aK4->Bool
 | []=>true
 | (j,d,b)::r=>aIQ m j d b r&&KV m r
def I9(P:Program)(cl:Callee)(nt:Nat)(ops:Array Oper)(F:Frm)(H:Heap):Option (Frm×Heap) :=
 bif zU ops&&aBM (KT ops H) F H then match JL P cl nt (KT ops H) (fP ops) ops.toList F (aPH (KT ops H) ops.toList.length H) ops.toList.length with
  | some (F',H',hl)=>bif KV (fP ops) hl then some (F',H') else none
  | none=>none else none
theorem yY {m:List Nat}{b}:∀ (es:List Edge) s,(es.foldl (λs e=>bif Region.binds .any e then s ||| (2^e.on ||| m.getD e.on 0) else s) s).testBit b=true ->
  s.testBit b=true\/∃ e∈es,Region.binds .any e=true/\(b=e.on\/(m.getD e.on 0).testBit b=true)
 | [],s,h=>.inl h
 | e::es,s,h=>by
  rcases yY es _ h with h1|⟨e',h1,h2⟩
  ·grind
  grind
theorem PH {m}:∀ {l j i o},AG m j l=true->l[i]?=some o->m.getD (j+i) 0=MP m o.after.toList/\∀ e∈o.after,Region.binds .any e=true->e.on<j+i
 | [],j,i,o,_,ho=>by grind
 | p::l,j,i,o,h,ho=>by
  simp only[AG,oA,List.all_eq_true]at h;obtain⟨⟨h1,h2⟩,h3⟩:=h;cases i with
  | zero =>
   simp only[List.getElem?_cons_zero,oJ]at ho;subst ho;refine⟨oE h1,λe he hb=>?_⟩;have:=h2 e (Array.mem_toList_iff.2 he)
   simp_all
  | succ i =>
   have:=PH h3 (by simpa using ho);grind
theorem TW {ops m j oj}:∀ {l k i oi},LV ops m j oj k l=true->l[i]?=some oi->k+i<j->(m.getD j 0).testBit (k+i)=true\/oi.apart ops oj=true
 | [],k,i,oi,_,ho,_=>by simp at ho
 | p::l,k,i,oi,h,ho,hlt=>by
  simp only[LV]at h;have hk:Nat.blt k j=true:=Nat.ble_eq_true_of_le (by omega);rw[hk]at h;simp only[oC,oA]at h;cases i with
  | zero =>
   grind
  | succ i =>
   have:=TW (i:=i) h.2 (by simpa using ho) (by omega);grind
theorem QI {ops m}:∀ {l k j oj},LW ops m k l=true->l[j]?=some oj->LV ops m (k+j) oj 0 ops.toList=true
 | [],k,j,oj,_,ho=>by grind
 | p::l,k,j,oj,h,ho=>by
  simp only[LW,oA]at h;cases j with
  | zero =>
   grind
  | succ j =>
   have:=QI h.2 (by simpa using ho);grind
section
variable {P:Program} {cl:Callee} {n0:Nat->Prop} {nt:Nat} {wi:World} {Gi:Gd} {μi:Mp} {ops:Array Oper} {F:Frm} {H:Heap}
structure Trace (P:Program) (cl:Callee) (nt:Nat) (ops:Array Oper) (F:Frm) (H:Heap) (F':Frm) (H':Heap) where
 Fs:Nat->Frm
 Hs:Nat->Heap
 vs:Nat->PV
 cs:Nat->Nat
 f0:Fs 0=F
 h0:Hs 0=H
 fn:Fs ops.size=F'
 hn:Hs ops.size=H'
 md:Option Nat
 step:∀ i o,ops[i]?=some o->stepT (wY md o i) P cl ops.toList o (Fs i) (Hs i)=some (vs i,Hs (i+1),cs i)/\CN nt (Fs i) o.dst (vs i)=some (Fs (i+1))/\okT md ((fP ops).getD i 0) i (N5 (wY md o i) (Fs i) o) (cs i) (vs i) (Hs (i+1))=true
 bs:Nat->Option Nat
 hbs:∀ i o,ops[i]?=some o->bs i=N5 (wY md o i) (Fs i) o
 hits:∀ i j,i<j->j<ops.size->cs i≠0->cs j≠0->1<cs i\/1<cs j->CG (bs j) (bs i)=true\/((fP ops).getD j 0).testBit i=true
 loc:∀ i o q,ops[i]?=some o->bs i=some q->cs i≠0->∀ H2:Heap,H2[q]?=(Hs i)[q]?->∃ H3 c,stepT (wY md o i) P cl ops.toList o (Fs i) H2=some (vs i,H3,c)/\H3=if 1<cs i then H2.set q (((Hs (i+1))[q]?).getD none) else H2
theorem aDO {md ms l}:∀ {n k r},JL P cl nt md ms l F H n=some r->k<=n->∃ s,JL P cl nt md ms l F H k=some s
 | 0,k,r,h,hk=>by grind
 | n+1,k,r,h,hk=>by
  rcases oG k (n+1)with hl|hl
  ·simp only[JL]at h;split at h
   ·rename_i s hs;exact aDO hs (by omega)
   grind
  grind
theorem XE {m j d b}:∀ {hl i c b'},aIQ m j d b hl=true->(i,c,b')∈hl->1<c\/1<d->CG b b'=true\/(m.getD j 0).testBit i=true
 | [],i,c,_,_,h,_=>by grind
 | (i',c',b0)::r,i,c,b',h,hm,hc=>by
  simp only[aIQ,oA,Bool.or_eq_true,Bool.not_eq_true',Bool.or_eq_false_iff]at h;rcases List.mem_cons.1 hm with he|hm
  ·rcases h.1 with (⟨h1,h2⟩|h1)|h1
   ·rcases hc with hc|hc
    ·have:Nat.blt 1 _=true:=Nat.ble_eq_true_of_le hc;grind
    ·have:Nat.blt 1 d=true:=Nat.ble_eq_true_of_le hc;grind
   ·grind
   grind
  ·exact XE h.2 hm hc
theorem aF9 {H H2 q}(h:H2[q]?=H[q]?):dY H2 q=dY H q:=by unfold dY; grind
theorem aGJ {l:List Oper} {o:Oper} {F:Frm} {H H':Heap} {v:PV} {c q:Nat} (h:mH P cl l o F H=some (v,H',c)) (hb:aC6 F o=some q) (hc:c≠0) (H2:Heap) (hq:H2[q]?=H[q]?) :
  ∃ H3 c',mH P cl l o F H2=some (v,H3,c')/\H3=if 1<c then H2.set q ((H'[q]?).getD none) else H2:=by
 have hgq:=aF9 hq;unfold aC6 at hb;split at hb
 ·rename_i t a ho;split at hb
  ·rename_i r off hev;obtain rfl:=oB hb;have hm:mkData P F l o=none:=by simp only[mkData,ho]
   have hz:∀ H,opz P cl l F H o=match GA P H t (.hptr r off)with|some (v,c)=>some (v,H,c)|none=>none:=λH=>by simp only[opz,ho,opx,typed,hev,WB,oD,opu]; rfl
   unfold mH at h ⊢;rw[hm]at h ⊢;split at h
   ·simp only[hz]at h ⊢;have hx:GA P H2 t (.hptr r off)=GA P H t (.hptr r off):=by simp only[GA,hgq]
    rw[hx];cases hl:GA P H t (.hptr r off)with
    | none=>rw[hl]at h; cases h
    | some p =>
     obtain⟨v1,c1⟩:=p;rw[hl]at h;simp only[oJ,oP]at h;obtain⟨rfl,rfl,rfl⟩:=h;have h1:c1=1:=by
      simp only[GA]at hl;grind
     grind
   ·grind
   ·cases h
  ·cases hb
 ·rename_i t a x ho;split at hb
  ·rename_i r off hev;obtain rfl:=oB hb;have hm:mkData P F l o=none:=by simp only[mkData,ho]
   have hz:∀ H,opz P cl l F H o=match PI P H t (.hptr r off) (ev F x)with|some H'=>some (.lit undef,H',2)|none=>none:=λH=>by simp only[opz,ho,opx,typed,hev,WB,oD,opu]; rfl
   unfold mH at h ⊢;rw[hm]at h ⊢;split at h
   ·simp only[hz]at h ⊢;cases hl:PI P H t (.hptr r off) (ev F x)with
    | none=>rw[hl]at h; cases h
    | some H1 =>
     rw[hl]at h;obtain⟨rfl,rfl,rfl⟩:=h;unfold PI at hl ⊢;cases hcs:kP (ev F x)with
     | none=>rw[hcs]at hl; cases hl
     | some new =>
      cases hsz:jX P t with
      | none=>rw[hcs,hsz]at hl; cases hl
      | some n =>
       rw[hcs,hsz]at hl;simp only at hl ⊢;obtain⟨hb1,hl⟩:=aG hl;rw[hb1,oC];unfold KH at hl ⊢;rw[hgq];cases hk:dY H r with
       | none=>rw[hk]at hl; cases hl
       | some k =>
        rw[hk]at hl;simp only at hl ⊢;obtain⟨hb2,hl⟩:=aG hl;rw[hb2,oC];obtain rfl:=oB hl;refine⟨_,_,rfl,?_⟩;have hlt:r<H.length:=by
         unfold PM.dY at hk;split at hk
         ·rename_i k' hk'; exact(oO.1 hk').1
         ·cases hk
        rw[List.getElem?_set_self hlt]; rfl
   ·simp only[oJ,oP]at h;exact absurd h.2.2.symm hc
   ·cases h
  ·cases hb
 ·cases hb
theorem AQ {q v X H v' H' c}(h:XQ q v X H=some (v',H',c)):(∃ sz k,v=.own 0 sz/\X=[some k]/\v'=.own q sz/\H'=H.set q (some k)/\c=2/\q<H.length/\H[q]?=some none/\T1 k.tag=true) \/
  (X=[]/\(bU v&&cR v)=true/\v'=v/\H'=H/\c=0):=by
 unfold XQ at h;split at h
 ·grind
 ·rename_i k;split at h
  ·rename_i r sz;obtain⟨hb,h⟩:=aG h;simp only[oA]at hb;obtain⟨⟨⟨h1,h2⟩,h3⟩,h4⟩:=hb;have h1:=oE h1;obtain⟨rfl,rfl,rfl⟩:=h;exact .inl ⟨sz,k,by grind,rfl,rfl,rfl,rfl,cF h2,FK.1 h3,h4⟩
  grind
 grind
theorem aJ7 {r l o F H H' v c q}(h:stepT r P cl l o F H=some (v,H',c))(hb:N5 r F o=some q)(hc:c≠0) H2 (hq:H2[q]?=H[q]?) :
  ∃ H3 c',stepT r P cl l o F H2=some (v,H3,c')/\H3=if 1<c then H2.set q ((H'[q]?).getD none) else H2:=by
 cases r with
 | none=>exact aGJ h hb hc H2 hq
 | some q' =>
  obtain rfl:=oB (show some q'=some q from hb);simp only[stepT]at h ⊢;split at h
  ·rename_i t ho;cases hz:pL P t with
   | none=>rw[hz]at h; cases h
   | some z =>
    rw[hz]at h;simp only at h ⊢;obtain⟨hlt,h⟩:=aG h;obtain⟨rfl,rfl,rfl⟩:=h;have hlt:=cF hlt;have hlt2:q'<H2.length:=by grind
    rw[if_pos (by decide),cE,oT hlt2,oC,List.getElem?_set_self hlt];grind
  ·obtain⟨hnr,h⟩:=aG h;rw[hnr,oC];split at h
   ·rename_i v1 X c1 hs;rcases AQ h with ⟨sz,k,rfl,rfl,rfl,rfl,rfl,h1,h2,h3⟩|⟨_,_,_,_,h0⟩
    case inr=>exact absurd h0 hc
    have h4:q'<H2.length:=by grind
    rw[if_pos (by decide),List.getElem?_set_self h1];refine⟨_,2,?_,rfl⟩;simp only[XQ,Nat.beq_refl,cE,oT h4,FK.2 (hq.trans h2),h3,Bool.and_self,oC,Option.getD_some]
   ·cases h
  ·cases h
theorem aNP(hcl:bN P cl){md F' H' hl}(h:JL P cl nt md (fP ops) ops.toList F H ops.toList.length=some (F',H',hl))(hh:KV (fP ops) hl=true):∃ T:Trace P cl nt ops F H F' H',T.md=md:=by
 have hlen:ops.toList.length=ops.size:=by simp
 let st:Nat->Frm×Heap×aK4:=λk=>(JL P cl nt md (fP ops) ops.toList F H k).getD ([],[],[])
 have hst:∀ k,k<=ops.size->JL P cl nt md (fP ops) ops.toList F H k=some (st k):=λk hk=>by
  obtain⟨s,hs⟩:=aDO h (k:=k) (by omega);grind
 let op:Nat->PV×Heap×Nat:=λi=>match ops[i]? with|some o=>(stepT (wY md o i) P cl ops.toList o (st i).1 (st i).2.1).getD (.junk,[],0)|none=>(.junk,[],0)
 have hop:∀ i o,ops[i]?=some o->stepT (wY md o i) P cl ops.toList o (st i).1 (st i).2.1=some (op i)/\(op i).2.1=(st (i+1)).2.1/\CN nt (st i).1 o.dst (op i).1=some (st (i+1)).1/\(st (i+1)).2.2=(bif Nat.beq (op i).2.2 0 then (st i).2.2 else (i,(op i).2.2,N5 (wY md o i) (st i).1 o)::(st i).2.2)/\okT md ((fP ops).getD i 0) i (N5 (wY md o i) (st i).1 o) (op i).2.2 (op i).1 (op i).2.1=true:=by
  intro i o ho;have hi:i<ops.size:=(Array.getElem?_eq_some_iff.1 ho).1;have h1:=hst (i+1) (by omega);simp only[JL,hst i (by omega)]at h1;have ho':ops.toList[i]?=some o:=by simpa using ho
  rw[ho']at h1;simp only at h1;split at h1
  ·rename_i v H1 c hs;have he:op i=(v,H1,c):=by simp only[op,ho,hs,Option.getD_some]
   obtain⟨hok,h1⟩:=aG h1;rw[HR]at h1;split at h1
   ·rename_i F1 hp;rw[sG]at h1;grind
   ·cases h1
  ·cases h1
 let bk:Nat->Option Nat:=λi=>match ops[i]? with|some o=>N5 (wY md o i) (st i).1 o|none=>none
 have hmem:∀ k,k<=ops.size->∀ i,i<k->(op i).2.2≠0->(i,(op i).2.2,bk i)∈(st k).2.2:=by
  intro k
  induction k with
  | zero=>intro _ i hi; omega
  | succ k ih =>
   intro hk i hi hc;obtain⟨o,ho⟩:∃ o,ops[k]?=some o:=⟨ops[k],Array.getElem?_eq_getElem (by omega)⟩;rw[(hop k o ho).2.2.2.1];rcases oG i k with hl|hl
   ·have:=ih (by omega) i hl hc;cases Nat.beq (op k).2.2 0 with
    | true=>exact this
    | false=>exact List.mem_cons_of_mem _ this
   ·have:i=k:=by omega
    subst this;have:Nat.beq (op i).2.2 0=false:=JC hc;rw[this];have hbk:bk i=N5 (wY md o i) (st i).1 o:=by simp only[bk,ho]
    rw[hbk];exact List.mem_cons_self
 have hlast:st ops.size=(F',H',hl):=by
  have:=hst ops.size (oM _);rw[<- hlen,h]at this;simpa using this.symm
 have hhits:∀ k,k<=ops.size->KV (fP ops) (st k).2.2=true:=by
  intro k hk;obtain⟨d,rfl⟩:∃ d,k=ops.size-d:=⟨ops.size-k,by omega⟩;clear hk
  induction d with
  | zero=>rw[Nat.sub_zero,hlast]; exact hh
  | succ d ih =>
   rcases Nat.eq_zero_or_pos (ops.size-d)with h0|h0
   ·have:ops.size-(d+1)=ops.size-d:=by omega
    rw[this]; exact ih
   ·have e:ops.size-d=(ops.size-(d+1))+1:=by omega
    obtain⟨o,ho⟩:∃ o,ops[ops.size-(d+1)]?=some o:=⟨_,Array.getElem?_eq_getElem (by omega)⟩;have h4:=(hop _ o ho).2.2.2.1;rw[<- e]at h4;rw[h4]at ih;cases hb:Nat.beq (op (ops.size-(d+1))).2.2 0 with
    | true=>rw[hb]at ih; exact ih
    | false =>
     rw[hb]at ih;simp only[oD,KV,oA]at ih;exact ih.2
 refine⟨⟨λi=>(st i).1,λi=>(st i).2.1,λi=>(op i).1,λi=>(op i).2.2,?_,?_,by simp only[hlast],by simp only[hlast],md,?_,bk,?_,?_,?_⟩,rfl⟩
 ·have h0:=hst 0 (Nat.zero_le _);simp only[JL,oJ]at h0;rw[<- h0]
 ·have h0:=hst 0 (Nat.zero_le _);simp only[JL,oJ]at h0;rw[<- h0]
 ·intro i o ho;obtain⟨h1,h2,h3,_,h5⟩:=hop i o ho;exact⟨by rw[h1,<- h2],h3,by rw[<- h2]; exact h5⟩
 ·intro i o ho;simp only[bk,ho]
 ·intro i j hij hj hi hcj hc;obtain⟨o,ho⟩:∃ o,ops[j]?=some o:=⟨ops[j],Array.getElem?_eq_getElem hj⟩;have h1:=hhits (j+1) (by omega);rw[(hop j o ho).2.2.2.1,JC hcj]at h1;simp only[oD,KV,oA]at h1;have hbk:bk j=N5 (wY md o j) (st j).1 o:=by simp only[bk,ho]
  rw[hbk];exact XE h1.1 (hmem j (by omega) i hij hi) hc
 ·intro i o q ho hq hc H2 h2;obtain⟨h1,h3,_,_,_⟩:=hop i o ho;have hbk:bk i=N5 (wY md o i) (st i).1 o:=by simp only[bk,ho]
  have h4:stepT (wY md o i) P cl ops.toList o (st i).1 (st i).2.1=some ((op i).1,(st (i+1)).2.1,(op i).2.2):=by rw[h1,<- h3]
  exact aJ7 h4 (hbk ▸ hq) hc H2 h2
section
variable {F':Frm} {H':Heap}
def BS(ops:Array Oper)(i:Nat):Option Tmp:=(ops[i]?).bind (·.dst)
def kM(T:Trace P cl nt ops F H F' H')(S:Nat->Bool)(t:Nat):Nat->PV
 | 0=>bB F t
 | k+1=>if S k=true/\BS ops k=some t then T.vs k else kM T S t k
def D2(T:Trace P cl nt ops F H F' H')(k:Nat)(H2:Heap):Heap:=match T.bs k with
 | some q=>H2.set q (((T.Hs (k+1))[q]?).getD none)
 | none=>T.Hs (k+1)
def cL(T:Trace P cl nt ops F H F' H')(S:Nat->Bool):Nat->Heap
 | 0=>H
 | k+1=>if S k=true/\1<T.cs k then D2 T k (cL T S k) else cL T S k
variable (T:Trace P cl nt ops F H F' H')
theorem aEF {nt F F' d v}(h:CN nt F d v=some F') t:bB F' t=if d=some t then v else bB F t:=by
 cases d with
 | none=>simp only[CN,oJ]at h; grind
 | some u =>
  simp only[CN]at h;cases hb:Nat.blt u nt with
  | false=>grind
  | true =>
   rw[hb]at h;simp only[oC,oJ]at h;subst h;rw[cS];grind
theorem LB t:∀ k,k<=ops.size->kM T (λ_=>true) t k=bB (T.Fs k) t
 | 0,_=>by rw[kM,T.f0]
 | k+1,hk=>by
  obtain⟨o,ho⟩:∃ o,ops[k]?=some o:=⟨ops[k],Array.getElem?_eq_getElem (by omega)⟩;rw[kM,LB t k (by omega),aEF (T.step k o ho).2.1 t];simp only[BS,ho,Option.bind_some,true_and]
theorem zC {S S'}{t:Nat}:∀ {k},(∀ j,j<k->BS ops j=some t->S j=S' j)->kM T S t k=kM T S' t k
 | 0,_=>rfl
 | k+1,h=>by
  rw[kM,kM,zC λj hj=>h j (by omega)];grind
theorem CC {S}{t k:Nat}:∀ {n},k<=n->(∀ j,k<=j->j<n->BS ops j=some t->S j=false)->kM T S t n=kM T S t k
 | 0,hk,_=>by grind
 | n+1,hk,h=>by
  rcases oG k (n+1)with hl|hl
  ·rw[kM,CC (by omega) λj h1 h2=>h j h1 (by omega),if_neg];grind
  grind
theorem aE0(hcl:bN P cl){l o F H H' v c}(h:mH P cl l o F H=some (v,H',c)):(c<=1->H'=H)/\(c=0->∀ H2,mH P cl l o F H2=some (v,H2,0)):=by
 unfold mH at h ⊢;split at h
 ·split at h
  ·obtain⟨h1,h2⟩:=aRQ hcl h;grind
  ·grind
  grind
 ·grind
 grind
theorem OC(hcl:bN P cl){r l o F H H' v c}(h:stepT r P cl l o F H=some (v,H',c)):(c<=1->H'=H)/\(c=0->∀ H2,stepT r P cl l o F H2=some (v,H2,0)):=by
 cases r with
 | none=>exact aE0 hcl h
 | some q =>
  simp only[stepT]at h;split at h
  ·grind
  ·rename_i cc hcc;obtain⟨hnr,h⟩:=aG h;split at h
   ·rename_i v1 X c1 hs;rcases AQ h with ⟨_,_,_,_,_,_,rfl,_⟩|⟨rfl,h1,rfl,rfl,rfl⟩
    ·simp
    ·refine⟨λ_=>rfl,λ_ H2=>?_⟩;simp only[stepT,hcc];rw[<- hcc,hnr,oC,hs];simp only[XQ,h1,oC]
   grind
  grind
theorem Trace.aP2 {k q}(hk:k<ops.size)(hq:T.bs k=some q)(hc:T.cs k≠0):T.Hs (k+1)=if 1<T.cs k then (T.Hs k).set q (((T.Hs (k+1))[q]?).getD none) else T.Hs k:=by
 obtain⟨o,ho⟩:∃ o,ops[k]?=some o:=⟨ops[k],Array.getElem?_eq_getElem hk⟩;obtain⟨H3,c,h1,h2⟩:=T.loc k o q ho hq hc (T.Hs k) rfl;rw[(T.step k o ho).1]at h1;grind
theorem EU(hcl:bN P cl):∀ k,k<=ops.size->cL T (λ_=>true) k=T.Hs k
 | 0,_=>by rw[cL,T.h0]
 | k+1,hk=>by
  obtain⟨o,ho⟩:∃ o,ops[k]?=some o:=⟨ops[k],Array.getElem?_eq_getElem (by omega)⟩;rw[cL,EU hcl k (by omega)]
  by_cases hc:1<T.cs k
  ·rw[if_pos ⟨rfl,hc⟩];unfold D2;cases hq:T.bs k with
   | none=>rfl
   | some q =>
    have:=T.aP2 (by omega) hq (by omega);grind
  ·rw[if_neg (λh=>hc h.2)];exact((OC hcl (T.step k o ho).1).1 (by omega)).symm
theorem rK {S S'}:∀ {k},(∀ j,j<k->1<T.cs j->S j=S' j)->cL T S k=cL T S' k
 | 0,_=>rfl
 | k+1,h=>by
  rw[cL,cL,rK λj hj=>h j (by omega)];grind
theorem B4 {S k}:∀ {n},k<=n->(∀ j,k<=j->j<n->1<T.cs j->S j=false)->cL T S n=cL T S k
 | 0,hk,_=>by grind
 | n+1,hk,h=>by
  rcases oG k (n+1)with hl|hl
  ·rw[cL,B4 (by omega) λj h1 h2=>h j h1 (by omega),if_neg];grind
  grind
theorem WQ {q:Nat} {S S':Nat->Bool}:∀ {n:Nat},(∀ j,j<n->1<T.cs j->T.bs j=none\/T.bs j=some q->S j=S' j)->(cL T S n).length=(cL T S' n).length/\(cL T S n)[q]?=(cL T S' n)[q]?
 | 0,_=>⟨rfl,rfl⟩
 | n+1,h=>by
  obtain⟨e1,e2⟩:=WQ (q:=q) (S:=S) (S':=S') (n:=n) λj hj=>h j (by omega)
  rw[cL,cL]
  by_cases hd:1<T.cs n
  ·cases hb:T.bs n with
   | none =>
    have:=h n (by omega) hd (.inl hb);rw[this]
    by_cases hs:S' n=true
    ·rw[if_pos ⟨hs,hd⟩,if_pos ⟨hs,hd⟩];simp only[D2,hb,and_self]
    ·grind
   | some p =>
    by_cases hpq:p=q
    ·subst hpq;have:=h n (by omega) hd (.inr hb);rw[this]
     by_cases hs:S' n=true
     ·rw[if_pos ⟨hs,hd⟩,if_pos ⟨hs,hd⟩];simp only[D2,hb,List.length_set];grind
     ·grind
    ·have key:∀ X:Heap,(D2 T n X).length=X.length/\(D2 T n X)[q]?=X[q]?:=λX=>by
      simp only[D2,hb,List.length_set,true_and];grind
     grind
  ·grind
theorem QY {i:Nat} {S S':Nat->Bool} (hx:1<T.cs i) (hi:S i=false) (hi':S' i=true) (hne:∀ j,j≠i->S' j=S j) (hlate:∀ j,i<j->j<ops.size->1<T.cs j->S j=true->CG (T.bs j) (T.bs i)=true) :
  ∀ n,i<n->n<=ops.size->cL T S' n=D2 T i (cL T S n)
 | 0,h,_=>by omega
 | n+1,h,hn=>by
  rcases oG i n with hl|hl
  ·rw[cL,QY hx hi hi' hne hlate n hl (by omega),cL,hne n (by omega)]
   by_cases hc:S n=true/\1<T.cs n
   ·rw[if_pos hc,if_pos hc];have:=hlate n hl (by omega) hc.2 hc.1;cases hb1:T.bs n with
    | none=>rw[hb1]at this; cases this
    | some p =>
     cases hb2:T.bs i with
     | none=>rw[hb1,hb2]at this; cases this
     | some q =>
      rw[hb1,hb2]at this;simp only[CG,Bool.not_eq_true']at this;have hne:p≠q:=λe=>by rw[e,Nat.beq_refl]at this; cases this
      simp only[D2,hb1,hb2];exact List.set_comm _ _ (Ne.symm hne)
   ·grind
  ·have:i=n:=by omega
   subst this;rw[cL,if_pos ⟨hi',hx⟩,cL,if_neg (λh=>by rw[hi]at h; cases h.1)]
   congr 1
   exact rK T λj hj _=>hne j (by omega)
theorem aB7 S:∀ k,∃ F1,∀ t,bB F1 t=kM T S t k
 | 0=>⟨F,λt=>rfl⟩
 | k+1=>by
  obtain⟨F1,h1⟩:=aB7 S k
  by_cases hS:S k=true
  ·cases hd:BS ops k with
   | none=>exact⟨F1,λt=>by rw[h1,kM]; grind⟩
   | some d =>
    refine⟨aKV F1 d (T.vs k),λt=>?_⟩;rw[PW,h1,kM];grind
  ·exact⟨F1,λt=>by rw[h1,kM]; grind⟩
theorem cY.congr {w G μ F F' a}(h:cY w G μ nt F a)(he:∀ t,bB F' t=bB F t):cY w G μ nt F' a:=⟨h.size,λt=>by rw[he]; exact h.slot t,h.defers⟩
theorem I.congr {F F' H a w}(h:I n0 wi Gi μi nt F H a w)(he:∀ t,bB F' t=bB F t):I n0 wi Gi μi nt F' H a w:=by
 obtain⟨G,μ,e,hW,hF⟩:=h;exact⟨G,μ,e,hW,hF.congr he⟩
theorem MS {o:Oper}{F F' H}(h:∀ t∈o.looksAt ops,bB F' t=bB F t):mH P cl ops.toList o F' H=mH P cl ops.toList o F H:=by
 have hev:∀ x∈o.op.operands,ev F' x=ev F x:=λx hx=>by
  cases x with
  | tmp t=>exact h t (List.mem_append_left _ (List.mem_filterMap.2 ⟨.tmp t,by simpa using hx,rfl⟩))
  | _=>rfl
 have hg:guardOf F' ops.toList o=guardOf F ops.toList o:=by
  unfold guardOf;split
  ·rfl
  ·rename_i j want hgu;split
   ·rename_i p hp;split
    ·rename_i t ht;rw[h t (List.mem_append_right _ (by
      rw[hgu];have hp:ops[j]?=some p:=by simpa using hp
      simp[hp,ht]))]
    ·rfl
   ·rfl
 have hm:mkData P F' ops.toList o=mkData P F ops.toList o:=by
  unfold mkData;split
  ·rename_i t x y ho;rw[hev x (by rw[ho]; simp[Op.operands]),hev y (by rw[ho]; simp[Op.operands])]
  ·rfl
 have hz:opz P cl ops.toList F' H o=opz P cl ops.toList F H o:=by
  unfold opz;rw[aKW hev];split
  ·rename_i t x y ho;rw[hev x (by rw[ho]; simp[Op.operands]),hev y (by rw[ho]; simp[Op.operands])]
  ·rfl
 unfold mH;grind
def C3(m:List Nat) (S:Nat->Bool):Prop:=∀ j,S j=true->∀ i,(m.getD j 0).testBit i=true->S i=true
theorem PS {p p' i}(h1:p i=true)(h2:p' i=false)(h3:∀ j,j≠i->p' j=p j):∀ n,i<n->(List.range n).countP p'+1=(List.range n).countP p
 | 0,h=>by omega
 | n+1,h=>by
  rw[List.range_succ,List.countP_append,List.countP_append];rcases oG i n with hl|hl
  ·have:=PS h1 h2 h3 n hl;grind
  ·have e:(List.range i).countP p'=(List.range i).countP p:=List.countP_congr λj hj=>by
    grind
   grind
theorem aMD {G:Gd} {μ:Mp} {H:Heap} {w:World} (hW:aM n0 G μ H w) {q:Nat} (hq:q<H.length) (hn:μ.loc q=none) (c:Array Value) (t:TypeId) :
  Ext n0 w G μ (w.alloc (.cells c t)) G ⟨λs=>if s=q then some w.heap.size else μ.loc s,μ.len,λs=>if s=q then 0 else μ.sh s⟩/\aM n0 G ⟨λs=>if s=q then some w.heap.size else μ.loc s,μ.len,λs=>if s=q then 0 else μ.sh s⟩ (H.set q (some ⟨lits c,t,false,false,none⟩)) (w.alloc (.cells c t)):=by
 have hnew:(w.alloc (.cells c t)).heap[w.heap.size]?=some (.cells c t (0,0)):=by
  show (w.heap.push _)[w.heap.size]?=_;simp
 have e0:=pN hW (.cells c t) none none;have e:Ext n0 w G μ (w.alloc (.cells c t)) G ⟨λs=>if s=q then some w.heap.size else μ.loc s,μ.len,λs=>if s=q then 0 else μ.sh s⟩:={ e0 with
  map:=λr b hb=>by grind
  len:=λr n h=>h
  sh:=λr b hb=>by
   show (if r=q then 0 else μ.sh r)=μ.sh r;rw[if_neg (by rintro rfl; rw[hn]at hb; cases hb)] }
 have key:∀ (s:Nat) (k1:Blk),(H.set q (some ⟨lits c,t,false,false,none⟩))[s]?=some (some k1)->(s=q/\k1=⟨lits c,t,false,false,none⟩)\/(s≠q/\H[s]?=some (some k1)):=by grind
 refine⟨e,?_,?_,?_,hW.lt.step e.bS λb hb=>Nat.lt_of_lt_of_le (hW.lt b hb) e.size,?_,λb hb=>hW.base b (oR e.size hb),?_⟩
 case refine_5 =>
  refine hW.rows.step e.toMono.aF e.size (λ_=>rfl) (λj b hj=>⟨Below.heap_alloc _ _ _ (hW.rows.sep j b hj).1,id,λs k1 hs hf1 hl=>?_⟩) (λs k1 t1 l1 hs hg1 ht1=>?_)
  ·rcases key s k1 hs with ⟨rfl,rfl⟩|⟨hne,hs'⟩
   ·simp only[if_true]at hl;cases hl;exact absurd (hW.rows.sep j _ hj).1 (Nat.lt_irrefl _)
   ·grind
  ·grind
 ·intro s k1 b hs hb;rcases key s k1 hs with ⟨rfl,rfl⟩|⟨hne,hs'⟩
  ·simp only[if_true]at hb;cases hb;refine⟨c,hnew,?_,λ_=>by simp[lits],λh=>(by cases h),λ_=>⟨hW.base _ (oM _),λhG=>Nat.lt_irrefl _ (hW.lt _ hG)⟩⟩;refine aK.mk λi p hp=>?_
   obtain⟨v,h1,h2⟩:=(mW (w:=w.alloc (.cells c t)) (G:=G) (μ:=⟨λx=>if x=s then some w.heap.size else μ.loc x,μ.len,λx=>if x=s then 0 else μ.sh x⟩) c).get hp
   simp_all
  ·simp only[if_neg hne]at hb;obtain⟨c',h2,h3,h4⟩:=hW.blk s k1 b hs' hb;have e1:(w.alloc (.cells c t)).heap[b]?=w.heap[b]?:=Below.heap_alloc _ _ _ (eI h2);simp only[if_neg hne];exact⟨c',e1.trans h2,aK.mono e.toMono e1 _ _ h3,h4⟩
 ·intro s k1 g hs hg;rcases key s k1 hs with ⟨rfl,rfl⟩|⟨hne,hs'⟩
  ·cases hg
  ·exact hW.tags s k1 g hs' hg
 ·intro s1 s2 k1 k2 b h1 h2 f1 f2 m1 m2;rcases key s1 k1 h1 with ⟨rfl,rfl⟩|⟨l1,h1'⟩ <;> rcases key s2 k2 h2 with ⟨e2,rfl⟩|⟨l2,h2'⟩
  ·grind
  ·simp only[if_true]at m1;simp only[if_neg l2]at m2;cases m1;exact absurd (hW.hZ h2' m2) (Nat.lt_irrefl _)
  ·subst e2;simp only[if_true]at m2;simp only[if_neg l1]at m1;cases m2;exact absurd (hW.hZ h1' m1) (Nat.lt_irrefl _)
  ·simp only[if_neg l1]at m1;simp only[if_neg l2]at m2;exact hW.inj s1 s2 k1 k2 b h1' h2' f1 f2 m1 m2
 ·intro r hr;rw[List.length_set]at hr;have:=hW.top r hr;exact⟨by show (if r=q then _ else _)=_; rw[if_neg (by omega)]; exact this.1,this.2⟩
theorem aAT {o}(h:IX o=true):o.guard=none/\(∃ d,o.dst=some d)/\((∃ t,o.op=.alloc t)\/∃ c,o.op=.call c):=by
 unfold IX at h;rw[Bool.or_eq_true]at h;rcases h with h|h
 ·unfold isVar at h;grind
 ·unfold P5 at h;split at h
  ·unfold OU at h;grind
  grind
theorem O4 {m o k q}(h:wY m o k=some q):∃ b,m=some b/\q=b+k/\IX o=true:=by
 unfold wY at h;grind
def YK(T:Trace P cl nt ops F H F' H') (n0:Nat->Prop) (wi:World) (Gi:Gd) (μi:Mp):Prop :=
 ∀ (S:Nat->Bool) (F1:Frm) (w:World) (a:Act),C3 (fP ops) S->(∀ t,bB F1 t=kM T S t ops.size)->I n0 wi Gi μi nt F1 (cL T S ops.size) a w->∀ i o q,ops[i]?=some o->S i=false->wY T.md o i=some q ->
  ∃ G μ,Ext n0 wi Gi μi w G μ/\aM n0 G μ (cL T S ops.size) w/\cY w G μ nt F1 a/\μ.loc q=none/\((cL T S ops.size)[q]?=some none->μ.len q=none)
theorem W2 {b}:∀ {F} t,WW b F=true->below b (bB F t)=true
 | [],t,_=>rfl
 | (u,p)::F,t,h=>by
  simp only[WW,oA]at h;rw[cS];split
  ·grind
  ·exact W2 t h.2
mutual
theorem aC4 {p p':Nat->Bool} (h:∀ r,p r=true->p' r=true):∀ v:PV,inP p v=true->inP p' v=true
 | .lit _,_|.vals ..,_|.iptr _,_|.tl ..,_|.tp ..,_|.junk,_|.row ..,_|.rp ..,_|.mp _,_|.tm _,_=>rfl
 | .own r _,hv=>h r hv
 | .op r _ _ _,hv=>h r hv
 | .win r _ _ _,hv=>h r hv
 | .qs r _,hv=>h r hv
 | .hptr r _,hv=>h r hv
 | .hs r _ _ _ _,hv=>h r hv
 | .agg cs,hv=>by simp only[inP]at hv ⊢; exact vN h cs hv
 | .tuple cs,hv=>by simp only[inP]at hv ⊢; exact vN h cs hv
 | .clo _ f c,hv=>by
  simp only[inP,oA]at hv ⊢;exact⟨vN h f hv.1,vN h c hv.2⟩
theorem vN {p p':Nat->Bool} (h:∀ r,p r=true->p' r=true):∀ l:List PV,inP.inPs p l=true->inP.inPs p' l=true
 | [],_=>rfl
 | q::l,hv=>by
  simp only[inP.inPs,oA]at hv ⊢;exact⟨aC4 h q hv.1,vN h l hv.2⟩
end
mutual
theorem X3 {m:Nat} {p:Nat->Bool} (h:∀ r,r<m->p r=true):∀ v:PV,below m v=true->inP p v=true
 | .lit _,_|.vals ..,_|.iptr _,_|.tl ..,_|.tp ..,_|.junk,_|.row ..,_|.rp ..,_|.mp _,_|.tm _,_=>rfl
 | .own r _,hv=>h r (cF (by simpa only[below]using hv))
 | .op r _ _ _,hv=>h r (cF (by simpa only[below]using hv))
 | .win r _ _ _,hv=>h r (cF (by simpa only[below]using hv))
 | .qs r _,hv=>h r (cF (by simpa only[below]using hv))
 | .hptr r _,hv=>h r (cF (by simpa only[below]using hv))
 | .hs r _ _ _ _,hv=>h r (cF (by simpa only[below]using hv))
 | .agg cs,hv=>by simp only[below]at hv; simp only[inP]; exact vT h cs hv
 | .tuple cs,hv=>by simp only[below]at hv; simp only[inP]; exact vT h cs hv
 | .clo _ f c,hv=>by
  simp only[below,oA]at hv;simp only[inP,oA];exact⟨vT h f hv.1,vT h c hv.2⟩
theorem vT {m:Nat} {p:Nat->Bool} (h:∀ r,r<m->p r=true):∀ l:List PV,below.belows m l=true->inP.inPs p l=true
 | [],_=>rfl
 | q::l,hv=>by
  simp only[below.belows,oA]at hv;simp only[inP.inPs,oA];exact⟨X3 h q hv.1,vT h l hv.2⟩
end
mutual
theorem aLZ {p:Nat->Bool} {w:World} {G:Gd} {μ μ':Mp} (h:∀ r,p r=true->μ'.loc r=μ.loc r/\μ'.len r=μ.len r/\μ'.sh r=μ.sh r):∀ (q:PV) (v:Value),inP p q=true->VR w G μ q v->VR w G μ' q v
 | .lit u,v,_,hv=>by rw[VR]at hv ⊢; exact hv
 | .vals ..,v,_,hv=>by rw[VR]at hv ⊢; exact hv
 | .iptr _,v,_,hv=>by rw[VR]at hv ⊢; exact hv
 | .tl ..,v,_,hv=>by rw[VR]at hv ⊢; exact hv
 | .tp ..,v,_,hv=>by rw[VR]at hv ⊢; exact hv
 | .row ..,v,_,hv=>by rw[VR]at hv ⊢; exact hv
 | .rp ..,v,_,hv=>by rw[VR]at hv ⊢; exact hv
 | .mp _,v,_,hv=>by rw[VR]at hv ⊢; exact hv
 | .tm _,v,_,hv=>by rw[VR]at hv ⊢; exact hv
 | .junk,v,_,hv=>by rw[VR]; trivial
 | .hptr r off,v,hb,hv=>by
  have:=h r hb;rw[VR]at hv ⊢; rw[this.1,this.2.2]; exact hv
 | .hs r off l c s,v,hb,hv=>by
  have:=h r hb;rw[VR]at hv ⊢; rw[this.1,this.2.2]; exact hv
 | .own r s,v,hb,hv=>by
  have:=h r hb;rw[VR]at hv ⊢; rw[this.1,this.2.1,this.2.2]; exact hv
 | .op r i off s,v,hb,hv=>by
  have:=h r hb;rw[VR]at hv ⊢; rw[this.1,this.2.2]; exact hv
 | .win r lo n s,v,hb,hv=>by
  have:=h r hb;rw[VR]at hv ⊢; rw[this.1,this.2.1,this.2.2]; exact hv
 | .qs r s,v,hb,hv=>by
  have:=h r hb;rw[VR]at hv ⊢; rw[this.1,this.2.1,this.2.2]; exact hv
 | .agg cs,v,hb,hv=>by
  rw[VR]at hv ⊢;obtain⟨vs,h1,h2⟩:=hv;exact⟨vs,h1,JF h cs _ (by simpa only[inP]using hb) h2⟩
 | .tuple cs,v,hb,hv=>by
  rw[VR]at hv ⊢;obtain⟨vs,h1,h2⟩:=hv;exact⟨vs,h1,JF h cs _ (by simpa only[inP]using hb) h2⟩
 | .clo fn f c,v,hb,hv=>by
  rw[VR]at hv ⊢;simp only[inP,oA]at hb;obtain⟨fs,cs,h1,h2,h3⟩:=hv;exact⟨fs,cs,h1,JF h f _ hb.1 h2,JF h c _ hb.2 h3⟩
theorem JF {p:Nat->Bool} {w:World} {G:Gd} {μ μ':Mp} (h:∀ r,p r=true->μ'.loc r=μ.loc r/\μ'.len r=μ.len r/\μ'.sh r=μ.sh r):∀ (ps:List PV) (vs:List Value),inP.inPs p ps=true->VRs w G μ ps vs->VRs w G μ' ps vs
 | [],vs,_,hv=>by rw[VRs]at hv ⊢; exact hv
 | q::ps,vs,hb,hv=>by
  rw[VRs]at hv ⊢;simp only[inP.inPs,oA]at hb;obtain⟨x,xs,h1,h2,h3⟩:=hv;exact⟨x,xs,h1,aLZ h q x hb.1 h2,JF h ps xs hb.2 h3⟩
end
theorem aG5 {p w G μ μ'}(h:∀ r,p r=true->μ'.loc r=μ.loc r/\μ'.len r=μ.len r/\μ'.sh r=μ.sh r){b off ps}(hn:inP.inPs p ps=true)(hc:aK w G μ b off ps):aK w G μ' b off ps:=by
 obtain⟨vs,h1,h2⟩:=hc.values;exact aK.gD (JF h ps vs hn h1) h2
theorem VC {p:Nat->Bool}:∀ {H:Heap} {r:Nat} {k:Blk},TJ p H=true->H[r]?=some (some k)->k.tag.isSome=true\/inP.inPs p k.cells=true
 | [],r,k,_,h=>by simp at h
 | x::H,0,k,hp,h=>by
  simp only[List.getElem?_cons_zero,oJ]at h;subst h;simp only[TJ,aII,oA,Bool.or_eq_true]at hp;exact hp.1
 | x::H,r+1,k,hp,h=>by
  simp only[TJ,oA]at hp;exact VC (H:=H) (r:=r) hp.2 (by simpa using h)
def QF(b:Nat) (S:Nat->Bool) (r:Nat):Bool:=Nat.blt r b||S (r-b)
theorem G7 {b k S}(hS:C3 (fP ops) S)(hk:S k=true):∀ r,aHF b ((fP ops).getD k 0 ||| 2^k) r=true->QF b S r=true:=by
 intro r h;unfold aHF at h;unfold QF;rw[Bool.or_eq_true]at h ⊢;rcases h with h|h
 ·grind
 ·right;rw[oA,Nat.testBit_or,Bool.or_eq_true]at h;rcases h.2 with h1|h1
  ·exact hS k hk _ h1
  grind
theorem XJ {b}(hm:T.md=some b)(hF:WW b F=true){S}(hS:C3 (fP ops) S) t:∀ k,k<=ops.size->inP (QF b S) (kM T S t k)=true
 | 0,_=>X3 (λr hr=>by unfold QF; simp_all) _ (W2 t hF)
 | k+1,hk=>by
  obtain⟨o,ho⟩:∃ o,ops[k]?=some o:=⟨ops[k],Array.getElem?_eq_getElem (by omega)⟩;rw[kM]
  by_cases hc:S k=true/\BS ops k=some t
  ·rw[if_pos hc];have h3:=(T.step k o ho).2.2;rw[hm]at h3;simp only[okT,oA]at h3;exact aC4 (G7 hS hc.1) _ h3.1
  ·rw[if_neg hc];exact XJ hm hF hS t k (by omega)
theorem PJ {b}(hm:T.md=some b)(hH:B3 b H=true){S}(hS:C3 (fP ops) S):∀ k,k<=ops.size->∀ (r:Nat) x,(cL T S k)[r]?=some (some x)->x.tag.isSome=true\/inP.inPs (QF b S) x.cells=true
 | 0,_,r,x,h=>by
  rcases JA hH h with h|h
  ·grind
  ·exact .inr (vT (λr hr=>by unfold QF; rw[cE,oT hr]; rfl) _ h)
 | k+1,hk,r,x,h=>by
  obtain⟨o,ho⟩:∃ o,ops[k]?=some o:=⟨ops[k],Array.getElem?_eq_getElem (by omega)⟩;rw[cL]at h
  by_cases hc:S k=true/\1<T.cs k
  ·rw[if_pos hc]at h;have h3:=(T.step k o ho).2.2;rw[<- T.hbs k o ho,hm]at h3;simp only[okT,oA,aWA]at h3;replace h3:=h3.2;rw[cE,oT hc.2,oC]at h3;unfold D2 at h;split at h
   ·rename_i q hq;rw[hq]at h3;simp only at h3;rw[List.getElem?_set]at h
    by_cases hqr:q=r
    ·rw[if_pos hqr]at h;split at h
     ·have h5:=oB h;cases h6:(T.Hs (k+1))[q]? with
      | none=>rw[h6]at h5; cases h5
      | some y =>
       rw[h6]at h5;subst h5;have h7:dY (T.Hs (k+1)) q=some x:=by unfold PM.dY; rw[h6]
       rw[h7]at h3;simp only[aII,Bool.or_eq_true]at h3;rcases h3 with h3|h3
       ·grind
       ·exact .inr (vN (G7 hS hc.1) _ h3)
     ·cases h
    ·rw[if_neg hqr]at h;exact PJ hm hH hS k (by omega) r x h
   ·rename_i hq;rw[hq]at h3;rcases VC h3 h with h3|h3
    ·grind
    ·exact .inr (vN (G7 hS hc.1) _ h3)
  ·rw[if_neg hc]at h;exact PJ hm hH hS k (by omega) r x h
def ZH(b:Nat)(S:Nat->Bool)(X:Heap)(μ:Mp):Mp:=⟨λr=>if b<=r/\S (r-b)=false then none else μ.loc r,λr=>if b<=r/\S (r-b)=false/\FV X r=true then none else μ.len r,μ.sh⟩
theorem WS {b S X μ}:∀ s,QF b S s=true->(ZH b S X μ).loc s=μ.loc s/\(ZH b S X μ).len s=μ.len s/\(ZH b S X μ).sh s=μ.sh s:=λs hs=>by
 have h:¬ (b<=s/\S (s-b)=false):=λh=>by
  unfold QF at hs;rw[Bool.or_eq_true]at hs;rcases hs with hs|hs
  ·have:=cF hs; omega
  grind
 refine⟨?_,?_,rfl⟩
 ·show (if b<=s/\S (s-b)=false then none else μ.loc s)=μ.loc s;grind
 ·show (if b<=s/\S (s-b)=false/\FV X s=true then none else μ.len s)=μ.len s;grind
theorem aPO(hmb:∀ b,T.md=some b->WW b F=true/\B3 b H=true/\∀ r,b<=r->μi.loc r=none/\μi.len r=none):YK T n0 wi Gi μi:=by
 intro S F1 w a hC hF1 hI i o q ho hS hr;obtain⟨b,hm,rfl,ha⟩:=O4 hr;obtain⟨hF,hH,hμ⟩:=hmb b hm;obtain⟨G,μ,e,hW,hFI⟩:=hI;refine⟨G,ZH b S (cL T S ops.size) μ,?_,?_,?_,?_,?_⟩
 ·exact { e with
   map:=λr x hx=>by
    show (if b<=r/\S (r-b)=false then none else μ.loc r)=some x;rw[if_neg (λh=>by rw[(hμ r h.1).1]at hx; cases hx)];exact e.map r x hx
   len:=λr x hx=>by
    show (if b<=r/\S (r-b)=false/\FV (cL T S ops.size) r=true then none else μ.len r)=some x;rw[if_neg (λh=>by rw[(hμ r h.1).2]at hx; cases hx)];exact e.len r x hx }
 ·refine⟨?_,?_,?_,hW.lt,?_,hW.base,hW.rows.aVE λr=>?_⟩
  case refine_5 =>
   show (if b<=r/\S (r-b)=false then none else μ.loc r)=none\/(if b<=r/\S (r-b)=false then none else μ.loc r)=μ.loc r;grind
  ·intro r k x hk hx;change (if b<=r/\S (r-b)=false then none else μ.loc r)=some x at hx;split at hx
   ·cases hx
   ·obtain⟨c,h1,h2,h3⟩:=hW.blk r k x hk hx;refine⟨c,h1,?_,h3⟩;rcases PJ T hm hH hC ops.size (oM _) r k hk with h4|h4
    ·obtain⟨g,hg⟩:=Option.isSome_iff_exists.1 h4;rw[(hW.tags r k g hk hg).1]at h2 ⊢;exact iQ (eA _ _) h2
    ·exact aG5 WS h4 h2
  ·intro r k g hk hg;obtain⟨h1,h2⟩:=hW.tags r k g hk hg;refine⟨h1,?_⟩;show (if b<=r/\S (r-b)=false/\FV (cL T S ops.size) r=true then none else μ.len r)=_;rw[if_neg (λh=>by have h3:=FK.1 h.2.2; rw[hk]at h3; cases h3)];exact h2
  ·intro r s k l x h1 h2 f1 f2 m1 m2;change (if b<=r/\S (r-b)=false then none else μ.loc r)=some x at m1;change (if b<=s/\S (s-b)=false then none else μ.loc s)=some x at m2;split at m1
   ·cases m1
   ·split at m2
    ·cases m2
    ·exact hW.inj r s k l x h1 h2 f1 f2 m1 m2
  ·intro r hr;have:=hW.top r hr;refine⟨?_,?_⟩
   ·show (if b<=r/\_ then _ else _)=_;grind
   ·show (if b<=r/\S (r-b)=false/\FV (cL T S ops.size) r=true then none else μ.len r)=_;grind
 ·refine⟨hFI.size,λt=>?_,hFI.defers⟩;have hv:=hFI.slot t;rw[hF1]at hv ⊢;exact aLZ WS _ _ (XJ T hm hF hC t ops.size (oM _)) hv
 ·show (if b<=b+i/\S (b+i-b)=false then none else μ.loc (b+i))=none;rw[if_pos ⟨Nat.le_add_right _ _,by rw[Nat.add_sub_cancel_left]; exact hS⟩]
 ·intro hx;show (if b<=b+i/\S (b+i-b)=false/\FV (cL T S ops.size) (b+i)=true then none else μ.len (b+i))=none;rw[if_pos ⟨Nat.le_add_right _ _,by rw[Nat.add_sub_cancel_left]; exact hS,FK.2 hx⟩]
theorem aRB {G:Gd} {μ:Mp} {H:Heap} {w:World} (hW:aM n0 G μ H w) {q:Nat} (hq:q<H.length) (hn:μ.loc q=none) (hl:μ.len q=none) {w':World} {G':Gd} {μ':Mp} {k:Blk} {sz:Nat} {v:Value}
  (e:Ext (nO w) w G.bare aF w' G' μ') (hW':aM (nO w) G' μ' [some k] w') (hv:VR w' G' μ' (.own 0 sz) v) (ht:T1 k.tag=true) :
  ∃ μ2,Ext n0 w G μ w' (G'.with G) μ2/\aM n0 (G'.with G) μ2 (H.set q (some k)) w'/\VR w' (G'.with G) μ2 (.own q sz) v:=by
 have e2:Ext n0 w G μ w' (G'.with G) ⟨λs=>if s=q then μ'.loc 0 else μ.loc s,λs=>if s=q then μ'.len 0 else μ.len s,λs=>if s=q then μ'.sh 0 else μ.sh s⟩:={
  bS:=e.bS
  map:=λr b hb=>by grind
  len:=λr b hb=>by grind
  room:=e.room
  sh:=λr b hb=>by grind
  row:=λ_ _ h=>h
  os:=e.os
  tape:=e.tape
  output:=e.output
  size:=e.size
  old:=λb hb _=>e.old b hb (Nat.not_le.2 hb)
  new:=λb hb=>by
   rcases e.new b hb with h|h
   ·exact .inl h
   ·exact .inr (hW.base b h) }
 have hnew:∀ b,μ'.loc 0=some b->∃ c,w'.heap[b]?=some (.cells c k.ty (0,0))/\aK w' G' μ' b (μ'.sh 0) k.cells/\(k.grown=false->c.size=k.cells.length)/\(k.frozen=true->G' b)/\(k.frozen=false->nO w b/\¬ G' b):=λb hb=>hW'.blk 0 k b rfl hb
 obtain⟨g,hg,hgp⟩:∃ g,k.tag=some g/\g.t.plain=true:=by
  cases hk:k.tag with
  | none=>rw[hk]at ht; cases ht
  | some g=>rw[hk]at ht; exact⟨g,rfl,ht⟩
 obtain⟨hgc,hgl⟩:=hW'.tags 0 k g rfl hg;have key:∀ (s:Nat) (k1:Blk),(H.set q (some k))[s]?=some (some k1)->(s=q/\k1=k)\/(s≠q/\H[s]?=some (some k1)):=by grind
 refine⟨_,e2,⟨?_,?_,?_,hW'.lt,?_,λb hb=>hW.base b (oR e.size hb),?_⟩,?_⟩
 ·intro s k1 b hs hb;rcases key s k1 hs with ⟨rfl,rfl⟩|⟨hne,hs'⟩
  ·simp only[if_true]at hb;obtain⟨c,h1,h2,h3,h4,h5⟩:=hnew b hb;simp only[if_true];refine⟨c,h1,?_,h3,h4,λhf=>⟨hW.base b (h5 hf).1,(h5 hf).2⟩⟩;rw[hgc]at h2 ⊢;exact lX (G:=G') (G':=G'.with G) (λb h=>h) _ _ _ _ (mF _ hgp _) (iQ (eA _ _) h2)
  ·simp only[if_neg hne]at hb;obtain⟨c',h2,h3,h4,h5,h6⟩:=hW.blk s k1 b hs' hb;have hlt:=hW.hZ hs' hb;have e1:w'.heap[b]?=w.heap[b]?:=e.old b hlt (Nat.not_le.2 hlt);simp only[if_neg hne];refine⟨c',e1.trans h2,aK.mono e2.toMono e1 _ _ h3,h4,λhf=>(e.bS b (h5 hf)).1,λhf=>⟨(h6 hf).1,λhg=>?_⟩⟩;rcases e.new b hg with h|h
   ·exact(h6 hf).2 h
   ·grind
 ·intro s k1 g1 hs hg1;rcases key s k1 hs with ⟨rfl,rfl⟩|⟨hne,hs'⟩
  ·grind
  ·simp only[if_neg hne];exact hW.tags s k1 g1 hs' hg1
 ·intro s1 s2 k1 k2 b h1 h2 f1 f2 m1 m2;rcases key s1 k1 h1 with ⟨rfl,rfl⟩|⟨l1,h1'⟩ <;> rcases key s2 k2 h2 with ⟨e2,rfl⟩|⟨l2,h2'⟩
  ·grind
  ·simp only[if_true]at m1;simp only[if_neg l2]at m2;obtain⟨_,_,_,_,_,h5⟩:=hnew b m1;exact absurd (hW.hZ h2' m2) (Nat.not_lt.2 (h5 f1).1)
  ·subst e2;simp only[if_true]at m2;simp only[if_neg l1]at m1;obtain⟨_,_,_,_,_,h5⟩:=hnew b m2;exact absurd (hW.hZ h1' m1) (Nat.not_lt.2 (h5 f2).1)
  ·simp only[if_neg l1]at m1;simp only[if_neg l2]at m2;exact hW.inj s1 s2 k1 k2 b h1' h2' f1 f2 m1 m2
 ·intro r hr;rw[List.length_set]at hr;have:=hW.top r hr;exact⟨by show (if r=q then _ else _)=_; rw[if_neg (by omega)]; exact this.1,by show (if r=q then _ else _)=_; rw[if_neg (by omega)]; exact this.2⟩
 ·refine hW.rows.step e2.toMono.aF e.size (λ_=>rfl) (λj b hj=>?_) (λs k1 t1 l1 hs hg1 ht1=>?_)
  ·have hlt:=(hW.rows.sep j b hj).1;refine⟨e.old b hlt (Nat.not_le.2 hlt),λhg=>?_,λs k1 hs hf1 hl=>?_⟩
   ·rcases e.new b hg with h|h
    ·exact h
    ·exact absurd hlt (Nat.not_lt.2 h)
   ·rcases key s k1 hs with ⟨rfl,rfl⟩|⟨hne,hs'⟩
    ·simp only[if_true]at hl;obtain⟨_,_,_,_,_,h5⟩:=hnew b hl;exact absurd hlt (Nat.not_lt.2 (h5 hf1).1)
    ·simp only[if_neg hne]at hl;exact⟨s,k1,hs',hf1,hl⟩
  ·rcases key s k1 hs with ⟨rfl,rfl⟩|⟨hne,hs'⟩
   ·rw[hg]at ht1;cases ht1;cases hgp
   ·exact⟨k1,hs',rfl,rfl,rfl,by simp only[if_neg hne]⟩
 ·rw[VR]at hv ⊢;simp only[if_true];exact hv
theorem aQN {G:Gd} {μ:Mp} {H:Heap} {w:World} (hW:aM n0 G μ H w) {w':World} {G':Gd} {μ':Mp} (e:Ext (nO w) w G.bare aF w' G' μ') (hlt':∀ b,G' b->b<w'.heap.size):Ext n0 w G μ w' (G'.with G) μ/\aM n0 (G'.with G) μ H w':=by
 have e2:Ext n0 w G μ w' (G'.with G) μ:={
  bS:=e.bS
  map:=λ_ _ h=>h
  len:=λ_ _ h=>h
  room:=e.room
  row:=λ_ _ h=>h
  os:=e.os
  tape:=e.tape
  output:=e.output
  size:=e.size
  old:=λb hb _=>e.old b hb (Nat.not_le.2 hb)
  new:=λb hb=>by
   rcases e.new b hb with h|h
   ·exact .inl h
   ·exact .inr (hW.base b h) }
 have hback:∀ b,b<w.heap.size->G' b->G b:=λb hlt hg=>by
  rcases e.new b hg with h|h
  ·exact h
  ·grind
 refine⟨e2,hW.aU e2 ⟨λ_=>rfl,λj b hj=>?_⟩ ?_ hlt'⟩
 ·have hlt:=(hW.rows.sep j b hj).1;exact⟨e.old b hlt (Nat.not_le.2 hlt),hback b hlt⟩
 ·intro r k b hr hb;have hlt:=hW.hZ hr hb;exact⟨e.old b hlt (Nat.not_le.2 hlt),hback b hlt⟩
def aO9:Frm->Frm
 | []=>[]
 | (t,p)::r=>(t,bif bU p&&cR p then p else .junk)::aO9 r
theorem UU t:∀ F ,bB (aO9 F) t=bif bU (bB F t)&&cR (bB F t) then bB F t else .junk
 | []=>rfl
 | (u,p)::F=>by
  rw[aO9,cS,cS]
  by_cases h:t=u
  ·grind
  ·rw[if_neg h,if_neg h]; exact UU t F
theorem UP:∀ {l p},bU.noRefs l=true->p∈l->bU p=true
 | [],_,_,h=>by grind
 | q::l,p,h,hp=>by
  simp only[bU.noRefs,oA]at h;rcases List.mem_cons.1 hp with rfl|hp
  ·grind
  ·exact UP h.2 hp
theorem LL:∀ {l p},cR.noRows l=true->p∈l->cR p=true
 | [],_,_,h=>by grind
 | q::l,p,h,hp=>by
  simp only[cR.noRows,oA]at h;rcases List.mem_cons.1 hp with rfl|hp
  ·grind
  ·exact LL h.2 hp
theorem aRT {P:Program} {ops:Array Oper} (hmask:AG (fP ops) 0 ops.toList=true) {Q:Exit->Act->World->Prop} {J:Array Bool->Act->World->Prop} (hend:∀ listed a w,(∀ i,i<ops.size->listed.getD i false=true)->J listed a w->Q .normal a w)
  (hstep:∀ (listed listed':Array Bool) (a:Act) (w:World) (i:Nat) (o:Oper),ops[i]?=some o->listed.size=ops.size->listed.getD i false=false->C3 (fP ops) (λi=>listed.getD i false)->(∀ b,((fP ops).getD i 0).testBit b=true->listed.getD b false=true) ->
   listed'.getD i false=true->(∀ j,j≠i->listed'.getD j false=listed.getD j false)->J listed a w->∀ K:Act->World->Prop,(∀ a' w',J listed' a' w'->K a' w')->wpOp P ops Q i K a w) {a:Act} {w:World} (hJ:J (Array.replicate ops.size false) a w) :
  wpAny P .any ops Q ops.size (Array.replicate ops.size false) a w:=by
 have hm:∀ i o,ops[i]?=some o->(fP ops).getD i 0=MP (fP ops) o.after.toList/\∀ e∈o.after,Region.binds .any e=true->e.on<i:=λi o ho=>by
  have:=PH hmask (i:=i) (o:=o) (by simpa using ho);grind
 have hnone:∀ listed:Array Bool,listed.size=ops.size->Region.ready .any ops listed=[]->∀ i,i<ops.size->listed.getD i false=true:=by
  intro listed hsz hr i
  induction i using Nat.strongRecOn with
  | _ i ih =>
   intro hi;cases hli:listed.getD i false with
   | true=>rfl
   | false =>
    obtain⟨o,ho⟩:∃ o,ops[i]?=some o:=⟨ops[i],Array.getElem?_eq_getElem hi⟩;have:i∈Region.ready .any ops listed:=mem_ready.2 ⟨by
     have hlt:i<listed.size:=by omega
     simpa[Array.getD,hlt]using hli,o,ho,λe he hb=>ih e.on ((hm i o ho).2 e he hb) (by have:=(hm i o ho).2 e he hb; omega)⟩
    grind
 have hfalse:∀ j,(Array.replicate ops.size false).getD j false=false:=λj=>by
  simp only[Array.getD]
  simp_all
 suffices key:∀ (fuel:Nat) (listed:Array Bool) (a:Act) (w:World),(List.range ops.size).countP (λi=>!listed.getD i false)=fuel->listed.size=ops.size->C3 (fP ops) (λi=>listed.getD i false)->J listed a w->wpAny P .any ops Q fuel listed a w by
  refine key ops.size _ _ _ ?_ (by simp) ?_ hJ
  ·simp_all
  ·intro j hj;grind
 intro fuel
 induction fuel with
 | zero =>
  intro listed a w hc hsz hcs hI;have hall:∀ i,i<ops.size->listed.getD i false=true:=λi hi=>by
   rw[List.countP_eq_zero]at hc;have:=hc i (List.mem_range.2 hi);simpa using this
  refine⟨?_,hend listed a w hall hI⟩;cases hr:Region.ready .any ops listed with
  | nil=>rfl
  | cons i r =>
   have:i∈Region.ready .any ops listed:=by rw[hr]; exact List.mem_cons_self
   obtain⟨h1,o,ho,_⟩:=mem_ready.1 this;have hi:i<ops.size:=(Array.getElem?_eq_some_iff.1 ho).1;have h2:=hall i hi;have hlt:i<listed.size:=by omega
   simp only[Array.getD,hlt,dif_pos]at h1 h2;rw[h1]at h2; cases h2
 | succ fuel ih =>
  intro listed a w hc hsz hcs hI;refine⟨λhr=>hend listed a w (hnone listed hsz hr) hI,λi hi=>?_⟩;obtain⟨h1,o,ho,hdeps⟩:=mem_ready.1 hi;have hlt:i<ops.size:=(Array.getElem?_eq_some_iff.1 ho).1;have hlt':i<listed.size:=by omega
  have hun:listed.getD i false=false:=by
   simp only[Array.getD,hlt',dif_pos]at h1 ⊢;exact h1
  have hahead:∀ b,((fP ops).getD i 0).testBit b=true->listed.getD b false=true:=λb hb=>by
   rw[(hm i o ho).1]at hb;rcases yY _ _ hb with h0|⟨e,he,hbd,h2⟩
   ·simp at h0
   ·have he':=hdeps e (Array.mem_toList_iff.1 he) hbd;rcases h2 with rfl|h2
    ·exact he'
    ·exact hcs e.on he' b h2
  have hS':∀ j,j≠i->(listed.setIfInBounds i true).getD j false=listed.getD j false:=λj hj=>getD_set_ne false (λe=>hj e.symm)
  have hSi:(listed.setIfInBounds i true).getD i false=true:=by simp[Array.getD,hlt']
  refine hstep listed _ a w i o ho hsz hun hcs hahead hSi hS' hI _ λa' w' h=>ih _ a' w' ?_ (by simpa using hsz) ?_ h
  ·have:=PS (p:=λi=>!listed.getD i false) (p':=λj=>!(listed.setIfInBounds i true).getD j false) (i:=i) (by simp only[hun,Bool.not_false]) (by simp only[hSi,Bool.not_true]) (λj hj=>by simp only[hS' j hj]) ops.size hlt;omega
  ·intro j hj b hb
   by_cases hji:j=i
   ·subst hji
    by_cases hbj:b=j
    ·subst hbj; exact hSi
    ·show (listed.setIfInBounds j true).getD b false=true;rw[hS' b hbj]; exact hahead b hb
   ·have hj':listed.getD j false=true:=by rw[<- hS' j hji]; exact hj
    by_cases hbi:b=i
    ·subst hbi; exact hSi
    ·show (listed.setIfInBounds i true).getD b false=true;rw[hS' b hbi]; exact hcs j hj' b hb
theorem aVR(T:Trace P cl nt ops F H F' H') (hcl:bN P cl) (hst:zU ops=true) {S S':Nat->Bool} (hcs:C3 (fP ops) S) {i:Nat} {o:Oper} (ho:ops[i]?=some o) (hun:S i=false)
  (hahead:∀ b,((fP ops).getD i 0).testBit b=true->S b=true) (hSi:S' i=true) (hS':∀ j,j≠i->S' j=S j) {F1:Frm} (hF1:∀ t,bB F1 t=kM T S t ops.size) :
  ∃ c1 F2,stepT (wY T.md o i) P cl ops.toList o F1 (cL T S ops.size)=some (T.vs i,cL T S' ops.size,c1)/\CN nt F1 o.dst (T.vs i)=some F2/\∀ t,bB F2 t=kM T S' t ops.size:=by
 simp only[zU,oA]at hst;obtain⟨hmask,hpairs⟩:=hst;have hlt:i<ops.size:=(Array.getElem?_eq_some_iff.1 ho).1;have hap:∀ i j oi oj,ops[i]?=some oi->ops[j]?=some oj->i<j->((fP ops).getD j 0).testBit i=true\/oi.apart ops oj=true:=λi j oi oj hi hj hij=>by
  have:=QI hpairs (j:=j) (oj:=oj) (by simpa using hj);rw[Nat.zero_add]at this;have:=TW this (i:=i) (oi:=oi) (by simpa using hi) (by omega);grind
 have hbehind:∀ j,((fP ops).getD j 0).testBit i=true->S j=false:=λj hj=>by
  cases hlj:S j with
  | false=>rfl
  | true =>
   have h5:S i=true:=hcs j hlj i hj;grind
 have hwr:∀ t,(t∈o.looksAt ops\/o.dst=some t)->(∀ j,j<i->BS ops j=some t->S j=true)/\(∀ j,i<j->j<ops.size->BS ops j=some t->S j=false):=by
  intro t ht;refine⟨λj hj hd=>?_,λj hj hjs hd=>?_⟩
  ·cases hoj:ops[j]? with
   | none=>simp[BS,hoj]at hd
   | some oj =>
    simp only[BS,hoj,Option.bind_some]at hd;rcases hap j i oj o hoj ho hj with h3|h3
    ·grind
    ·obtain⟨a1,a2,a3⟩:=Oper.apart_spec h3;grind
  ·cases hoj:ops[j]? with
   | none=>simp[BS,hoj]at hd
   | some oj =>
    simp only[BS,hoj,Option.bind_some]at hd;rcases hap i j o oj ho hoj hj with h3|h3
    ·grind
    ·obtain⟨a1,a2,a3⟩:=Oper.apart_spec h3;grind
 have hslot:∀ t∈o.looksAt ops,kM T S t ops.size=bB (T.Fs i) t:=λt ht=>by
  obtain⟨w1,w2⟩:=hwr t (.inl ht);rw[CC T (k:=i) (by omega) λj hj hjs hd=>by
   rcases oG i j with hl|hl
   ·grind
   ·have:j=i:=by omega
    subst this; exact hun]
  rw[zC T (S':=λ_=>true) λj hj hd=>w1 j hj hd,LB T t i (by omega)]
 obtain⟨hstep,hput,-⟩:=T.step i o ho;have hord:∀ j,j<ops.size->1<T.cs j->T.cs i≠0->CG (T.bs j) (T.bs i)=false->S j=decide (j<i):=λj hjs hx hc0 hap'=>by
  rcases Nat.lt_trichotomy j i with hl|hl|hl
  ·rw[oT hl];rcases T.hits j i hl hlt (by omega) hc0 (.inl hx)with h3|h3
   ·have:CG (T.bs j) (T.bs i)=true:=by
     revert h3
     cases T.bs j <;> cases T.bs i <;> simp only[CG,Bool.not_eq_true',imp_self,Bool.false_eq_true,false_implies]
     rename_i x y;intro h3;cases hxy:Nat.beq x y with
     | false=>rfl
     | true=>rw[oE hxy,Nat.beq_refl]at h3; cases h3
    rw[this]at hap'; cases hap'
   ·exact hahead j h3
  ·subst hl; rw[oF (by omega)]; exact hun
  ·rw[oF (by omega)];rcases T.hits i j hl hjs hc0 (by omega) (.inr hx)with h3|h3
   ·rw[h3]at hap'; cases hap'
   ·exact hbehind j h3
 have hheap:T.cs i≠0->T.bs i=none->cL T S ops.size=T.Hs i:=λhc0 hb0=>by
  have ho':∀ j,j<ops.size->1<T.cs j->S j=decide (j<i):=λj hjs hx=>hord j hjs hx hc0 (by rw[hb0]; cases T.bs j <;> rfl)
  rw[B4 T (k:=i) (by omega) λj hj hjs hx=>by rw[ho' j hjs hx,oF (by omega)]];rw[rK T (S':=λ_=>true) λj hj hx=>by rw[ho' j (by omega) hx,oT hj],EU T hcl i (by omega)]
 have hheapq:∀ q,T.cs i≠0->T.bs i=some q->(cL T S ops.size)[q]?=(T.Hs i)[q]?:=λq hc0 hb0=>by
  have ho':∀ j,j<ops.size->1<T.cs j->T.bs j=none\/T.bs j=some q->S j=decide (j<i):=λj hjs hx hbj=>hord j hjs hx hc0 (by
   rw[hb0];rcases hbj with h|h <;> rw[h]
   ·rfl
   ·simp[CG])
  have h1:=(WQ T (q:=q) (S:=S) (S':=λj=>decide (j<i)) (n:=ops.size) ho').2;rw[h1,B4 T (k:=i) (by omega) λj hj hjs hx=>oF (by omega)];rw[rK T (S':=λ_=>true) λj hj hx=>oT hj,EU T hcl i (by omega)]
 have hnewheap:cL T S' ops.size=if 1<T.cs i then D2 T i (cL T S ops.size) else cL T S ops.size:=by
  by_cases hx:1<T.cs i
  ·rw[if_pos hx];refine QY T hx hun hSi hS' (λj hj hjs hxj hlj=>?_) ops.size hlt (oM _);cases hap':CG (T.bs j) (T.bs i)with
   | true=>rfl
   | false =>
    have:=hord j hjs hxj (by omega) hap';rw[oF (by omega)]at this;exact absurd hlj (by rw[this]; decide)
  ·rw[if_neg hx];refine rK T λj hj hxj=>?_
   exact hS' j (λe=>hx (e ▸ hxj))
 have hcg:∀ H2,stepT (wY T.md o i) P cl ops.toList o F1 H2=stepT (wY T.md o i) P cl ops.toList o (T.Fs i) H2:=λH2=>by
  have h0:∀ H2,mH P cl ops.toList o F1 H2=mH P cl ops.toList o (T.Fs i) H2:=λH2=>MS λt ht=>by rw[hF1,hslot t ht]
  cases wY T.md o i with
  | none=>exact h0 H2
  | some q =>
   have h5:∀ x∈o.op.operands,ev F1 x=ev (T.Fs i) x:=λx hx=>by
    cases x with
    | tmp t =>
     have h7:t∈o.looksAt ops:=List.mem_append_left _ (List.mem_filterMap.2 ⟨.tmp t,by simpa using hx,rfl⟩);show bB F1 t=bB (T.Fs i) t;rw[hF1,hslot t h7]
    | _=>rfl
   have h6:o.op.operands.toList.map (ev F1)=o.op.operands.toList.map (ev (T.Fs i)):=List.map_congr_left λx hx=>h5 x (by simpa using hx)
   simp only[stepT,h0,h6]
 have hop:∃ c1,stepT (wY T.md o i) P cl ops.toList o F1 (cL T S ops.size)=some (T.vs i,cL T S' ops.size,c1):=by
  rw[hcg,hnewheap]
  by_cases hc0:T.cs i=0
  ·rw[hc0]at hstep ⊢;refine⟨0,(((OC hcl hstep).2 rfl _).trans ?_)⟩;simp
  ·cases hb0:T.bs i with
   | none =>
    rw[hheap hc0 hb0];refine⟨T.cs i,hstep.trans ?_⟩
    by_cases hx:1<T.cs i
    ·rw[if_pos hx]; simp only[D2,hb0]
    ·rw[if_neg hx,(OC hcl hstep).1 (by omega)]
   | some q =>
    obtain⟨H3,c,h3,h4⟩:=T.loc i o q ho hb0 hc0 _ (hheapq q hc0 hb0);refine⟨c,h3.trans ?_⟩;rw[h4]; simp only[D2,hb0]
 obtain⟨c1,hop⟩:=hop;have hputF1:∃ F2,CN nt F1 o.dst (T.vs i)=some F2:=by
  cases hd:o.dst with
  | none=>exact⟨F1,rfl⟩
  | some d =>
   rw[hd]at hput;simp only[CN]at hput ⊢;cases hb:Nat.blt d nt with
   | true=>exact⟨_,rfl⟩
   | false=>rw[hb]at hput; cases hput
 obtain⟨F2,hF2⟩:=hputF1;refine⟨c1,F2,hop,hF2,λt=>?_⟩;rw[aEF hF2 t]
 by_cases hd:o.dst=some t
 ·rw[if_pos hd];symm;rw[CC T (k:=i+1) (by omega) λj hj hjs hdj=>by
   rw[hS' j (by omega)];exact(hwr t (.inr hd)).2 j (by omega) hjs hdj]
  rw[kM,if_pos ⟨hSi,by simp[BS,ho,hd]⟩]
 ·rw[if_neg hd,hF1];symm;refine zC T λj hj hdj=>hS' j ?_
  rintro rfl;simp only[BS,ho,Option.bind_some]at hdj;exact hd hdj
theorem aL4(hcl:bN P cl)(hst:zU ops=true)(hE:YK T n0 wi Gi μi){Q}(hQ:∀ a' w',I n0 wi Gi μi nt F' H' a' w'->Q .normal a' w'){a w}(hI:I n0 wi Gi μi nt F H a w) :
  wpAny P .any ops Q ops.size (Array.replicate ops.size false) a w:=by
 have hst2:=hst;simp only[zU,oA]at hst2;refine aRT hst2.1 (J:=λlisted a w=>∀ F1,(∀ t,bB F1 t=kM T (λi=>listed.getD i false) t ops.size)->I n0 wi Gi μi nt F1 (cL T (λi=>listed.getD i false) ops.size) a w) ?_ ?_ ?_
 ·intro listed a w hall hI;have h1:∀ t,bB F' t=kM T (λi=>listed.getD i false) t ops.size:=λt=>by rw[zC T (S':=λ_=>true) λj hj _=>hall j hj,LB T t _ (oM _),T.fn]
  have h2:=hI F' h1;rw[rK T (S':=λ_=>true) λj hj _=>hall j hj,EU T hcl _ (oM _),T.hn]at h2;grind
 ·intro listed listed' a w i o ho hsz hun hcs hahead hSi hS' hI K hK;obtain⟨F1,hF1⟩:=aB7 T (λi=>listed.getD i false) ops.size;have hI1:=hI F1 hF1;obtain⟨c1,F2,hop,hF2,hF3⟩:=aVR T hcl hst hcs ho hun hahead hSi hS' hF1;generalize hH1:cL T (λk=>listed'.getD k false) ops.size=H1 at hop;have hnext:∀ (a':Act) (w':World),(∃ F2,CN nt F1 o.dst (T.vs i)=some F2/\I n0 wi Gi μi nt F2 H1 a' w')->K a' w':=by
   rintro a' w' ⟨F4,hF4,hI2⟩;obtain rfl:F2=F4:=oB (hF2.symm.trans hF4);refine hK a' w' λF5 hF5=>?_
   rw[hH1];exact hI2.congr λt=>by rw[hF5,hF3]
  cases hr:wY T.md o i with
  | some q =>
   obtain⟨G,μ,e,hW,hF,hnone,hlnone⟩:=hE (λi=>listed.getD i false) F1 w a hcs hF1 hI1 i o q ho hun hr;obtain⟨b,_,_,ha⟩:=O4 hr;obtain⟨hg,⟨d,hd⟩,hkind⟩:=aAT ha;rw[hr]at hop;rcases hkind with ⟨t,hop'⟩|⟨cc,hop'⟩
   case inr =>
    simp only[stepT,hop']at hop;obtain⟨hnr,hop⟩:=aG hop;split at hop
    ·rename_i v1 X c2 hs;have hcut:mH P cl ops.toList o (aO9 F1) []=some (v1,X,c2):=by
      rw[<- hs];refine MS λt ht=>?_
      rw[UU];have h7:Operand.tmp t∈o.op.operands:=by
       unfold Oper.looksAt at ht;rw[hg]at ht;simp only[Option.toList,List.append_nil,List.mem_filterMap]at ht;obtain⟨x,h8,h9⟩:=ht;cases x with
       | tmp u=>simp only[oJ]at h9; subst h9; simpa using h8
       | _=>cases h9
      rw[oA]at hnr;have h8:bU (bB F1 t)=true:=UP hnr.1 (List.mem_map.2 ⟨.tmp t,by rw[<- hop']; simpa using h7,rfl⟩);have h9:cR (bB F1 t)=true:=LL hnr.2 (List.mem_map.2 ⟨.tmp t,by rw[<- hop']; simpa using h7,rfl⟩);rw[h8,h9]; rfl
     have hW0:aM (nO w) G.bare aF [] w:=⟨λr k b h=>by simp at h,λr k g h=>by simp at h,λr s k l b h=>by simp at h,hW.lt,λ_ _=>⟨rfl,rfl⟩,λ_ h=>h,kH.none _ _ (λ_=>rfl) _ _ (λr k h=>by simp at h)⟩;have hF0:cY w G.bare aF nt (aO9 F1) a:=⟨hF.size,λt=>by
      rw[UU];cases hn:(bU (bB F1 t)&&cR (bB F1 t))with
      | true =>
       rw[oA]at hn;exact xI (G:=G) (G':=G.bare) (λb h=>h) _ _ _ hn.2 (nN _ _ hn.1 (hF.slot t))
      | false=>rw[oD,VR]; trivial,hF.defers⟩
     unfold wpOp;rw[ho];simp only;rcases yK hcl hcut hW0 hF0 with ⟨k1,k2⟩|⟨k1,k2,k3⟩
     ·rw[if_pos k1];refine .inl (k2 _ _ λv' w' G' μ' e' hW' hv'=>?_);rcases AQ hop with ⟨sz,k,rfl,rfl,hv,hH,_,hq,hqn,htag⟩|⟨rfl,hn1,hv,hH,_⟩
      case inr =>
       obtain⟨m1,m2⟩:=aQN hW e' hW'.lt;rw[oA]at hn1;exact hnext _ _ ⟨F2,hF2,_,μ,e.trans m1,by rw[hH]; exact m2,(hF.mono m1.toMono).N4 hF2 (by rw[hv]; exact(xI (G:=G') (G':=G'.with G) (λb h=>h) _ _ _ hn1.2 (nN _ _ hn1.1 hv')).aP)⟩
      obtain⟨μ2,m1,m2,m3⟩:=aRB hW hq hnone (hlnone hqn) e' hW' hv' htag;exact hnext _ _ ⟨F2,hF2,_,μ2,e.trans m1,by rw[hH]; exact m2,(hF.mono m1.toMono).N4 hF2 (by rw[hv]; exact m3)⟩
     ·rw[k1,if_neg (by decide)];subst k3;rcases AQ hop with ⟨_,_,_,h9,_⟩|⟨_,_,hv,hH,_⟩
      ·cases h9
      ·exact hnext _ _ ⟨F2,hF2,G,μ,e,by rw[hH]; exact hW,hF.N4 hF2 (by rw[hv,k2,VR])⟩
    ·cases hop
   simp only[stepT,hop']at hop;cases hz:pL P t with
   | none=>rw[hz]at hop; cases hop
   | some z =>
    rw[hz]at hop;simp only at hop;obtain⟨hq,hop⟩:=aG hop;simp only[oJ,oP]at hop;obtain⟨hv,hH,-⟩:=hop;obtain⟨e1,e2⟩:=aMD hW (cF hq) hnone z.cells t;unfold wpOp;rw[ho];simp only;rw[if_pos (pR hF (b:=true) (by simp only[guardOf,hg]))];refine .inl ?_;have hok:uN P n0 w G μ o a (T.vs i) H1:=by
     refine .value (s:=Instr.alloc t true (.tuple #[])) (by simp only[execOp,hop']) ?_;refine⟨.pointer (some ⟨w.heap.size,0,none⟩),w.alloc (.cells z.cells t),G,_,?_,e1,by rw[<- hH]; exact e2,?_⟩
     ·have hzv:(zeroValue t).run P w=.ok z w:=by
       unfold pL at hz;split at hz
       ·rename_i i hi;simp[zeroValue,pM hi,hz]
       ·cases hz
      simp only[Instr.alloc,Sem.run_bind,hzv,Result.andThen_ok,newVar];simp[newRow]
     ·rw[<- hv,VR];exact⟨w.heap.size,by show (if q=q then _ else _)=_; rw[if_pos rfl],by simp⟩
    exact hok _ _ λv' w' G' μ' e' hW' hv=>hnext _ _ ⟨F2,hF2,G',μ',e.trans e',hW',(hF.mono e'.toMono).N4 hF2 hv⟩
  | none =>
  rw[hr]at hop;replace hop:mH P cl ops.toList o F1 (cL T (λi=>listed.getD i false) ops.size)=some (T.vs i,H1,c1):=hop;obtain⟨G,μ,e,hW,hF⟩:=hI1;unfold wpOp;rw[ho];simp only;rcases yK hcl hop hW hF with ⟨k1,k2⟩|⟨k1,k2,k3⟩
  ·rw[if_pos k1];exact .inl (k2 _ _ λv' w' G' μ' e' hW' hv=>hnext _ _ ⟨F2,hF2,G',μ',e.trans e',hW',(hF.mono e'.toMono).N4 hF2 hv⟩)
  ·rw[k1,if_neg (by decide)];exact hnext _ _ ⟨F2,hF2,G,μ,e,by rw[k3]; exact hW,hF.N4 hF2 (by rw[k2,VR])⟩
 ·intro F1 hF1;have hfalse:∀ j,(Array.replicate ops.size false).getD j false=false:=λj=>by
   simp only[Array.getD];split <;> simp
  rw[B4 T (k:=0) (Nat.zero_le _) λj _ _ _=>hfalse j];exact hI.congr λt=>by rw[hF1,CC T (k:=0) (Nat.zero_le _) λj _ _ _=>hfalse j]; rfl
theorem aGT {G μ H w}(hW:aM n0 G μ H w) n:aM n0 G μ (H++List.replicate n none) w:=by
 have key:∀ (r:Nat) k,(H++List.replicate n none)[r]?=some (some k)->H[r]?=some (some k):=by grind
 exact⟨λr k b h=>hW.blk r k b (key r k h),λr k g h=>hW.tags r k g (key r k h),λr s k l b h1 h2=>hW.inj r s k l b (key r k h1) (key s l h2),hW.lt,λr hr=>hW.top r (by grind),hW.base,hW.rows.aSS id (λ_ _ h=>h) (λr k h=>⟨key r k h,rfl⟩)⟩
theorem HW {b n}:∀ {H:Heap},B3 b H=true->B3 b (H++List.replicate n none)=true
 | [],_=>by
  induction n with
  | zero=>rfl
  | succ n ih=>exact ih
 | none::H,h=>HW (H:=H) h
 | some k::H,h=>by
  simp only[B3,oA,List.cons_append]at h ⊢;exact⟨h.1,HW h.2⟩
theorem aJ5 {H0} (T:Trace P cl nt ops F H0 F' H') (hcl:bN P cl) (hst:zU ops=true) (hE:YK T n0 wi Gi μi) {a w Q} (hI:I n0 wi Gi μi nt F H0 a w)
  (hQ:∀ a' w',I n0 wi Gi μi nt F' H' a' w'->Q .normal a' w'):wpAny P .any ops Q ops.size (Array.replicate ops.size false) a { w with drawn:=w.drawn+1 }:=by
 obtain⟨G,μ,e,hW,hF⟩:=hI;exact aL4 T hcl hst hE hQ ⟨G,μ,e.trans (NJ (Nat.le_add_right _ _)),DC hW _,hF.mono (I5 _)⟩
theorem HH(hcl:bN P cl) {a w Q} (h:I9 P cl nt ops F H=some (F',H')) (hI:I n0 wi Gi μi nt F H a w)
  (hQ:∀ a' w',I n0 wi Gi μi nt F' H' a' w'->Q .normal a' w'):wpAny P .any ops Q ops.size (Array.replicate ops.size false) a { w with drawn:=w.drawn+1 }:=by
 obtain⟨hst,h⟩:=aG h;rw[oA]at hst;split at h
 ·rename_i F2 H2 hl hs;obtain⟨hh,h⟩:=aG h;obtain⟨rfl,rfl⟩:=h;obtain⟨T,hT⟩:=aNP hcl hs hh;have hI0:=hI;obtain⟨G,μ,e,hW,hF⟩:=hI;refine aJ5 T hcl hst.1 ?_ ?_ hQ
  ·refine aPO T λb hb=>?_
   rw[hT]at hb;have h2:=hst.2;rw[hb]at h2 ⊢;simp only[aBM,oA]at h2;refine⟨h2.1,HW h2.2,λr hr=>?_⟩;obtain⟨_,hb⟩:=aG hb;simp only[oJ]at hb;subst hb;refine⟨?_,?_⟩
   ·cases hx:μi.loc r with
    | none=>rfl
    | some x =>
     have:=e.map r x hx;rw[(hW.top r hr).1]at this;grind
   ·cases hx:μi.len r with
    | none=>rfl
    | some x =>
     have:=e.len r x hx;rw[(hW.top r hr).2]at this;grind
  ·cases KT ops H with
   | none=>exact hI0
   | some b=>exact⟨G,μ,e,aGT hW _,hF⟩
 ·cases h
theorem WD(hcl:bN P cl) (hP:P.follows .mixedOrders=true) {id a w Q} (h:I9 P cl nt ops F H=some (F',H')) (hI:I n0 wi Gi μi nt F H a w)
  (hQ:∀ a' w',I n0 wi Gi μi nt F' H' a' w'->Q .normal a' w'):(Code.region id ops true).wp P Q a w:=wp_region_any hP (HH hcl h hI hQ)
end
end
inductive Ex where
 | normal
 | exit (id:Nat)
 | ret
def Ex.to:Ex->Exit
 | .normal=>.normal
 | .exit id=>.exit id
 | .ret=>.ret
structure Cfg where
 nt:Nat
 aU:Nat
 wP:List Nat
 loops:List (Nat×aVG)
 floor:Nat
def aO:Code->Nat
 | .region id _ _=>id
 | .seq a _=>aO a
 | .block _ a=>aO a
 | .loop a=>aO a
 | .scope a=>aO a
 | .cond _ a _=>aO a
 | _=>0
abbrev Out:=Option (Ex×Frm×Heap)
def iter(f:Frm->Heap->Out):Nat->Frm->Heap->Out
 | 0,_,_=>none
 | n+1,F,H=>match f F H with
  | some (.normal,F',H')=>iter f n F' H'
  | r=>r
section
variable {P:Program} {cl:Callee} {cfg:Cfg} {L:Nat} {n0:Nat->Prop} {wi:World} {Gi:Gd} {μi:Mp}
theorem I.WG {nt F F' H a w}(h:I n0 wi Gi μi nt F H a w)(hF:∀ t,bB F' t=bB F t\/bB F' t=.junk):I n0 wi Gi μi nt F' H a w:=by
 obtain⟨G,μ,e,hW,hI⟩:=h;refine⟨G,μ,e,hW,hI.size,λt=>?_,hI.defers⟩;rcases hF t with h1|h1
 ·rw[h1]; exact hI.slot t
 ·rw[h1,VR]; simp
def aW6(P:Program) (n0:Nat->Prop) (wi:World) (Gi:Gd) (μi:Mp) (nt:Nat) (c:Code) (a:Act) (w:World) (r:Ex×Frm×Heap):Prop :=
 c.wp P (λe a' w'=>e=r.1.to/\I n0 wi Gi μi nt r.2.1 r.2.2 a' w') a w
end
def SF(P:Program) (F:Frm) (H:Heap):ResultVar->Option PV
 | .tmp t=>some (bB F t)
 | .cell t ty=>match GA P H ty (bB F t)with|some (v,_)=>some v|none=>none
def jF(P:Program)(F:Frm)(H:Heap):List ResultVar->Option (List PV)
 | []=>some []
 | r::rs=>match SF P F H r,jF P F H rs with
  | some v,some vs=>some (v::vs)
  | _,_=>none
def cG:List PV->PV
 | [v]=>v
 | vs=>.tuple vs
def start(m:Nat):Nat->List PV->Frm
 | _,[]=>[]
 | i,p::ps=>bif QM m i then (i,p)::start m (i+1) ps else start m (i+1) ps
section
variable {P:Program} {cl:Callee} {cfg:Cfg} {L:Nat} {n0:Nat->Prop} {w:World} {G:Gd} {μ:Mp} {H:Heap}
theorem VH m:∀ ps i t,bB (start m i ps) t=if i<=t/\QM m t=true then (ps[t-i]?).getD .junk else .junk
 | [],i,t=>by simp[start,bB]
 | p::ps,i,t=>by
  simp only[start];have ih:=VH m ps (i+1) t;cases hi:QM m i with
  | true =>
   rw[oC,cS,ih];grind
  | false =>
   grind
theorem lB {args vs n m}(h:VRs w G μ args vs.toList)(hn:args.length<=n):cY w G μ n (start m 0 args) ⟨vs++Array.replicate (n-vs.size) undef,[]⟩ where
 size:=by
  have :=by simpa using h.length
  grind
 slot t:=by
  rw[VH]
  by_cases hb:QM m t=true
  case neg=>rw[if_neg (λh=>hb h.2),VR]; trivial
  rw[if_pos ⟨Nat.zero_le _,hb⟩,Nat.sub_zero];cases ht:args[t]? with
  | none=>simp only[Option.getD_none]; rw[VR]; trivial
  | some p =>
   obtain⟨v,h1,h2⟩:=h.get ht;have hv :=by simpa using h1
   have hlt :=(Array.getElem?_eq_some_iff.1 hv).1;have:(vs++Array.replicate (n-vs.size) undef).getD t undef=v:=by rw[Array.getD_eq_getD_getElem?,Array.getElem?_append_left hlt,hv]; rfl
   grind
 defers:=rfl
def aA5(tmps:Array Value):ResultVar->Sem Value
 | .tmp t=>pure (tmps.getD t undef)
 | .cell b t=>do loadVar t (<- asAddr (tmps.getD b undef))
theorem mR fn tmps:results fn tmps=(do let vs <- fn.results.mapM (aA5 tmps); pure (if h:vs.size=1 then vs[0] else .tuple vs)):=by rfl
theorem gH {nt F a}(hW:aM n0 G μ H w)(hF:cY w G μ nt F a):∀ {rs vs},jF P F H rs=some vs->∃ us ,(rs.mapM (aA5 a.tmps)).run P w=.ok us w/\VRs w G μ vs us
 | [],vs,h=>by
  simp only[jF,oJ]at h;subst h;exact⟨[],rfl,by rw[VRs]⟩
 | r::rs,vs,h=>by
  simp only[jF]at h;split at h
  ·rename_i v vs' hv hvs;simp only[oJ]at h;subst h;obtain⟨us,h1,h2⟩:=gH hW hF hvs;cases r with
   | tmp t =>
    simp only[SF,oJ]at hv;subst hv;refine⟨a.tmps.getD t undef::us,?_,by rw[VRs]; exact⟨_,_,rfl,hF.slot t,h2⟩⟩;rw[List.mapM_cons];simp only[aA5,Sem.run_bind,Sem.run_pure,Result.andThen_ok,h1]
   | cell b t =>
    simp only[SF]at hv;split at hv
    ·rename_i u c hu;simp only[oJ]at hv;subst hv;obtain⟨v',h3,h4⟩:=RG (P:=P) hW (hF.slot b) hu;refine⟨v'::us,?_,by rw[VRs]; exact⟨_,_,rfl,h4,h2⟩⟩;have h5:(do loadVar t (<- asAddr (a.tmps.getD b undef)):Sem Value).run P w=.ok v' w:=by
      simp only[Instr.loadAt]at h3;cases hp:a.tmps.getD b undef <;> rw[hp]at h3 <;> simp[Instr.sureAddr]at h3
      rename_i ad;cases ad with
      | none=>simp[Instr.sureAddr]at h3
      | some ad=>simpa[asAddr,Instr.sureAddr]using h3
     rw[List.mapM_cons];simp only[aA5,Sem.run_bind]at h5 ⊢
     simp_all
    ·cases hv
  ·cases h
theorem iH {vs us}(h:VRs w G μ vs us):VR w G μ (cG vs) (if hh:us.toArray.size=1 then us.toArray[0] else .tuple us.toArray):=by
 match vs,us,h with
 | [v],us,h =>
  obtain⟨x,xs,rfl,h1,h2⟩:=h;subst h2;simpa[cG]using h1
 | [],us,h =>
  subst h;exact⟨_,by simp; rfl,by simp[VRs]⟩
 | v::v2::vs,us,h =>
  have hl:=h.length;simp only[List.length_cons]at hl;have:¬ us.toArray.size=1:=by simp; omega
  rw[dif_neg this];exact⟨_,rfl,by omega⟩
end
def FE(f:PV->Option PV):List PV->Option (List PV)
 | []=>some []
 | p::ps=>match f p with
  | some q=>match FE f ps with
   | some qs=>some (q::qs)
   | none=>none
  | none=>none
def inl(fz:Bool) (H:Heap):Nat->PV->Option PV
 | _,.lit v=>some (.lit v)
 | _,.vals cs n cap=>some (.vals cs n cap)
 | _,.iptr cs=>some (.iptr cs)
 | _,.tl t l cap e=>some (.tl t l cap e)
 | _,.tp t l i off e=>some (.tp t l i off e)
 | _,.row j lo n sz=>some (.row j lo n sz)
 | _,.own r _=>match dY H r with
  | some k=>match k.tag with
   | some g=>bif k.frozen||!fz then some (kD g.t g.l none) else none
   | none=>none
  | none=>none
 | _,.win r lo n sz=>match dY H r with
  | some k=>match k.tag with
   | some g=>bif (k.frozen||!fz)&&Nat.beq sz g.t.size then some (kD g.t ((g.l.drop lo).take n) none) else none
   | none=>none
  | none=>none
 | n+1,.hs r off len _ sz=>match dY H r with
  | some k=>bif (k.frozen||!fz)&&Nat.ble (off+len*sz) k.cells.length then match FE (λp=>inl fz H n p) ((k.cells.drop off).take (len*sz))with
    | some cs=>some (.vals cs len none)
    | none=>none
   else none
  | none=>none
 | n+1,.hptr r off=>match dY H r with
  | some k=>bif k.frozen||!fz then match FE (λp=>inl fz H n p) (k.cells.drop off)with
    | some cs=>some (.iptr cs)
    | none=>none
   else none
  | none=>none
 | n+1,.agg cs=>match FE (λp=>inl fz H n p) cs with|some qs=>some (.agg qs)|none=>none
 | n+1,.tuple cs=>match FE (λp=>inl fz H n p) cs with|some qs=>some (.tuple qs)|none=>none
 | n+1,.clo fn f c=>match FE (λp=>inl fz H n p) f,FE (λp=>inl fz H n p) c with
  | some f',some c'=>some (.clo fn f' c')
  | _,_=>none
 | _,_=>none
section
variable {P:Program} {n0:Nat->Prop} {w:World} {G G':Gd} {μ:Mp} {H:Heap}
theorem A0 {f}(hf:∀ p q v,f p=some q->VR w G μ p v->VR w G' aF q v):∀ {ps qs vs},FE f ps=some qs->VRs w G μ ps vs->VRs w G' aF qs vs
 | [],qs,vs,h,hv=>by
  simp only[FE,oJ]at h;subst h;exact hv
 | p::ps,qs,vs,h,hv=>by
  simp only[FE]at h;split at h
  ·rename_i q hq;split at h
   ·rename_i qs' hqs;simp only[oJ]at h;subst h;obtain⟨x,xs,h1,h2,h3⟩:=hv;exact⟨x,xs,h1,hf p q x hq h2,A0 hf hqs h3⟩
   grind
  grind
theorem LN {f}(hf:∀ p q v,f p=some q->VR w G μ p v->VR w G' aF q v){b}:∀ {ps qs off},FE f ps=some qs->aK w G μ b off ps->aK w G' aF b off qs
 | [],qs,off,h,hv=>by
  simp only[FE,oJ]at h;subst h;trivial
 | p::ps,qs,off,h,hv=>by
  simp only[FE]at h;split at h
  ·rename_i q hq;split at h
   ·rename_i qs' hqs;simp only[oJ]at h;subst h;obtain⟨⟨v,h1,h2⟩,h3⟩:=hv;exact⟨⟨v,h1,hf p q v hq h2⟩,LN hf hqs h3⟩
   grind
  grind
theorem tA(hW:aM n0 G μ H w){fz}(hR:∀ j b,G.row j=some b->G'.row j=some b)(hG:∀ b,G b->G' b)(hB:∀ r k b,H[r]?=some (some k)->(k.frozen=true\/fz=false)->μ.loc r=some b->G' b):∀ n p q v,inl fz H n p=some q->VR w G μ p v->VR w G' aF q v:=by
 have hm:Mono w G aF w G' aF:=⟨λb hb=>⟨hG b hb,rfl⟩,λ_ _ h=>h,λ_ _ h=>h,λ_ _ h=>h,hR,λ_ _ _=>rfl⟩;have base:∀ (p q:PV) (v:Value),some p=some q->bU p=true->VR w G μ p v->VR w G' aF q v:=λp q v h hn hv=>by
  cases h;exact VR.mono hm _ _ (nN p v hn hv)
 have owned:∀ (r sz:Nat) (q:PV) (v:Value),(match dY H r with
  | some k=>match k.tag with
   | some g=>bif k.frozen||!fz then some (kD g.t g.l none) else none
   | none=>none
  | none=>none)=some q->VR w G μ (.own r sz) v->VR w G' aF q v:=λr sz q v h hv=>by
  split at h
  ·rename_i k hk;split at h
   ·rename_i g hg;obtain⟨hb,h⟩:=aG h;simp only[Bool.or_eq_true,Bool.not_eq_true']at hb;simp only[oJ]at h;subst h;exact rG hW hv hk hg hG (λb h1=>hB r k b (aE hk) hb h1) hR
   ·cases h
  ·cases h
 have wind:∀ (r lo n sz:Nat) (q:PV) (v:Value),(match dY H r with
  | some k=>match k.tag with
   | some g=>bif (k.frozen||!fz)&&Nat.beq sz g.t.size then some (kD g.t ((g.l.drop lo).take n) none) else none
   | none=>none
  | none=>none)=some q->VR w G μ (.win r lo n sz) v->VR w G' aF q v:=λr lo n sz q v h hv=>by
  split at h
  ·rename_i k hk;split at h
   ·rename_i g hg;obtain⟨hb,h⟩:=aG h;simp only[oA,Bool.or_eq_true,Bool.not_eq_true']at hb;simp only[oJ]at h;subst h;exact aEO hW hv hk hg (oE hb.2) hG (λb h1=>hB r k b (aE hk) hb.1 h1) hR
   ·cases h
  ·cases h
 intro n
 induction n with
 | zero =>
  intro p q v h hv;cases p <;> simp only[inl]at h <;> first|(cases h; done)|exact base _ q v h rfl hv|exact owned _ _ q v h hv|exact wind _ _ _ _ q v h hv
 | succ n ih =>
  intro p q v h hv;cases p with
  | lit u=>simp only[inl]at h; exact base _ q v h rfl hv
  | vals cs k cap=>simp only[inl]at h; exact base _ q v h rfl hv
  | iptr cs=>simp only[inl]at h; exact base _ q v h rfl hv
  | junk=>simp only[inl]at h; cases h
  | tl t l cap e=>simp only[inl]at h; exact base _ q v h rfl hv
  | tp t l i off e=>simp only[inl]at h; exact base _ q v h rfl hv
  | own r sz=>simp only[inl]at h; exact owned r sz q v h hv
  | op r i off sz=>simp only[inl]at h; cases h
  | row j lo n sz=>simp only[inl]at h; exact base _ q v h rfl hv
  | rp j off=>simp only[inl]at h; cases h
  | mp j=>simp only[inl]at h; cases h
  | tm l=>simp only[inl]at h; cases h
  | qs r sz=>simp only[inl]at h; cases h
  | win r lo n sz=>simp only[inl]at h; exact wind r lo n sz q v h hv
  | hs r off len cap sz =>
   simp only[inl]at h;split at h
   ·rename_i k hk;cases hb:((k.frozen||!fz)&&Nat.ble (off+len*sz) k.cells.length)with
    | false=>rw[hb]at h; cases h
    | true =>
     rw[hb]at h;simp only[oC]at h;simp only[oA,Bool.or_eq_true,Bool.not_eq_true']at hb;split at h
     ·rename_i cs hcs;simp only[oJ]at h;subst h;rw[VR]at hv; rw[VR];obtain⟨b,c,h1,rfl,h3,_,_⟩:=hv;obtain⟨c',g2,g3,_⟩:=hW.blk r k b (aE hk) h1;refine⟨_,c,rfl,h3,λk hk=>(by cases hk),.inr ⟨b,μ.sh r+off,rfl,hB r k b (aE hk) hb.1 h1,?_⟩⟩;have:=g3.sub off (len*sz);exact LN (λp q v h hv=>ih p q v h hv) hcs this
     ·cases h
   ·cases h
  | hptr r off =>
   simp only[inl]at h;split at h
   ·rename_i k hk;cases hb:(k.frozen||!fz)with
    | false=>rw[hb]at h; cases h
    | true =>
     rw[hb]at h;simp only[oC]at h;simp only[Bool.or_eq_true,Bool.not_eq_true']at hb;split at h
     ·rename_i cs hcs;simp only[oJ]at h;subst h;rw[VR]at hv; rw[VR];obtain⟨b,h1,rfl⟩:=hv;obtain⟨c',g2,g3,_⟩:=hW.blk r k b (aE hk) h1;refine⟨b,μ.sh r+off,rfl,hB r k b (aE hk) hb h1,?_⟩;have:=g3.drop off;exact LN (λp q v h hv=>ih p q v h hv) hcs this
     ·cases h
   ·cases h
  | agg cs =>
   simp only[inl]at h;split at h
   ·rename_i qs hqs;simp only[oJ]at h;subst h;rw[VR]at hv ⊢;obtain⟨vs,h1,h2⟩:=hv;exact⟨vs,h1,A0 (λp q v h hv=>ih p q v h hv) hqs h2⟩
   ·cases h
  | tuple cs =>
   simp only[inl]at h;split at h
   ·rename_i qs hqs;simp only[oJ]at h;subst h;rw[VR]at hv ⊢;obtain⟨vs,h1,h2⟩:=hv;exact⟨vs,h1,A0 (λp q v h hv=>ih p q v h hv) hqs h2⟩
   ·cases h
  | clo fn f c =>
   simp only[inl]at h;split at h
   ·rename_i f' c' hf hc;simp only[oJ]at h;subst h;rw[VR]at hv ⊢;obtain⟨fs,cs,h1,h2,h3⟩:=hv;exact⟨fs,cs,h1,A0 (λp q v h hv=>ih p q v h hv) hf h2,A0 (λp q v h hv=>ih p q v h hv) hc h3⟩
   ·cases h
def wS(P:Program) (g:FuncId) (args:List PV) (r:PV):Prop :=
 ∀ (w:World) (G:Nat->Prop) (vs:Array Value),Lt w G->VRs w (Gd.of G) aF args vs.toList ->
  (callFunc g vs).run P w=.ok (.enter g vs) w/\Calls P g vs w λe w'=>∃ v' G',e=.returned v'/\Ext (nO w) w (Gd.of G) aF w' (Gd.of G') aF/\(∀ b,G' b->b<w'.heap.size)/\VR w' (Gd.of G') aF r v'
def R3:PV->Bool
 | .lit _=>true
 | _=>false
def aAS:PV->Bool
 | .lit _=>true
 | .agg cs=>cs.all R3
 | _=>false
def flat:PV->Bool
 | .lit _=>true
 | .agg cs=>cs.all R3
 | .tuple cs=>cs.all aAS
 | _=>false
theorem PK {w' G'}:∀ {ps vs},ps.all R3=true->VRs w G aF ps vs->VRs w' G' μ ps vs
 | [],vs,_,h=>h
 | p::ps,vs,hf,h=>by
  simp only[List.all_cons,oA]at hf;obtain⟨x,xs,h1,h2,h3⟩:=h;refine⟨x,xs,h1,?_,PK hf.2 h3⟩;cases p <;> simp only[R3]at hf <;> try grind
  exact h2
theorem XU {w' G'}:∀ {ps vs},ps.all aAS=true->VRs w G aF ps vs->VRs w' G' μ ps vs
 | [],vs,_,h=>h
 | p::ps,vs,hf,h=>by
  simp only[List.all_cons,oA]at hf;obtain⟨x,xs,h1,h2,h3⟩:=h;refine⟨x,xs,h1,?_,XU hf.2 h3⟩;cases p <;> simp only[aAS]at hf <;> try grind
  ·exact h2
  ·obtain⟨us,q1,q2⟩:=h2;exact⟨us,q1,PK hf.1 q2⟩
theorem aQF {w' G' p v}(hf:flat p=true)(h:VR w G aF p v):VR w' G' μ p v:=by
 cases p <;> simp only[flat]at hf <;> try grind
 ·exact h
 ·obtain⟨vs,h1,h2⟩:=h;exact⟨vs,h1,PK hf h2⟩
 ·obtain⟨vs,h1,h2⟩:=h;exact⟨vs,h1,XU hf h2⟩
theorem XK(hW:aM n0 G μ H w) {w':World} {G0 G1:Gd} (hG:∀ b,G b->G0 b) (hG0:∀ b,G0 b->G b\/∃ r,μ.loc r=some b) (e:Ext (nO w) w G0 aF w' G1 aF) (hlt:∀ b,G1 b->b<w'.heap.size) {G':Gd}
  (hG':∀ b,G' b->G b\/w.heap.size<=b/\b<w'.heap.size) (hGG':∀ b,G b->G' b) (hrow:∀ j,G'.row j=G.row j):Ext n0 w G μ w' G' μ/\aM n0 G' μ H w':=by
 have e':Ext n0 w G μ w' G' μ:={
  bS:=λb hb=>⟨hGG' b hb,e.old b (hW.lt b hb) (Nat.not_le.2 (hW.lt b hb))⟩
  map:=λ_ _ h=>h
  len:=λ_ _ h=>h
  room:=e.room
  row:=λj b h=>by rw[hrow]; exact h
  os:=e.os
  tape:=e.tape
  output:=e.output
  size:=e.size
  old:=λb hb _=>e.old b hb (Nat.not_le.2 hb)
  new:=λb hb=>by
   rcases hG' b hb with h|h
   ·exact .inl h
   ·exact .inr (hW.base b h.1) }
 refine⟨e',hW.aU e' ⟨hrow,λj b hj=>?_⟩ ?_ ?_⟩
 ·have hlt:=(hW.rows.sep j b hj).1;refine⟨e.old b hlt (Nat.not_le.2 hlt),λhb'=>?_⟩;rcases hG' b hb' with h|h
  ·exact h
  ·omega
 ·intro r k b hr hb;have hlt:b<w.heap.size:=hW.hZ hr hb;refine⟨e.old b hlt (Nat.not_le.2 hlt),λhb'=>?_⟩;rcases hG' b hb' with h|h
  ·exact h
  ·omega
 ·intro b hb;rcases hG' b hb with h|h
  ·exact Nat.lt_of_lt_of_le (hW.lt b h) e.size
  ·exact h.2
theorem aJI(hW:aM n0 G μ H w) {g:FuncId} {args qs:List PV} {r:PV} {n:Nat} {vs:List Value} (hp:wS P g qs r) (hq:FE (inl false H n) args=some qs) (hn:cR.noRows qs=true) (hf:flat r=true) (hv:VRs w G μ args vs):lN P n0 w G μ g vs.toArray r H:=by
 have hlive:∀ r k b,H[r]?=some (some k)->μ.loc r=some b->b<w.heap.size:=λr k b hr hb=>by exact hW.hZ hr hb
 have hvs:VRs w (⟨λb=>b<w.heap.size,G.row⟩:Gd) aF qs vs:=A0 (λp q v h hv=>tA (G':=⟨λb=>b<w.heap.size,G.row⟩) hW (λ_ _ h=>h) (λb hb=>hW.lt b hb) (λr k b hr _ hb=>hlive r k b hr hb) n p q v h hv) hq hv;have hvs:VRs w (Gd.of λb=>b<w.heap.size) aF qs vs:=j9 (G:=⟨λb=>b<w.heap.size,G.row⟩) (G':=Gd.of λb=>b<w.heap.size) (λb h=>h) _ _ _ hn hvs;obtain⟨h1,h2⟩:=hp w (λb=>b<w.heap.size) vs.toArray hW.lt.all (by simpa using hvs)
 refine⟨h1,h2.mono ?_⟩;rintro e w' ⟨v',G',rfl,e1,e2,e3⟩;have e4:Ext n0 w G μ w' G μ:={
  bS:=λb hb=>⟨hb,e1.old b (hW.lt b hb) (Nat.not_le.2 (hW.lt b hb))⟩
  map:=λ_ _ h=>h
  len:=λ_ _ h=>h
  room:=e1.room
  row:=λ_ _ h=>h
  os:=e1.os
  tape:=e1.tape
  output:=e1.output
  size:=e1.size
  old:=λb hb _=>e1.old b hb (Nat.not_le.2 hb)
  new:=λb hb=>.inl hb }
 refine⟨v',G,μ,rfl,e4,hW.aU e4 ⟨λ_=>rfl,λj b hj=>⟨e1.old b (hW.rows.sep j b hj).1 (Nat.not_le.2 (hW.rows.sep j b hj).1),id⟩⟩ ?_ ?_,aQF hf e3⟩
 ·intro r k b hr hb;exact⟨e1.old b (hlive r k b hr hb) (Nat.not_le.2 (hlive r k b hr hb)),id⟩
 ·intro b hb;exact Nat.lt_of_lt_of_le (hW.lt b hb) e1.size
theorem aKN(hW:aM n0 G μ H w) {g:FuncId} {args qs:List PV} {r:PV} {n:Nat} {vs:List Value} (hp:wS P g qs r) (hq:FE (inl true H n) args=some qs) (hn:cR.noRows qs=true) (hv:VRs w G μ args vs):lN P n0 w G μ g vs.toArray r H:=by
 have hvs:VRs w G aF qs vs:=A0 (λp q v h hv=>tA hW (λ_ _ h=>h) (λb hb=>hb) (λr k b hr hf hb=>by
  obtain⟨c,h2,_,_,h5,_⟩:=hW.blk r k b hr hb;rcases hf with hf|hf
  ·exact h5 hf
  ·cases hf) n p q v h hv) hq hv
 have hvs:VRs w (Gd.of G.ok) aF qs vs:=j9 (G:=G) (G':=Gd.of G.ok) (λb h=>h) _ _ _ hn hvs;obtain⟨h1,h2⟩:=hp w G.ok vs.toArray hW.lt (by simpa using hvs);refine⟨h1,h2.mono ?_⟩;rintro e w' ⟨v',G',rfl,e1,e2,e3⟩;obtain⟨e4,e5⟩:=XK (G':=⟨G',G.row⟩) hW (G0:=Gd.of G.ok) (λb h=>h) (λb h=>.inl h) e1 e2 (λb hb=>by
  rcases e1.new b hb with h|h
  ·exact .inl h
  ·exact .inr ⟨h,e2 b hb⟩) (λb hb=>(e1.bS b hb).1) (λ_=>rfl)
 exact⟨v',⟨G',G.row⟩,μ,rfl,e4,e5,(VR.mono (aIH (λb h=>h)) _ _ e3).aP⟩
end
def reach(H:Heap):Nat->PV->List Nat
 | n+1,.hs r _ _ _ _=>r::(match dY H r with|some k=>k.cells.flatMap (λp=>reach H n p)|none=>[])
 | n+1,.hptr r _=>r::(match dY H r with|some k=>k.cells.flatMap (λp=>reach H n p)|none=>[])
 | _,.own r _=>[r]
 | _,.op r _ _ _=>[r]
 | _,.win r _ _ _=>[r]
 | n+1,.agg cs=>cs.flatMap (λp=>reach H n p)
 | n+1,.tuple cs=>cs.flatMap (λp=>reach H n p)
 | n+1,.clo _ f c=>f.flatMap (λp=>reach H n p)++c.flatMap (λp=>reach H n p)
 | _,_=>[]
def depth:Nat:=16
def aWK(P:Program) (t:TypeId):Bool:=match P.info? t with
 | some i=>!i.hasPointers||(match P.underlying t with|some .string=>true|_=>false)
 | none=>false
def SL(P:Program)(g:FuncId):Bool:=match P.funcs[g]? with
 | some fn=>fn.resultTypes.toList.all (aWK P)
 | none=>false
def callee(P:Program) (sh:FuncId->Bool) (pure:FuncId->List PV->Option PV) (shared:FuncId->List PV->Heap->Option (PV×Heap)):Callee:=λg args H =>
 bif sh g then match shared g args H with
  | some (r,H')=>some (r,H',2)
  | none=>none
 else bif bU.noRefs args then bif cR.noRows args then match pure g args with
  | some r=>some (r,H,0)
  | none=>none
  else none
 else bif SL P g then match FE (λp=>inl false H depth p) args with
  | some qs=>bif cR.noRows qs then match pure g qs with
   | some r=>bif flat r then some (r,H,1) else none
   | none=>none
   else none
  | none=>none
 else match o7 H (args.flatMap (λp=>reach H depth p))with
  | H1=>match FE (λp=>inl true H1 depth p) args with
   | some qs=>bif cR.noRows qs then match pure g qs with
    | some r=>some (r,H1,2)
    | none=>none
    else none
   | none=>none
section
variable {P:Program} {n0:Nat->Prop} {w:World} {G:Gd} {μ:Mp} {H:Heap}
theorem lN.trans {g vs r H' G1}(e:Ext n0 w G μ w G1 μ)(h:lN P n0 w G1 μ g vs r H'):lN P n0 w G μ g vs r H':=by
 refine⟨h.1,h.2.mono ?_⟩;rintro x w' ⟨v',G',μ',rfl,e1,e2,e3⟩;exact⟨v',G',μ',rfl,e.trans e1,e2,e3⟩
theorem aJD {sh pure shared} (hp:∀ g args r,pure g args=some r->wS P g args r)
  (hs:∀ g args H r H',shared g args H=some (r,H')->∀ {n0 G μ w vs},aM n0 G μ H w->VRs w G μ args vs->lN P n0 w G μ g vs.toArray r H'):bN P (callee P sh pure shared) where
 call:=by
  intro g args H r H' c h n0 G μ w vs hW hv;unfold callee at h;cases hsh:sh g with
  | true =>
   rw[hsh]at h;simp only[oC]at h;split at h
   ·rename_i r1 H1 hr;simp only[oJ,oP]at h;obtain⟨rfl,rfl,rfl⟩:=h;exact hs g args H r1 H1 hr hW hv
   ·cases h
  | false =>
   rw[hsh]at h;simp only[oD]at h;cases hn:bU.noRefs args with
   | true =>
    rw[hn]at h;simp only[oC]at h;obtain⟨hnr,h⟩:=aG h;split at h
    ·rename_i r1 hr;simp only[oJ,oP]at h;obtain⟨rfl,rfl,rfl⟩:=h;obtain⟨h1,h2⟩:=hp g args r1 hr w G.ok vs.toArray hW.lt (by simpa using j9 (G:=G) (G':=Gd.of G.ok) (λb h=>h) _ _ _ hnr (bG _ _ hn hv));refine⟨h1,h2.mono ?_⟩;rintro e w' ⟨v',G',rfl,e1,e2,e3⟩;obtain⟨e4,e5⟩:=XK (G':=⟨G',G.row⟩) hW (G0:=Gd.of G.ok) (λb h=>h) (λb h=>.inl h) e1 e2 (λb hb=>by
      rcases e1.new b hb with h|h
      ·exact .inl h
      ·exact .inr ⟨h,e2 b hb⟩) (λb hb=>(e1.bS b hb).1) (λ_=>rfl)
     exact⟨v',⟨G',G.row⟩,μ,rfl,e4,e5,(VR.mono (aIH (λb h=>h)) _ _ e3).aP⟩
    ·cases h
   | false =>
    rw[hn]at h;simp only[oD]at h;cases hf:SL P g with
    | true =>
     rw[hf]at h;simp only[oC]at h;split at h
     ·rename_i qs hq;obtain⟨hnr,h⟩:=aG h;split at h
      ·rename_i r1 hr;cases hfl:flat r1 with
       | true =>
        rw[hfl]at h;simp only[oC,oJ,oP]at h;obtain⟨rfl,rfl,rfl⟩:=h;exact aJI hW (hp g qs r1 hr) hq hnr hfl hv
       | false=>rw[hfl]at h; cases h
      ·cases h
     ·cases h
    | false =>
     rw[hf]at h;simp only[oD]at h;split at h
     ·rename_i qs hq;obtain⟨hnr,h⟩:=aG h;split at h
      ·rename_i r1 hr;simp only[oJ,oP]at h;obtain⟨rfl,rfl,rfl⟩:=h;obtain⟨G1,e1,hW1⟩:=pJ (args.flatMap (λp=>reach H depth p)) H G hW;exact(aKN hW1 (hp g qs r1 hr) hq hnr (VRs.mono e1.toMono _ _ hv)).trans e1
      ·cases h
     ·cases h
 free:=by
  intro g args H r H' h;unfold callee at h ⊢;grind
 reads:=by
  intro g args H r H' h;unfold callee at h;cases hsh:sh g with
  | true =>
   rw[hsh]at h;simp only[oC]at h;split at h
   ·simp only[oJ,oP]at h;exact absurd h.2.2 (by decide)
   ·cases h
  | false =>
   rw[hsh]at h;simp only[oD]at h;cases hn:bU.noRefs args with
   | true =>
    rw[hn]at h;simp only[oC]at h;obtain⟨_,h⟩:=aG h;split at h
    ·simp only[oJ,oP]at h;exact absurd h.2.2 (by decide)
    ·cases h
   | false =>
    rw[hn]at h;simp only[oD]at h;cases hf:SL P g with
    | true =>
     rw[hf]at h;simp only[oC]at h;split at h
     ·obtain⟨_,h⟩:=aG h;split at h
      ·rename_i r1 hr;cases hfl:flat r1 with
       | true =>
        rw[hfl]at h;simp only[oC,oJ,oP]at h;exact h.2.1.symm
       | false=>rw[hfl]at h; cases h
      ·cases h
     ·cases h
    | false =>
     rw[hf]at h;simp only[oD]at h;split at h
     ·obtain⟨_,h⟩:=aG h;split at h
      ·simp only[oJ,oP]at h;exact absurd h.2.2 (by decide)
      ·cases h
     ·cases h
theorem uI {g:FuncId} {args:List PV} {v q:PV} {H':Heap} {n:Nat} (hs:∀ {n0 G μ w vs},aM n0 G μ [] w->VRs w G μ args vs->lN P n0 w G μ g vs.toArray v H') (hq:inl false H' n v=some q) (hn:cR q=true):wS P g args q:=by
 intro w G vs hlt hv;have hW:aM (nO w) (Gd.of G) aF [] w:=⟨λr k b h=>by simp at h,λr k g h=>by simp at h,λr s k l b h=>by simp at h,hlt,λ_ _=>⟨rfl,rfl⟩,λ_ h=>h,kH.none _ _ (λ_=>rfl) _ _ (λr k h=>by simp at h)⟩;obtain⟨h1,h2⟩:=hs hW hv;have hvs:vs.toList.toArray=vs:=by simp
 rw[hvs]at h1 h2;refine⟨h1,h2.mono ?_⟩;rintro e w' ⟨v',G1,μ1,rfl,e1,e2,e3⟩;refine⟨v',λb=>G1 b\/∃ r k,H'[r]?=some (some k)/\μ1.loc r=some b,rfl,?_,?_,?_⟩
 ·exact {
   bS:=λb hb=>⟨.inl (e1.bS b hb).1,(e1.bS b hb).2⟩
   map:=λ_ _ h=>h
   len:=λ_ _ h=>h
   room:=e1.room
   row:=λ_ _ h=>h
   os:=e1.os
   tape:=e1.tape
   output:=e1.output
   size:=e1.size
   old:=e1.old
   new:=λb hb=>by
    rcases hb with hb|⟨r,k,hr,hb⟩
    ·exact e1.new b hb
    ·obtain⟨c,_,_,_,g5,g6⟩:=e2.blk r k b hr hb;cases hf:k.frozen with
     | true=>exact e1.new b (g5 hf)
     | false=>exact .inr (g6 hf).1 }
 ·rintro b (hb|⟨r,k,hr,hb⟩)
  ·exact e2.lt b hb
  ·exact e2.hZ hr hb
 ·exact xI (G:=⟨λb=>G1 b\/∃ r k,H'[r]?=some (some k)/\μ1.loc r=some b,G1.row⟩) (G':=Gd.of _) (λb h=>h) _ _ _ hn
   (tA (G':=⟨λb=>G1 b\/∃ r k,H'[r]?=some (some k)/\μ1.loc r=some b,G1.row⟩) e2 (λ_ _ h=>h) (λb hb=>.inl hb) (λr k b hr _ hb=>.inr ⟨r,k,hr,hb⟩) n v q v' hq e3)
theorem enters {g:Nat}{fn}(h:P.funcs[g]?=some fn)(hn:(fn.name== "runtime.NumGoroutine")=false)(hb:fn.body.isNone=false) xs w:(callFunc g xs).run P w=.ok (.enter g xs) w:=by
 unfold callFunc;simp only[Sem.run_bind,program,Sem.run,Result.andThen_ok,h,hn,hb];rfl
end
def ZJ(H:Heap) (v:PV):Option PV:=match inl false H depth v with
 | some q=>bif cR q then some q else none
 | none=>none
theorem pP {H v q}(h:ZJ H v=some q):inl false H depth v=some q/\cR q=true:=by
 unfold ZJ at h;grind
structure tW (P:Program):Prop where
 mixed:P.follows .mixedOrders=true
 names:∀ (g:Nat) (fn:Func),P.funcs[g]?=some fn->(fn.name== "runtime.NumGoroutine")=false
section
variable {P:Program} {cfgs:FuncId->Cfg} {sh:FuncId->Bool} {prim:FuncId->List PV->Option PV} {L:Nat}
end
def aOR:Operand->Nat
 | .tmp t=>2^t
 | _=>0
def bitsOf(m:Nat):List Operand->Nat
 | []=>m
 | .tmp t::r=>bitsOf (m ||| 2^t) r
 | _::r=>bitsOf m r
def uO(m d:Nat):Nat:=(m ||| d) ^^^ d
def aMV(l:List Oper)(o:Oper):Nat:=match o.guard with
 | some (j,_)=>match l[j]? with
  | some p=>match p.dst with|some t=>2^t|none=>0
  | none=>0
 | none=>0
def HN(l:List Oper):List Oper->Nat->Nat->Nat
 | [],_,acc=>acc
 | o::r,d,acc=>HN l r (match o.dst with|some t=>d ||| 2^t|none=>d) (acc ||| uO (bitsOf (aMV l o) o.op.operands.toList) d)
def tC:Code->Nat
 | .region _ ops _=>HN ops.toList ops.toList 0 0
 | .seq a b=>tC a ||| tC b
 | .cond c a b=>aOR c ||| tC a ||| tC b
 | .block _ a=>tC a
 | .loop a=>tC a
 | .scope a=>tC a
 | _=>0
def B6:List ResultVar->Nat->Nat
 | [],m=>m
 | .tmp t::r,m=>B6 r (m ||| 2^t)
 | .cell t _::r,m=>B6 r (m ||| 2^t)
def bO(fn:Func):Nat:=match fn.body with
 | some c=>B6 fn.results.toList (tC c)
 | none=>0
inductive Kd where
 | int (k:IntKind)
 | bool
 | str
 | list (t:Ty)
 | agg (t:Ty)
 | own (e:TypeId) (t:Ty)
 | box (e:TypeId) (t:Ty)
 | ptr (t:Ty)
 | fn (g:FuncId)
 | nil0
 | val
 | nilI
 | clo (g:FuncId) (ts:List Ty)
 | win (j sz:Nat)
 | bown (e et:TypeId) (t:Ty)
 | bque (e et:TypeId) (t:Ty)
 | bag (e:TypeId) (t1:Ty) (et:TypeId) (t:Ty) (t2:Option Ty)
 | bag2 (e:TypeId) (t1:Ty×Option Ty) (et:TypeId) (t:Ty) (eu:TypeId) (u:Ty)
 | hnd (sz:Nat)
 | mpk (j:Nat)
 | ar (e:TypeId) (t:Ty)
@[reducible] def aJF:Option Ty->Type
 | none=>Unit
 | some t=>t.den
def aHB:(t:Option Ty)->aJF t->List PV
 | none,_=>[]
 | some t,x=>enc t x
@[reducible] def AS:List Ty->Type
 | []=>Unit
 | t::r=>t.den×AS r
@[reducible] def Kd.den:Kd->Type
 | .int _=>Int
 | .bool=>Bool
 | .str=>ByteArray
 | .list t=>List t.den
 | .agg t=>t.den
 | .own _ t=>List t.den
 | .box _ t=>t.den
 | .ptr t=>t.den
 | .fn _=>Unit
 | .nil0=>Unit
 | .val=>Value
 | .nilI=>Unit
 | .clo _ ts=>AS ts
 | .win _ _=>Nat×Nat
 | .bown _ _ t=>List t.den
 | .bque _ _ t=>List t.den
 | .bag _ t1 _ t t2=>t1.den×List t.den×aJF t2
 | .bag2 _ t1 _ t _ u=>(t1.1.den×aJF t1.2)×List t.den×List u.den
 | .hnd _=>Nat×Nat×Nat
 | .mpk _=>Unit
 | .ar _ t=>List (List t.den)
abbrev Shape:=List (Nat×Kd)
@[reducible] def Shape.den:List (Nat×Kd)->Type
 | []=>Unit
 | (_,k)::r=>k.den×Shape.den r
def Kd.pos:Kd->Nat
 | .own _ _|.box _ _|.ar _ _=>1
 | .bown _ _ _=>2
 | .bque _ _ _=>2
 | .bag _ _ _ _ _=>2
 | .bag2 _ _ _ _ _ _=>3
 | _=>0
def GQ:(ts:List Ty)->AS ts->List PV
 | [],_=>[]
 | t::r,(x,xs)=>.iptr (enc t x)::GQ r xs
def qB:(k:Kd)->k.den->Nat->PV
 | .int k,x,_=>.lit (.int k x)
 | .bool,x,_=>.lit (.bool x)
 | .str,x,_=>.lit (.string x)
 | .list t,l,_=>kD t l none
 | .agg t,x,_=>.agg (enc t x)
 | .own _ t,_,n=>.own n t.size
 | .box _ _,_,n=>.hptr n 0
 | .ptr t,x,_=>.iptr (enc t x)
 | .fn g,_,_=>.lit (.func (.func g) #[] #[])
 | .nil0,_,_=>.lit (.slice none 0 0)
 | .val,x,_=>.lit x
 | .nilI,_,_=>.lit .nilIface
 | .clo g ts,x,_=>.clo (.func g) [] (GQ ts x)
 | .win j sz,x,_=>.win j x.1 x.2 sz
 | .bown _ _ _,_,n=>.hptr n 0
 | .bque _ _ _,_,n=>.hptr n 0
 | .bag _ _ _ _ _,_,n=>.hptr n 0
 | .bag2 _ _ _ _ _ _,_,n=>.hptr n 0
 | .hnd sz,x,_=>.row x.1 x.2.1 x.2.2 sz
 | .mpk j,_,_=>.mp j
 | .ar _ _,_,_=>.junk
def aT6:(k:Kd)->k.den->Nat->Heap
 | .own e t,l,_=>[some ⟨aD t l,e,true,false,some ⟨t,l⟩⟩]
 | .box e t,x,_=>[some ⟨enc t x,e,false,false,none⟩]
 | .bown e et t,l,n=>[some ⟨[.own (n+1) t.size],e,false,false,none⟩,some ⟨aD t l,et,true,false,some ⟨t,l⟩⟩]
 | .bque e et t,l,n=>[some ⟨[.qs (n+1) t.size],e,false,false,none⟩,some ⟨aD t l,et,true,false,some ⟨t,l⟩⟩]
 | .bag e t1 et t t2,x,n=>[some ⟨enc t1 x.1++.own (n+1) t.size::aHB t2 x.2.2,e,false,false,none⟩,some ⟨aD t x.2.1,et,true,false,some ⟨t,x.2.1⟩⟩]
 | .bag2 e t1 et t eu u,x,n=>[some ⟨enc t1.1 x.1.1++.own (n+1) t.size::.own (n+2) u.size::aHB t1.2 x.1.2,e,false,false,none⟩,some ⟨aD t x.2.1,et,true,false,some ⟨t,x.2.1⟩⟩,some ⟨aD u x.2.2,eu,true,false,some ⟨u,x.2.2⟩⟩]
 | .ar e t,l,_=>[some ⟨aD (.rows t) l,e,false,false,some ⟨.rows t,l⟩⟩]
 | .int _,_,_|.bool,_,_|.str,_,_|.list _,_,_|.agg _,_,_|.ptr _,_,_|.fn _,_,_|.nil0,_,_|.val,_,_|.nilI,_,_|.clo _ _,_,_|.win _ _,_,_|.hnd _,_,_|.mpk _,_,_=>[]
def nZ:(sh:List (Nat×Kd))->Shape.den sh->Nat->Frm
 | [],_,_=>[]
 | (t,k)::r,(x,xs),n=>(t,qB k x n)::nZ r xs (n+k.pos)
def WT:(sh:List (Nat×Kd))->Shape.den sh->Nat->Heap
 | [],_,_=>[]
 | (_,k)::r,(x,xs),n=>aT6 k x n++WT r xs (n+k.pos)
def vD sh (x:Shape.den sh):Heap:=WT sh x 0
def p7(e:TypeId)(t:Ty)(p:PV)(H:Heap)(n:Nat):Option (List t.den) :=
 match p with
 | .own s sz=>bif Nat.beq s n&&Nat.beq sz t.size then match dY H n with
  | some k=>match k.tag with
   | some g=>match qM g.t t g.l with
    | some l=>bif Nat.beq k.ty e&&k.grown&&!k.frozen then some l else none
    | none=>none
   | none=>none
  | none=>none
  else none
 | _=>none
def VI(e:TypeId)(t:Ty)(p:PV)(H:Heap)(n:Nat):Option t.den :=
 match p with
 | .hptr s off=>bif Nat.beq s n&&Nat.beq off 0 then match dY H n with
  | some k=>bif Nat.beq k.ty e&&!k.grown&&!k.frozen&&!k.tag.isSome then dec t k.cells else none
  | none=>none
  else none
 | _=>none
def NA(e et:TypeId)(t:Ty)(p:PV)(H:Heap)(n:Nat):Option (List t.den) :=
 match p with
 | .hptr s off=>bif Nat.beq s n&&Nat.beq off 0 then match dY H n with
  | some k=>bif Nat.beq k.ty e&&!k.grown&&!k.frozen&&!k.tag.isSome then match k.cells with
   | [.own r sz]=>p7 et t (.own r sz) H (n+1)
   | _=>none
   else none
  | none=>none
  else none
 | _=>none
def NP(e et:TypeId)(t:Ty)(p:PV)(H:Heap)(n:Nat):Option (List t.den) :=
 match p with
 | .hptr s off=>bif Nat.beq s n&&Nat.beq off 0 then match dY H n with
  | some k=>bif Nat.beq k.ty e&&!k.grown&&!k.frozen&&!k.tag.isSome then match k.cells with
   | [.own r sz]=>bif Nat.beq sz t.size then p7 et t (.own r sz) H (n+1) else none
   | [.qs r sz]=>bif Nat.beq sz t.size then p7 et t (.own r sz) H (n+1) else none
   | _=>none
   else none
  | none=>none
  else none
 | _=>none
def aS5:(t:Option Ty)->List PV->Option (aJF t)
 | none,cs=>match cs with
  | []=>some ()
  | _::_=>none
 | some t,cs=>dec t cs
def VL(e:TypeId)(t1:Ty)(et:TypeId)(t:Ty) t2 (p:PV)(H:Heap)(n:Nat):Option (t1.den×List t.den×aJF t2) :=
 match p with
 | .hptr s off=>bif Nat.beq s n&&Nat.beq off 0 then match dY H n with
  | some k=>bif Nat.beq k.ty e&&!k.grown&&!k.frozen&&!k.tag.isSome then match k.cells.drop t1.size with
   | .own r sz::rest=>match dec t1 (k.cells.take t1.size),p7 et t (.own r sz) H (n+1),aS5 t2 rest with
    | some a,some l,some b=>some (a,l,b)
    | _,_,_=>none
   | _=>none
   else none
  | none=>none
  else none
 | _=>none
def NY(e:TypeId)(t1:Ty×Option Ty)(et:TypeId)(t:Ty)(eu:TypeId)(u:Ty)(p:PV)(H:Heap)(n:Nat):Option ((t1.1.den×aJF t1.2)×List t.den×List u.den) :=
 match p with
 | .hptr s off=>bif Nat.beq s n&&Nat.beq off 0 then match dY H n with
  | some k=>bif Nat.beq k.ty e&&!k.grown&&!k.frozen&&!k.tag.isSome then match k.cells.drop t1.1.size with
   | .own r sz::.own r2 sz2::rest=>match dec t1.1 (k.cells.take t1.1.size),p7 et t (.own r sz) H (n+1),p7 eu u (.own r2 sz2) H (n+2),aS5 t1.2 rest with
    | some a,some l,some b,some c=>some ((a,c),l,b)
    | _,_,_,_=>none
   | _=>none
   else none
  | none=>none
  else none
 | _=>none
def aIO(e:TypeId)(t:Ty)(H:Heap)(n:Nat):Option (List (List t.den)):=match dY H n with
 | some k=>match k.tag with
  | some g=>match qM g.t (.rows t) g.l with
   | some l=>bif Nat.beq k.ty e&&!k.grown&&!k.frozen then some l else none
   | none=>none
  | none=>none
 | none=>none
def aG3(t:Ty):PV->Option t.den
 | .agg cs=>dec t cs
 | _=>none
def aA1(t:Ty):PV->Option t.den
 | .iptr cs=>dec t cs
 | _=>none
def aSC:(ts:List Ty)->List PV->Option (AS ts)
 | [],[]=>some ()
 | t::r,p::ps=>match aA1 t p with
  | some x=>match aSC r ps with
   | some xs=>some (x,xs)
   | none=>none
  | none=>none
 | _,_=>none
def aN3(j:Nat):PV->Option Unit
 | .mp i=>bif Nat.beq i j then some () else none
 | _=>none
def aHQ(g:FuncId):PV->Option Unit
 | .lit (.func (.func f) first caps)=>bif Nat.beq f g&&Nat.beq first.size 0&&Nat.beq caps.size 0 then some () else none
 | _=>none
def aE2:PV->Option Unit
 | .lit (.slice none o c)=>bif Nat.beq o 0&&Nat.beq c 0 then some () else none
 | _=>none
def aGY:PV->Option Value
 | .lit v=>some v
 | _=>none
def Y8:PV->Option Unit
 | .lit .nilIface=>some ()
 | _=>none
theorem N3 {p x}(h:aGY p=some x):p=.lit x:=by
 unfold aGY at h;grind
theorem J3 {p x}(h:Y8 p=some x):p=.lit .nilIface:=by
 unfold Y8 at h;grind
def Y2(g:FuncId) ts:PV->Option (AS ts)
 | .clo (.func f) [] caps=>bif Nat.beq f g then aSC ts caps else none
 | _=>none
def aE3(j sz:Nat):PV->Option (Nat×Nat)
 | .win r lo n s=>bif Nat.beq r j&&Nat.beq s sz then some (lo,n) else none
 | _=>none
def NN:(k:Kd)->PV->Heap->Nat->Option k.den
 | .int k,p,_,_=>Z8 k [p]
 | .bool,p,_,_=>SE [p]
 | .str,p,_,_=>aAB [p]
 | .list t,p,_,_=>dec (.list t) [p]
 | .agg t,p,_,_=>aG3 t p
 | .own e t,p,H,n=>p7 e t p H n
 | .box e t,p,H,n=>VI e t p H n
 | .ptr t,p,_,_=>aA1 t p
 | .fn g,p,_,_=>aHQ g p
 | .nil0,p,_,_=>aE2 p
 | .val,p,_,_=>aGY p
 | .nilI,p,_,_=>Y8 p
 | .clo g ts,p,_,_=>Y2 g ts p
 | .win j sz,p,_,_=>aE3 j sz p
 | .bown e et t,p,H,n=>NA e et t p H n
 | .bque e et t,p,H,n=>NP e et t p H n
 | .bag e t1 et t t2,p,H,n=>VL e t1 et t t2 p H n
 | .bag2 e t1 et t eu u,p,H,n=>NY e t1 et t eu u p H n
 | .hnd sz,p,_,_=>aAW sz [p]
 | .mpk j,p,_,_=>aN3 j p
 | .ar e t,_,H,n=>aIO e t H n
def aMQ:(sh:List (Nat×Kd))->Frm->Heap->Nat->Option (Shape.den sh)
 | [],_,_,_=>some ()
 | (t,k)::r,F,H,n=>match NN k (bB F t) H n with
  | some x=>match aMQ r F H (n+k.pos)with
   | some xs=>some (x,xs)
   | none=>none
  | none=>none
def VN:List (Nat×Kd)->List (Nat×TypeId×Option Ty)
 | []=>[]
 | (t,.own e ty)::r=>(t,e,some ty)::VN r
 | (t,.box e _)::r=>(t,e,none)::VN r
 | (t,.ar e ty)::r=>(t,e,some (.rows ty))::VN r
 | _::r=>VN r
def slotsOf:List (Nat×Kd)->List Nat
 | []=>[]
 | (t,_)::r=>t::slotsOf r
def WL:List (Nat×Kd)->Nat
 | []=>0
 | (_,k)::r=>k.pos+WL r
def aNK(e:TypeId) (ty:Ty) (H:Heap):PV->Option (PV×Heap)
 | .win s lo n sz=>bif Nat.beq lo 0&&Nat.beq sz ty.size then match p7 e ty (.own s sz) H s with
   | some l=>some (.own H.length sz,(H.set s none)++[some ⟨aD ty (l.take n),e,true,false,some ⟨ty,l.take n⟩⟩])
   | none=>none
  else none
 | _=>none
def pD:List (Nat×Kd)->Frm->Heap->Frm×Heap
 | [],F,H=>(F,H)
 | (t,.list _)::r,F,H=>match bB F t with
  | .own s _=>match dY H s with
   | some k=>match k.tag with
    | some g=>bif k.frozen then pD r ((t,kD g.t g.l none)::F) H else pD r ((t,kD g.t g.l none)::F) (H.set s (some { k with frozen:=true }))
    | none=>pD r F H
   | none=>pD r F H
  | _=>pD r F H
 | (t,.hnd sz)::r,F,H=>match bB F t with
  | .own s sz2=>bif Nat.beq sz2 sz then match aAJ H sz s with
   | some (q,H1)=>pD r ((t,q)::F) H1
   | none=>pD r F H
   else pD r F H
  | _=>pD r F H
 | (t,.own e ty)::r,F,H=>match aNK e ty H (bB F t)with
  | some (q,H1)=>pD r ((t,q)::F) H1
  | none=>pD r F H
 | _::r,F,H=>pD r F H
def B2(sh:List (Nat×Kd)) (F:Frm) (H:Heap):Option (Shape.den sh) :=
 match pD sh F H with
 | (F1,H1)=>match tidy ⟨slotsOf sh,VN sh,0⟩ F1 H1 with
  | some (F',H')=>bif Nat.beq H'.length (WL sh) then aMQ sh F' H' 0 else none
  | none=>none
section
variable {P:Program} {n0:Nat->Prop} {w wi:World} {G Gi:Gd} {μ μi μ':Mp} {H:Heap} {F:Frm} {a:Act} {nt:Nat}
theorem fS(hW:aM n0 G μ H w){e t p n l}(h:p7 e t p H n=some l):p=.own n t.size/\H[n]?=some (some ⟨aD t l,e,true,false,some ⟨t,l⟩⟩):=by
 unfold p7 at h;split at h
 ·rename_i s sz;replace h:=aG h;obtain⟨hb,h⟩:=h;simp only[oA]at hb;have h1:=oE hb.1;have h2:=oE hb.2;subst h1; subst h2;split at h
  ·rename_i k hk;split at h
   ·rename_i g hg;split at h
    ·rename_i l' hc;obtain⟨hb,h⟩:=aG h;simp only[oA]at hb;simp only[oJ]at h;subst h;have ht:=(hW.tags s k g (aE hk) hg).1;obtain⟨rfl,rfl⟩:=fY hc;rw[aE hk];obtain⟨k1,k2,k3,k4,k5⟩:=k
     simp_all
    ·cases h
   ·cases h
  ·cases h
 ·cases h
theorem V8(hW:aM n0 G μ H w){e et t p n l}(h:NA e et t p H n=some l) :
  p=.hptr n 0/\H[n]?=some (some ⟨[.own (n+1) t.size],e,false,false,none⟩)/\H[n+1]?=some (some ⟨aD t l,et,true,false,some ⟨t,l⟩⟩):=by
 unfold NA at h;split at h
 ·rename_i s off;replace h:=aG h;obtain⟨hb,h⟩:=h;simp only[oA]at hb;have h1:=oE hb.1;have h2:=oE hb.2;subst h1; subst h2;refine⟨rfl,?_⟩;split at h
  ·rename_i k hk;replace h:=aG h;obtain⟨hc,h⟩:=h;simp only[oA,Bool.not_eq_true']at hc;obtain⟨⟨⟨c1,c2⟩,c3⟩,c4⟩:=hc;split at h
   ·rename_i r sz hcs;obtain⟨h3,h4⟩:=fS hW h;cases h3;rw[aE hk];obtain⟨k1,k2,k3,k4,k5⟩:=k
    simp_all
   ·cases h
  ·cases h
 ·cases h
def aMG(k k':Blk):Prop:=k.tag=none/\k'.ty=k.ty/\k'.grown=k.grown/\k'.frozen=k.frozen/\k'.tag=none/\∀ (w:World) (G:Gd) (μ:Mp) (b o:Nat),aK w G μ b o k.cells->aK w G μ b o k'.cells/\k'.cells.length=k.cells.length
def aAH(a b:Option (Option Blk)):Prop:=a=b\/∃ k k',a=some (some k)/\b=some (some k')/\aMG k k'
theorem aM.aH9 (hW:aM n0 G μ H w){H'}(h:∀ r:Nat,aAH H[r]? H'[r]?):aM n0 G μ H' w:=by
 have key:∀ (r:Nat) (k':Blk),H'[r]?=some (some k')->∃ k,H[r]?=some (some k)/\(k=k'\/aMG k k')/\k'.frozen=k.frozen:=by
  intro r k' hr;rcases h r with h1|⟨k,k2,h1,h2,h3⟩
  ·grind
  ·rw[hr]at h2;cases h2;exact⟨k,h1,.inr h3,h3.2.2.2.1⟩
 refine⟨?_,?_,?_,hW.lt,?_,hW.base,hW.rows.step (Mono.refl _ _ _) (oM _) (λ_=>rfl) (λj b hj=>⟨rfl,id,λr k' hr hf hl=>?_⟩) (λr k' t l hr hg ht=>?_)⟩
 case refine_5 =>
  grind
 case refine_6 =>
  obtain⟨k,h1,h2,h3⟩:=key r k' hr;rcases h2 with rfl|⟨_,_,_,_,e4,_⟩
  ·grind
  ·grind
 ·intro r k' b hr hb;obtain⟨k,h1,h2,h3⟩:=key r k' hr;obtain⟨c,a1,a2,a3,a4⟩:=hW.blk r k b h1 hb;rcases h2 with rfl|⟨_,e1,e2,e3,_,e5⟩
  ·grind
  ·grind
 ·intro r k' g hr hg;obtain⟨k,h1,h2,_⟩:=key r k' hr;rcases h2 with rfl|⟨_,_,_,_,e4,_⟩
  ·exact hW.tags r k g h1 hg
  ·grind
 ·intro r s k l b hr hs fk fl m1 m2;obtain⟨k1,h1,_,h3⟩:=key r k hr;obtain⟨l1,h4,_,h6⟩:=key s l hs;exact hW.inj r s k1 l1 b h1 h4 (by rw[<- h3]; exact fk) (by rw[<- h6]; exact fl) m1 m2
 ·intro r hr;refine hW.top r ?_;rcases oG r H.length with hl|hl
  ·rcases h r with h1|⟨k,k',_,h2,_⟩
   ·grind
   ·grind
  ·exact hl
theorem WC(hW:aM n0 G μ H w){e et t p n l}(h:NP e et t p H n=some l) :
  p=.hptr n 0/\aAH H[n]? (some (some ⟨[.qs (n+1) t.size],e,false,false,none⟩))/\H[n+1]?=some (some ⟨aD t l,et,true,false,some ⟨t,l⟩⟩):=by
 unfold NP at h;split at h
 ·replace h:=aG h;obtain⟨hb,h⟩:=h;simp only[oA]at hb;have h1:=oE hb.1;have h2:=oE hb.2;subst h1; subst h2;refine⟨rfl,?_⟩;split at h
  ·rename_i k hk;replace h:=aG h;obtain⟨hc,h⟩:=h;simp only[oA,Bool.not_eq_true']at hc;obtain⟨⟨⟨c1,c2⟩,c3⟩,c4⟩:=hc;have c1:=oE c1;split at h
   ·rename_i r sz hcs;obtain⟨_,h⟩:=aG h;obtain⟨h3,h4⟩:=fS hW h;cases h3;refine⟨.inr ⟨k,_,aE hk,rfl,by simpa using c4,c1.symm,c2.symm,c3.symm,rfl,?_⟩,h4⟩;intro w G μ b o hc;rw[hcs]at hc ⊢;obtain⟨⟨v,u1,u2⟩,_⟩:=hc;refine⟨?_,rfl⟩;exact⟨⟨v,u1,aGN u2⟩,trivial⟩
   ·rename_i r sz hcs;obtain⟨_,h⟩:=aG h;obtain⟨h3,h4⟩:=fS hW h;cases h3;refine⟨?_,h4⟩;rw[aE hk];obtain⟨k1,k2,k3,k4,k5⟩:=k;dsimp only at c1 c2 c3 c4 hcs;rw[hcs,c1,c2,c3];cases k5 with
    | none=>exact .inl rfl
    | some g=>simp at c4
   ·cases h
  ·cases h
 ·cases h
theorem aAZ {e t p n x}(h:VI e t p H n=some x):p=.hptr n 0/\aAH H[n]? (some (some ⟨enc t x,e,false,false,none⟩)):=by
 unfold VI at h;split at h
 ·replace h:=aG h;obtain⟨hb,h⟩:=h;simp only[oA]at hb;have h1:=oE hb.1;have h2:=oE hb.2;subst h1; subst h2;refine⟨rfl,?_⟩;split at h
  ·rename_i k hk;obtain⟨hc,h⟩:=aG h;simp only[oA,Bool.not_eq_true']at hc;obtain⟨⟨⟨c1,c2⟩,c3⟩,c4⟩:=hc;have c1:=oE c1;refine .inr ⟨k,_,aE hk,rfl,by simp_all,c1.symm,c2.symm,c3.symm,rfl,?_⟩;intro w G μ b o hc;obtain⟨vs,d1,d2⟩:=hc.values;have d3:=lR t μ k.cells x vs h d1;exact⟨aK.gD d3.aP d2,by rw[d3.length,d1.length]⟩
  grind
 grind
theorem aHO t μ cs x vs (h:aS5 t cs=some x)(hv:VRs w G μ cs vs):VRs w G aF (aHB t x) vs:=by
 cases t with
 | none =>
  cases cs with
  | nil=>exact hv
  | cons p ps=>cases h
 | some t=>exact lR t μ cs x vs h hv
theorem aAL(hW:aM n0 G μ H w){e t1 et t t2 p n x}(h:VL e t1 et t t2 p H n=some x) :
  p=.hptr n 0/\aAH H[n]? (some (some ⟨enc t1 x.1++.own (n+1) t.size::aHB t2 x.2.2,e,false,false,none⟩))/\H[n+1]?=some (some ⟨aD t x.2.1,et,true,false,some ⟨t,x.2.1⟩⟩):=by
 unfold VL at h;split at h
 ·rename_i s off;replace h:=aG h;obtain⟨hb,h⟩:=h;simp only[oA]at hb;have h1:=oE hb.1;have h2:=oE hb.2;subst h1; subst h2;refine⟨rfl,?_⟩;split at h
  ·rename_i k hk;obtain⟨hc,h⟩:=aG h;simp only[oA,Bool.not_eq_true']at hc;obtain⟨⟨⟨c1,c2⟩,c3⟩,c4⟩:=hc;have c1:=oE c1;split at h
   ·rename_i r sz rest hd;split at h
    ·rename_i xa xl xb ha hl hbb;simp only[oJ]at h;subst h;obtain⟨h3,h4⟩:=fS hW hl;cases h3;refine⟨.inr ⟨k,_,aE hk,rfl,by simpa using c4,c1.symm,c2.symm,c3.symm,rfl,?_⟩,h4⟩;intro w G μ b o hc;obtain⟨vs,d1,d2⟩:=hc.values;have d3:=d1.take t1.size;have d4:=d1.drop t1.size;rw[hd,VRs]at d4;obtain⟨v,vc,e1,d5,d6⟩:=d4;have d7:=lR t1 μ _ xa _ ha d3;have d8:=aHO t2 μ _ xb vc hbb d6;have d9:VRs w G μ (enc t1 xa++.own (s+1) t.size::aHB t2 xb) (vs.take t1.size++v::vc):=VRs.append d7.aP (by rw[VRs]; exact⟨v,vc,rfl,d5,d8.aP⟩)
     rw[<- e1,List.take_append_drop]at d9;exact⟨aK.gD d9 d2,by rw[d9.length,d1.length]⟩
    ·cases h
   ·cases h
  ·cases h
 ·cases h
theorem WE(hW:aM n0 G μ H w){e t1 et t eu u p n x}(h:NY e t1 et t eu u p H n=some x) :
  p=.hptr n 0/\aAH H[n]? (some (some ⟨enc t1.1 x.1.1++.own (n+1) t.size::.own (n+2) u.size::aHB t1.2 x.1.2,e,false,false,none⟩))/\H[n+1]?=some (some ⟨aD t x.2.1,et,true,false,some ⟨t,x.2.1⟩⟩)/\H[n+2]?=some (some ⟨aD u x.2.2,eu,true,false,some ⟨u,x.2.2⟩⟩):=by
 unfold NY at h;split at h
 ·rename_i s off;replace h:=aG h;obtain⟨hb,h⟩:=h;simp only[oA]at hb;have h1:=oE hb.1;have h2:=oE hb.2;subst h1; subst h2;refine⟨rfl,?_⟩;split at h
  ·rename_i k hk;obtain⟨hc,h⟩:=aG h;simp only[oA,Bool.not_eq_true']at hc;obtain⟨⟨⟨c1,c2⟩,c3⟩,c4⟩:=hc;have c1:=oE c1;split at h
   ·rename_i r sz r2 sz2 rest hd;split at h
    ·rename_i xa xl xb xc ha hl hbb hcc;simp only[oJ]at h;subst h;obtain⟨h3,h4⟩:=fS hW hl;cases h3;obtain⟨h5,h6⟩:=fS hW hbb;cases h5;refine⟨.inr ⟨k,_,aE hk,rfl,by simpa using c4,c1.symm,c2.symm,c3.symm,rfl,?_⟩,h4,h6⟩;intro w G μ b o hc;obtain⟨vs,d1,d2⟩:=hc.values;have d3:=d1.take t1.1.size;have d4:=d1.drop t1.1.size;rw[hd,VRs]at d4;obtain⟨v,vc,e1,d5,d6⟩:=d4;rw[VRs]at d6;obtain⟨v2,vc2,rfl,d10,d11⟩:=d6
     have d7:=lR t1.1 μ _ xa _ ha d3;have d8:=aHO t1.2 μ _ xc vc2 hcc d11;have d9:VRs w G μ (enc t1.1 xa++.own (s+1) t.size::.own (s+2) u.size::aHB t1.2 xc) (vs.take t1.1.size++v::v2::vc2):=VRs.append d7.aP (by rw[VRs]; exact⟨v,_,rfl,d5,by rw[VRs]; exact⟨v2,vc2,rfl,d10,d8.aP⟩⟩);rw[<- e1,List.take_append_drop]at d9;exact⟨aK.gD d9 d2,by rw[d9.length,d1.length]⟩
    ·cases h
   ·cases h
  ·cases h
 ·cases h
theorem aDI {g:Tg}{b l'}(h:qM g.t b g.l=some l'):g=⟨b,l'⟩:=by
 obtain⟨a,l⟩:=g;unfold qM at h;grind
theorem aCW(hW:aM n0 G μ H w){e t n l}(h:aIO e t H n=some l):H[n]?=some (some ⟨aD (.rows t) l,e,false,false,some ⟨.rows t,l⟩⟩):=by
 unfold aIO at h;split at h
 ·rename_i k hk;split at h
  ·rename_i g hg;split at h
   ·rename_i l' hc;obtain⟨hb,h⟩:=aG h;simp only[oA]at hb;simp only[oJ]at h;have hb3:=oE hb.1.1;have ht:=(hW.tags n k g (aE hk) hg).1;have hge:=aDI hc;rw[<- h,aE hk];obtain⟨k1,k2,k3,k4,k5⟩:=k;grind
   grind
  grind
 grind
theorem FO {t p x v}(h:aA1 t p=some x)(hv:VR w G μ p v):VR w G aF (.iptr (enc t x)) v:=by
 unfold aA1 at h;split at h
 ·rename_i cs;obtain⟨b,off,h1,h2,h3⟩:=hv;obtain⟨vs,d1,d2⟩:=h3.values;exact⟨b,off,h1,h2,aK.gD (lR t aF cs x vs h d1) d2⟩
 grind
theorem TK:∀ ts {ps x vs},aSC ts ps=some x->VRs w G μ ps vs->VRs w G aF (GQ ts x) vs
 | [],[],x,vs,h,hv=>by simp only[GQ]; exact hv
 | [],_::_,x,vs,h,hv=>by cases h
 | _::_,[],x,vs,h,hv=>by cases h
 | t::r,p::ps,x,vs,h,hv=>by
  simp only[aSC]at h;split at h
  ·rename_i y hy;split at h
   ·rename_i ys hys;simp only[oJ]at h;subst h;obtain⟨u,us,h1,h2,h3⟩:=hv;exact⟨u,us,h1,FO hy h2,TK r hys h3⟩
   grind
  grind
theorem MR {p x}(h:aE2 p=some x):p=.lit (.slice none 0 0):=by
 unfold aE2 at h;split at h
 ·rename_i o c;cases hb:(Nat.beq o 0&&Nat.beq c 0)with
  | false=>grind
  | true =>
   simp_all
 grind
theorem QD {j p x}(h:aN3 j p=some x):p=.mp j:=by
 unfold aN3 at h;split at h
 ·rw[oE (aG h).1]
 grind
theorem HV {g p x}(h:aHQ g p=some x):p=.lit (.func (.func g) #[] #[]):=by
 unfold aHQ at h;split at h
 ·replace h:=(aG h).1
  simp_all
 grind
theorem EN {g ts p x v}(h:Y2 g ts p=some x)(hv:VR w G μ p v):VR w G aF (.clo (.func g) [] (GQ ts x)) v:=by
 unfold Y2 at h;split at h
 ·have h1:=oE (aG h).1;have h2:=(aG h).2;subst h1;obtain⟨fs,cs,e1,e2,e3⟩:=hv;exact⟨fs,cs,e1,e2,TK ts h2 e3⟩
 grind
theorem NF {j sz p x}(h:aE3 j sz p=some x):p=.win j x.1 x.2 sz:=by
 unfold aE3 at h;split at h
 ·replace h:=aG h;obtain⟨hb,h⟩:=h;simp only[oA]at hb;have h1:=oE hb.1;have h2:=oE hb.2;grind
 grind
theorem aGS(hW:aM n0 G μ H w):∀ k {p n x v},NN k p H n=some x->VR w G μ p v->VR w G μ (qB k x n) v/\∀ i ,i<k.pos->aAH H[n+i]? (aT6 k x n)[i]?
 | .int k,p,n,x,v,h,hv=>by
  have:=H8 h;simp only[List.cons.injEq,and_true]at this;subst this;exact⟨hv,λi hi=>absurd hi (Nat.not_lt_zero _)⟩
 | .bool,p,n,x,v,h,hv=>by
  have:=FL h;simp only[List.cons.injEq,and_true]at this;subst this;exact⟨hv,λi hi=>absurd hi (Nat.not_lt_zero _)⟩
 | .str,p,n,x,v,h,hv=>by
  have:=HA h;simp only[List.cons.injEq,and_true]at this;subst this;exact⟨hv,λi hi=>absurd hi (Nat.not_lt_zero _)⟩
 | .list t,p,n,x,v,h,hv=>by
  have:=lR (.list t) μ [p] x [v] h (by rw[VRs]; exact⟨v,[],rfl,hv,by rw[VRs]⟩);refine⟨?_,λi hi=>absurd hi (Nat.not_lt_zero _)⟩;simp only[enc]at this;obtain⟨y,ys,h1,h2,_⟩:=this;cases h1;exact h2.aP
 | .agg t,p,n,x,v,h,hv=>by
  refine⟨?_,λi hi=>absurd hi (Nat.not_lt_zero _)⟩;simp only[NN]at h;unfold aG3 at h;split at h
  ·rename_i cs;rw[VR]at hv;obtain⟨vs,rfl,h2⟩:=hv;simp only[qB];rw[VR];exact⟨vs,rfl,(lR t μ cs x vs.toList h h2).aP⟩
  ·cases h
 | .own e t,p,n,x,v,h,hv=>by
  obtain⟨rfl,h2⟩:=fS hW h;refine⟨hv,λi hi=>?_⟩;simp only[Kd.pos]at hi;have:i=0:=by omega
  subst this;simp only[Nat.add_zero,h2];exact .inl rfl
 | .box e t,p,n,x,v,h,hv=>by
  obtain⟨rfl,h2⟩:=aAZ h;refine⟨hv,λi hi=>?_⟩;simp only[Kd.pos]at hi;have:i=0:=by omega
  subst this;exact h2
 | .ptr t,p,n,x,v,h,hv=>⟨(FO h hv).aP,λi hi=>absurd hi (Nat.not_lt_zero _)⟩
 | .fn g,p,n,x,v,h,hv=>by
  have:=HV h;subst this;exact⟨hv,λi hi=>absurd hi (Nat.not_lt_zero _)⟩
 | .mpk j,p,n,x,v,h,hv=>by
  have:=QD h;subst this;exact⟨hv,λi hi=>absurd hi (Nat.not_lt_zero _)⟩
 | .nil0,p,n,x,v,h,hv=>by
  have:=MR h;subst this;exact⟨hv,λi hi=>absurd hi (Nat.not_lt_zero _)⟩
 | .val,p,n,x,v,h,hv=>by
  have:=N3 (p:=p) (x:=x) h;subst this;exact⟨hv,λi hi=>absurd hi (Nat.not_lt_zero _)⟩
 | .nilI,p,n,x,v,h,hv=>by
  have:=J3 (p:=p) (x:=x) h;subst this;exact⟨hv,λi hi=>absurd hi (Nat.not_lt_zero _)⟩
 | .clo g ts,p,n,x,v,h,hv=>⟨(EN h hv).aP,λi hi=>absurd hi (Nat.not_lt_zero _)⟩
 | .win j sz,p,n,x,v,h,hv=>by
  have:=NF h;subst this;exact⟨hv,λi hi=>absurd hi (Nat.not_lt_zero _)⟩
 | .bown e et t,p,n,x,v,h,hv=>by
  obtain⟨rfl,h2,h3⟩:=V8 hW h;refine⟨hv,λi hi=>?_⟩;simp only[Kd.pos]at hi;rcases(show i=0\/i=1 by omega)with rfl|rfl
  ·simp only[Nat.add_zero,h2];exact .inl rfl
  ·simp only[h3];exact .inl rfl
 | .bque e et t,p,n,x,v,h,hv=>by
  obtain⟨rfl,h2,h3⟩:=WC hW h;refine⟨hv,λi hi=>?_⟩;simp only[Kd.pos]at hi;rcases(show i=0\/i=1 by omega)with rfl|rfl
  ·exact h2
  ·simp only[h3];exact .inl rfl
 | .bag e t1 et t t2,p,n,x,v,h,hv=>by
  obtain⟨rfl,h2,h3⟩:=aAL hW h;refine⟨hv,λi hi=>?_⟩;simp only[Kd.pos]at hi;rcases(show i=0\/i=1 by omega)with rfl|rfl
  ·exact h2
  ·simp only[h3];exact .inl rfl
 | .bag2 e t1 et t eu u,p,n,x,v,h,hv=>by
  obtain⟨rfl,h2,h3,h4⟩:=WE hW h;refine⟨hv,λi hi=>?_⟩;simp only[Kd.pos]at hi;rcases(show i=0\/i=1\/i=2 by omega)with rfl|rfl|rfl
  ·exact h2
  ·simp only[h3];exact .inl rfl
  ·simp only[h4];exact .inl rfl
 | .hnd sz,p,n,x,v,h,hv=>by
  refine⟨?_,λi hi=>absurd hi (Nat.not_lt_zero _)⟩;have:=ON (μ:=μ) (vs:=[v]) h (by rw[VRs]; exact⟨v,[],rfl,hv,by rw[VRs]⟩);rw[VRs]at this;obtain⟨y,ys,h1,h2,_⟩:=this;cases h1;exact h2.aP
 | .ar e t,p,n,x,v,h,hv=>by
  have h2:=aCW hW h;refine⟨by simp only[qB]; rw[VR]; trivial,λi hi=>?_⟩;simp only[Kd.pos]at hi;have:i=0:=by omega
  subst this;simp only[Nat.add_zero,h2];exact .inl rfl
theorem BV:∀ k x n,(aT6 k x n).length=k.pos
 | .int _,_,_|.bool,_,_|.str,_,_|.list _,_,_|.agg _,_,_|.ptr _,_,_|.fn _,_,_|.nil0,_,_|.val,_,_|.nilI,_,_|.clo _ _,_,_|.win _ _,_,_|.hnd _,_,_|.mpk _,_,_=>rfl
 | .ar _ _,_,_=>rfl
 | .own _ _,_,_=>rfl
 | .box _ _,_,_=>rfl
 | .bown _ _ _,_,_=>rfl
 | .bque _ _ _,_,_=>rfl
 | .bag _ _ _ _ _,_,_=>rfl
 | .bag2 _ _ _ _ _ _,_,_=>rfl
theorem MK:∀ sh x n,(WT sh x n).length=WL sh
 | [],_,_=>rfl
 | (_,k)::r,(x,xs),n=>by simp only[WT,oH,BV,MK r xs,WL]
theorem Q3 sh x:(vD sh x).length=WL sh:=MK sh x 0
theorem LD(hW:aM n0 G μ H w)(hF:∀ t,VR w G μ (bB F t) (a.tmps.getD t undef)):∀ sh {n x},aMQ sh F H n=some x->(∀ t,VR w G μ (bB (nZ sh x n) t) (a.tmps.getD t undef))/\∀ i ,i<WL sh->aAH H[n+i]? (WT sh x n)[i]?
 | [],n,x,h=>⟨λt=>by simp only[nZ,bB]; rw[VR]; trivial,λi hi=>absurd hi (Nat.not_lt_zero _)⟩
 | (t,k)::r,n,x,h=>by
  simp only[aMQ]at h;split at h
  ·rename_i y hy;split at h
   ·rename_i ys hys;simp only[oJ]at h;subst h;obtain⟨h1,h2⟩:=aGS hW k hy (hF t);obtain⟨h3,h4⟩:=LD hW hF r hys;refine⟨λs=>?_,λi hi=>?_⟩
    ·simp only[nZ];rw[cS];grind
    ·simp only[WT];rcases oG i k.pos with hl|hl
     ·rw[List.getElem?_append_left (by rw[BV]; exact hl)];grind
     ·rw[List.getElem?_append_right (by rw[BV]; exact hl),BV];have:=h4 (i-k.pos) (by simp only[WL]at hi; omega);grind
   ·cases h
  ·cases h
theorem aDV(hW:aM n0 G μ H w){e ty p q H1 v}(h:aNK e ty H p=some (q,H1))(hv:VR w G μ p v) :
  ∃ μ',Ext n0 w G μ w G μ'/\aM n0 G μ' H1 w/\VR w G μ' q v:=by
 unfold aNK at h;split at h
 ·rename_i r lo n sz;obtain⟨hb,hh⟩:(Nat.beq lo 0&&Nat.beq sz ty.size)=true/\(match p7 e ty (.own r sz) H r with
   | some l=>some (PV.own H.length sz,(H.set r none)++[some (⟨aD ty (l.take n),e,true,false,some ⟨ty,l.take n⟩⟩:Blk)])
   | none=>none)=some (q,H1):=by
   grind
  rw[oA]at hb;have h0:=oE hb.1;have h1:=oE hb.2;subst h0; subst h1;split at hh
  ·rename_i l hl;obtain⟨rfl,rfl⟩:=hh;obtain⟨_,hr⟩:=fS hW hl;obtain⟨b,c,m,a1,a2,a3,a4,a5,a6,_,a7⟩:=hv;have ht:=(hW.tags r _ _ hr rfl).2;rw[ht]at a5;cases a5;have hlen:(l.take n).length=n:=by rw[List.length_take]; change 0+n<=l.length at a6; omega
   have hk:=jJ hW r;have hl':(H.set r none).length=H.length:=by simp
   have e0:=rS hW (some b) (some n);have e2:Ext n0 w G μ w G (upd μ (H.set r none).length (some b) (some n)):=by rw[hl']; exact e0
   refine⟨_,e0,?_,?_⟩
   ·have:=tG hk e2 ⟨aD ty (l.take n),e,true,false,some ⟨ty,l.take n⟩⟩ (λ_ _ _ _ _=>rfl) ?_ ?_ ?_ (vJ hk e2 (λt l h1 h2=>by cases h1) (λ_ _ _=>rfl) (λj b1 hj hf hh=>by cases hh; exact(hW.rows.sep j b hj).2.2.2 r _ hr rfl a1))
    ·grind
    ·rintro b' hb';cases hb';obtain⟨c1,h2,h3,h4⟩:=hW.blk r _ b hr a1;rw[a7]at h3;refine⟨c1,h2,?_,λh=>(by cases h),λh=>(by cases h),h4.2.2⟩;have h5:=aK.mono e2.toMono rfl _ _ h3;refine aK.mk λi p hp=>?_
     rw[<- gV]at hp;have hi:i<(aD ty l).length/\(aD ty l)[i]?=some p:=by grind
     exact h5.get hi.2
    ·grind
    ·intro s k' b' hs hf hb' hh;cases hh;obtain⟨hs1,hs2⟩:=jU hs;exact hs2 (hW.inj s r k' _ b hs1 hr hf rfl hb' a1)
   ·rw[VR,mG];refine⟨n,gC _ _ _ _,.inr ⟨b,c,cW _ _ _ _,by rw[a2,a7,Nat.zero_mul],a3,?_,rfl⟩⟩;grind
  ·cases hh
 ·cases h
theorem pB:∀ sh F H,I n0 wi Gi μi nt F H a w->I n0 wi Gi μi nt (pD sh F H).1 (pD sh F H).2 a w
 | [],F,H,hI=>hI
 | (t,k0)::r,F,H,hI=>by
  have skip:I n0 wi Gi μi nt (pD r F H).1 (pD r F H).2 a w:=pB r F H hI;unfold pD;split
  ·exact hI
  ·rename_i heq;cases heq;split
   ·rename_i s sz ht;split
    ·rename_i k hk;split
     ·rename_i g hg;obtain⟨G,μ,e,hW,hF⟩:=hI;have hv:=hF.slot t;rw[ht]at hv;cases hfz:k.frozen with
      | true =>
       refine pB r _ _ ⟨G,μ,e,hW,hF.named ?_⟩;exact(rG hW hv hk hg (λb h=>h) (λb hb=>by
        obtain⟨_,_,_,_,h5,_⟩:=hW.blk s k b (aE hk) hb;exact h5 hfz)).aP
      | false =>
       obtain⟨e1,w1⟩:=qW hW (aE hk) hfz;refine pB r _ _ ⟨_,μ,e.trans e1,w1,(hF.mono e1.toMono).named ?_⟩;exact(rG (G':=G.or λx=>μ.loc s=some x) hW hv hk hg (λb h=>.inl h) (λb hb=>.inr hb)).aP
     ·grind
    ·grind
   ·grind
  ·rename_i heq;cases heq;split
   ·rename_i s sz2 ht;cases hsz:Nat.beq sz2 _ with
    | true =>
     have hsz:=oE hsz;subst hsz;split
     ·rename_i q H1 hA;obtain⟨G,μ,e,hW,hF⟩:=hI;have hv:=hF.slot t;rw[ht]at hv;obtain⟨G',μ',e1,w1,v1⟩:=L8 hW hA hv;exact pB r _ _ ⟨G',μ',e.trans e1,w1,(hF.mono e1.toMono).named v1.aP⟩
     ·grind
    | false=>exact skip
   ·grind
  ·rename_i heq;cases heq;split
   ·rename_i q H1 hA;obtain⟨G,μ,e,hW,hF⟩:=hI;have hv:=hF.slot t;obtain⟨μ',e1,w1,v1⟩:=aDV hW hA hv;exact pB r _ _ ⟨G,μ',e.trans e1,w1,(hF.mono e1.toMono).named v1⟩
   ·grind
  ·grind
theorem sE {sh x}(h:B2 sh F H=some x)(hfl:∀ r,μi.loc r=none/\μi.len r=none)(hI:I n0 wi Gi μi nt F H a w):I n0 wi Gi μi nt (nZ sh x 0) (vD sh x) a w:=by
 unfold B2 at h;replace hI:=pB sh F H hI;split at h;rename_i F1 H1 hd;rw[hd]at hI;split at h
 ·rename_i F' H' ht;obtain⟨hb,h⟩:=aG h;obtain⟨⟨G,μ,e,hW,hF⟩,_⟩:=aG9 ht (λr _=>hfl r) hI;obtain⟨h1,h2⟩:=LD hW hF.slot sh h;have hH:∀ i:Nat,aAH H'[i]? (vD sh x)[i]?:=by
   intro i;rcases oG i (WL sh)with hl|hl
   ·have:=h2 i hl;rwa[Nat.zero_add]at this
   ·have e1:=oE hb;exact .inl (by rw[List.getElem?_eq_none (by omega),List.getElem?_eq_none (by rw[Q3]; omega)])
  exact⟨G,μ,e,hW.aH9 hH,hF.size,h1,hF.defers⟩
 grind
end
def ask {α:Type}(b:Bool)(k:Bool->Option α):Option α:=bif b then k true else k false
def KQ {α:Type}:List Bool->Option α->Option α
 | [],r=>r
 | b::l,r=>bif b then KQ l r else none
def aB {τ α:Type}(x:Option τ)(k:τ->Option α):Option α:=match x with
 | some x=>k x
 | none=>none
def j8 {β γ α:Type}(z:β⊕γ)(f:β->Option α)(g:γ->Option α):Option α:=match z with
 | .inl a=>f a
 | .inr b=>g b
structure Res where
 τ:Type
 val:Option τ
 out:τ->PV
structure RK where
 τ:Type
 val:Option τ
 out:τ->PV×Heap
structure Env where
 pure:FuncId->List PV->Option Res
 shr:FuncId->List PV->Heap->Option RK
 sh:FuncId->Bool
def UA(E:Env)(g:FuncId)(args:List PV):Option PV:=match E.pure g args with
 | some r=>match r.val with
  | some x=>some (r.out x)
  | none=>none
 | none=>none
def TC(E:Env)(g:FuncId)(args:List PV)(H:Heap):Option (PV×Heap):=match E.shr g args H with
 | some r=>match r.val with
  | some x=>some (r.out x)
  | none=>none
 | none=>none
def cJ(P:Program)(E:Env):Callee:=callee P E.sh (UA E) (TC E)
section
variable {α:Type} (P:Program) (E:Env)
def aQT(g:FuncId)(args:List PV)(H:Heap)(k:PV->Heap->Nat->Option α):Option α :=
 bif E.sh g then match E.shr g args H with
  | some r=>aB r.val λx=>k (r.out x).1 (r.out x).2 2
  | none=>none
 else bif bU.noRefs args then bif cR.noRows args then match E.pure g args with
  | some r=>aB r.val λx=>k (r.out x) H 0
  | none=>none
  else none
 else bif SL P g then match FE (λp=>inl false H depth p) args with
  | some qs=>bif cR.noRows qs then match E.pure g qs with
   | some r=>aB r.val λx=>bif flat (r.out x) then k (r.out x) H 1 else none
   | none=>none
   else none
  | none=>none
 else match o7 H (args.flatMap (λp=>reach H depth p))with
  | H1=>match FE (λp=>inl true H1 depth p) args with
   | some qs=>bif cR.noRows qs then match E.pure g qs with
    | some r=>aB r.val λx=>k (r.out x) H1 2
    | none=>none
    else none
   | none=>none
def aOP:Frm->Nat->Bool->Frm
 | [],_,_=>[]
 | (s,p)::r,t,b=>bif Nat.beq s t then (s,.lit (.bool b))::r else (s,p)::aOP r t b
def aC3(F:Frm)(x:Operand)(b:Bool)(k:Frm->Bool->Option α):Option α:=match x with
 | .tmp t=>ask b λb=>k (aOP F t b) b
 | _=>ask b λb=>k F b
def YP(F:Frm)(l:List Oper)(o:Oper)(k:Frm->Bool->Option α):Option α :=
 match o.guard with
 | none=>k F true
 | some (j,want)=>match l[j]? with
  | some p=>match p.dst with
   | some t=>match bB F t with
    | .lit (.bool b)=>ask b λb=>k (aOP F t b) (bif b then want else !want)
    | .lit _=>k F false
    | _=>none
   | none=>none
  | none=>none
def aT9(op:BinOp)(k1:IntKind)(a b:Int)(k:Value->Option α):Option α:=match op with
 | .quo=>bif eqI b 0 then none else k (.int k1 (aH k1 (a.tdiv b)))
 | .rem=>bif eqI b 0 then none else k (.int k1 (a.tmod b))
 | op=>match aCZ op k1 a b with
  | some v=>k v
  | none=>none
def isX:BinOp->Bool
 | .add|.sub|.mul|.quo|.rem|.eql|.neq|.lss|.leq|.gtr|.geq=>true
 | _=>false
def YV:BinOp->Bool
 | .shl|.shr=>true
 | _=>false
def aGQ(op:BinOp)(k:IntKind)(x y:Int):Option Value:=match op with
 | .shl=>some (.int k (k.wrap (x*2^(min y.toNat k.bits))))
 | .shr=>some (.int k (x.fdiv (2^(min y.toNat k.bits))))
 | _=>none
def KZ(F:Frm)(H:Heap)(o:Oper)(k:Frm->PV->Heap->Nat->Option α):Option α:=match opu P (cJ P E) F H o with
 | some (v,H',c)=>k F v H' c
 | none=>none
def aN2(F:Frm) (x:Operand) (k:Frm->Option α):Option α:=match ev F x with
 | .lit (.bool b)=>aC3 F x b λF _=>k F
 | _=>k F
def aBJ:List Operand->Frm->(Frm->Option α)->Option α
 | [],F,k=>k F
 | x::r,F,k=>aN2 F x λF=>aBJ r F k
def opK(F:Frm)(H:Heap)(o:Oper)(k:Frm->PV->Heap->Nat->Option α):Option α :=
 bif typed P F o then match top P F H o with
  | some (cs,v,H',c)=>KQ cs (k F v H' c)
  | none=>none
 else match o.op with
  | .binOp op _ x y _=>match ev F x,ev F y with
   | .lit (.int k1 a),.lit (.int k2 b)=>bif YV op then (bif ltI b 0 then none else match aGQ op k1 a b with
     | some v=>k F (.lit v) H 0
     | none=>none)
    else bif xU k1 k2&&isX op then aT9 op k1 a b λv=>k F (.lit v) H 0 else KZ P E F H o k
   | _,_=>aBJ [x,y] F λF=>KZ P E F H o k
  | .unOp ..=>aBJ o.op.operands.toList F λF=>KZ P E F H o k
  | .pick c a b=>match ev F c with
   | .lit (.bool t)=>aC3 F c t λF t=>k F (bif t then ev F a else ev F b) H 0
   | _=>none
  | .call c=>match c.callee with
   | .value f=>match ev F f with
    | .lit (.func (.func g) first caps)=>aQT P E g (lits first++c.args.toList.map (ev F)++lits caps) H (k F)
    | .clo (.func g) first caps=>aQT P E g (first++c.args.toList.map (ev F)++caps) H (k F)
    | _=>none
   | _=>KZ P E F H o k
  | _=>KZ P E F H o k
def KK:Nat->Nat->Int->(Int->Option α)->Option α
 | 0,_,_,_=>none
 | n+1,j,v,f=>bif eqI v (j:Int) then f j else KK n (j+1) v f
def aUZ(t:TypeId):Option Nat:=match P.underlying t with
 | some (.array n _)=>some n
 | _=>none
def aTO:PV->Bool
 | .hptr _ _|.iptr _=>true
 | _=>false
def aWB:PV->Bool
 | .agg _=>true
 | _=>false
def xIdx(H:Heap) (t:TypeId) (p:PV) (i:Int):Option (PV×Heap×Nat):=match p,P.underlying t with
 | .agg cs,some (.array n e)=>match jX P e with
  | some sz=>bif aN i n then p0 H (qU P e (cs.drop (i.toNat*sz))) else none
  | none=>none
 | _,_=>none
def aUL(l:List Oper)(F:Frm)(H:Heap)(o:Oper)(k:Frm->PV->Heap->Nat->Option α):Option α:=match o.op with
 | .makeSlice t n c=>bif T8 l o.dst then (match C5 P H t (ev F n) (ev F c)with
   | some (cs,v,H',c')=>KQ cs (k F v H' c')
   | none=>none) else opK P E F H o k
 | .indexAddr t x i=>match aUZ P t,ev F i with
  | some n,.lit (.int _ v)=>bif WB (ev F x) then KK n 0 v (λj=>match k8 P H t (ev F x) j with
    | some (cs,p,H',c)=>KQ cs (k F p H' c)
    | none=>none) else bif aTO (ev F x) then KK n 0 v (λj=>match p0 H (FU P t (ev F x) j)with
    | some (p,H',c)=>k F p H' c
    | none=>none) else opK P E F H o k
  | _,_=>opK P E F H o k
 | .index t x i=>match aUZ P t,ev F i with
  | some n,.lit (.int _ v)=>bif aWB (ev F x) then KK n 0 v (λj=>match xIdx P H t (ev F x) j with
    | some (p,H',c)=>k F p H' c
    | none=>none) else opK P E F H o k
  | _,_=>opK P E F H o k
 | .slice t x lo hi none=>match ev F x with
  | .own r sz=>match PT H r,P.underlying t with
   | some g,some (.slice e)=>bif T0 g.t then (match jX P e with
    | some n=>bif Nat.beq n sz then ask (Nat.beq g.l.length 0) λz=>(match R2 g H r sz (lo.map (ev F)) (hi.map (ev F)) z with
      | some (cs,v,H',c)=>KQ cs (k F v H' c)
      | none=>none) else none
    | none=>none) else opK P E F H o k
   | _,_=>opK P E F H o k
  | _=>opK P E F H o k
 | _=>opK P E F H o k
def aIP(l:List Oper)(o:Oper)(F:Frm)(H:Heap)(k:Frm->PV->Heap->Nat->Option α):Option α :=
 YP F l o λF b=>bif b then (match mkData P F l o with
  | none=>aUL P E l F H o k
  | some none=>none
  | some (some (cs,v))=>KQ cs (k F v H 0)) else k F (.lit undef) H 0
def yW(nt:Nat)(l:List Oper):List Oper->Frm->Heap->(Frm->Heap->Option α)->Option α
 | [],F,H,k=>k F H
 | o::rest,F,H,k=>aIP P E l o F H λF v H' _=>match CN nt F o.dst v with
  | some F'=>yW nt l rest F' H' k
  | none=>none
def stK(nt:Nat)(m:Option Nat)(ms:List Nat)(l:List Oper):List Oper->Nat->Frm->Heap->aK4->(Frm->Heap->aK4->Option α)->Option α
 | [],_,F,H,hl,k=>k F H hl
 | o::rest,j,F,H,hl,k=>match wY m o j with
  | none=>aIP P E l o F H λF v H' c=>bif okT m (ms.getD j 0) j (aC6 F o) c v H' then (match CN nt F o.dst v with
   | some F'=>stK nt m ms l rest (j+1) F' H' (bif Nat.beq c 0 then hl else (j,c,aC6 F o)::hl) k
   | none=>none) else none
  | some q=>bif P5 o then (bif bU.noRefs (o.op.operands.toList.map (ev F))&&cR.noRows (o.op.operands.toList.map (ev F)) then aIP P E l o F [] λF v X _=>match XQ q v X H with
    | some (v,H',c)=>bif okT m (ms.getD j 0) j (some q) c v H' then (match CN nt F o.dst v with
     | some F'=>stK nt m ms l rest (j+1) F' H' (bif Nat.beq c 0 then hl else (j,c,some q)::hl) k
     | none=>none) else none
    | none=>none else none)
   else match stepT (some q) P (cJ P E) l o F H with
   | some (v,H',c)=>bif okT m (ms.getD j 0) j (some q) c v H' then (match CN nt F o.dst v with
    | some F'=>stK nt m ms l rest (j+1) F' H' ((j,2,some q)::hl) k
    | none=>none) else none
   | none=>none
def uB(nt:Nat)(ops:Array Oper)(draw:Bool)(F:Frm)(H:Heap)(k:Frm->Heap->Option α):Option α :=
 bif draw then (bif zU ops&&aBM (KT ops H) F H then stK P E nt (KT ops H) (fP ops) ops.toList ops.toList 0 F (aPH (KT ops H) ops.toList.length H) [] λF H hl=>bif KV (fP ops) hl then k F H else none else none)
 else yW P E nt ops.toList ops.toList F H k
end
section
variable {α:Type} {P:Program} {E:Env} {z:α}
theorem MX {b k}(h:ask b k=some z):k b=some z:=by cases b <;> exact h
theorem s9:∀ {l r},KQ l r=some z->mT l=true/\r=some z
 | [],r,h=>⟨rfl,h⟩
 | b::l,r,h=>by
  obtain⟨rfl,h⟩:=aG h;exact s9 (l:=l) h
theorem kZ {τ}{x:Option τ}{k}(h:aB x k=some z):∃ y,x=some y/\k y=some z:=by
 cases x with
 | none=>cases h
 | some y=>exact⟨y,rfl,h⟩
theorem X7 {g args H k}(h:aQT P E g args H k=some z):∃ v H' c,cJ P E g args H=some (v,H',c)/\k v H' c=some z:=by
 unfold aQT at h;unfold cJ callee;cases hsh:E.sh g with
 | true =>
  rw[hsh]at h;simp only[oC]at h ⊢;split at h
  ·rename_i r hr;obtain⟨x,h1,h2⟩:=kZ h;exact⟨_,_,_,by simp only[TC,hr,h1],h2⟩
  ·cases h
 | false =>
  rw[hsh]at h;simp only[oD]at h ⊢;cases hn:bU.noRefs args with
  | true =>
   rw[hn]at h;obtain⟨hnr,h⟩:=aG h;split at h
   ·rename_i r hr;obtain⟨x,h1,h2⟩:=kZ h;exact⟨_,_,_,by simp only[hnr,oC,UA,hr,h1],h2⟩
   ·cases h
  | false =>
   rw[hn]at h;simp only[oD]at h ⊢;cases hf:SL P g with
   | true =>
    rw[hf]at h;split at h
    ·rename_i qs hq;obtain⟨hnr,h⟩:=aG h;split at h
     ·rename_i r hr;obtain⟨x,h1,h2⟩:=kZ h;obtain⟨h3,h2⟩:=aG h2;exact⟨_,_,_,by simp only[hq,hnr,UA,hr,h1,h3,oC],h2⟩
     ·cases h
    ·cases h
   | false =>
    rw[hf]at h;simp only[oD]at h ⊢;split at h
    ·rename_i qs hq;obtain⟨hnr,h⟩:=aG h;split at h
     ·rename_i r hr;obtain⟨x,h1,h2⟩:=kZ h;exact⟨_,_,_,by simp only[hq,hnr,oC,UA,hr,h1],h2⟩
     ·cases h
    ·cases h
theorem aAP {t b}:∀ {F},bB F t=.lit (.bool b)->aOP F t b=F
 | [],_=>rfl
 | (s,p)::r,h=>by
  simp only[bB]at h;simp only[aOP];cases hs:Nat.beq s t with
  | true=>grind
  | false=>rw[hs]at h; simp only[oD]at h ⊢; rw[aAP h]
theorem zI {F x b k}(h:aC3 F x b k=some z)(hx:ev F x=.lit (.bool b)):k F b=some z:=by
 unfold aC3 at h;split at h
 ·have:=MX h;rwa[aAP (by simpa only[ev]using hx)]at this
 ·exact MX h
theorem P8 {F l o k}(h:YP F l o k=some z):∃ b,guardOf F l o=some b/\k F b=some z:=by
 unfold YP at h;unfold guardOf;cases hg:o.guard with
 | none=>grind
 | some g =>
  obtain⟨j,want⟩:=g;rw[hg]at h;simp only at h ⊢;cases hp:l[j]? with
  | none=>grind
  | some p =>
   rw[hp]at h;simp only at h ⊢;cases ht:p.dst with
   | none=>rw[ht]at h; cases h
   | some t =>
    rw[ht]at h;simp only at h ⊢;split at h
    ·rename_i b hb;have:=MX h;rw[aAP hb]at this;grind
    ·grind
    ·cases h
theorem aIR {op k1 a b k}(h:aT9 op k1 a b k=some z):∃ v,aCZ op k1 a b=some v/\k v=some z:=by
 unfold aT9 at h;split at h
 ·cases hb:eqI b 0 with
  | true=>grind
  | false=>rw[hb]at h; exact⟨_,by simp only[aCZ,hb,oD],h⟩
 ·cases hb:eqI b 0 with
  | true=>grind
  | false=>rw[hb]at h; exact⟨_,by simp only[aCZ,hb,oD],h⟩
 grind
theorem wF {F H o k}(h:KZ P E F H o k=some z):∃ v H' c,opu P (cJ P E) F H o=some (v,H',c)/\k F v H' c=some z:=by
 unfold KZ at h;grind
theorem aCC {F o op xt yt x y k1 k2 a b v}(ho:o.op=.binOp op xt x y yt)(hx:ev F x=.lit (.int k1 a))(hy:ev F y=.lit (.int k2 b))(hb:ltI b 0=false)(hv:aGQ op k1 a b=some v):kI P F o=some (.lit v):=by
 have hb:¬ b<0:=by rw[aI]at hb; grind
 have h1:valOf F x=.int k1 a:=by simp[valOf,hx,Q6]
 have h2:valOf F y=.int k2 b:=by simp[valOf,hy,Q6]
 have h3:CZ F o.op.operands.toList=true:=by simp[ho,Op.operands,CZ,hx,hy,Q6]
 have h4:BG o.op=false:=by simp[ho,BG]
 unfold kI;rw[h3,h4];cases op <;> simp only[aGQ]at hv <;> try (cases hv; done)
 all_goals
  simp only[oJ]at hv;subst hv;simp[execOp,ho,h1,h2,eqGuard,binOp,Op.shift,hb,AF,MC]
  try rfl
theorem aFK {F x k}(h:aN2 F x k=some z):k F=some z:=by
 unfold aN2 at h;split at h
 ·rename_i b hb; exact zI h hb
 grind
theorem GX:∀ {l:List Operand} {F:Frm} {k:Frm->Option α},aBJ l F k=some z->k F=some z
 | [],F,k,h=>h
 | x::r,F,k,h=>GX (l:=r) (aFK h)
theorem HP {F H o k}(h:opK P E F H o k=some z):∃ v H' c,opx P (cJ P E) F H o=some (v,H',c)/\k F v H' c=some z:=by
 unfold opK at h;unfold opx;cases ht:typed P F o with
 | true =>
  rw[ht]at h;split at h
  ·rename_i cs v H' c hc;obtain⟨h1,h2⟩:=s9 h;grind
  ·cases h
 | false =>
  rw[ht]at h;simp only[oD]at h ⊢;split at h
  ·rename_i op xt x y yt ho;split at h
   ·rename_i k1 a k2 b hx hy;cases hsh:YV op with
    | true =>
     rw[hsh]at h;cases hb:ltI b 0 with
     | true=>rw[hb]at h; cases h
     | false =>
      rw[hb]at h;split at h
      ·rename_i v hv;have hp:=aCC (P:=P) ho hx hy hb hv;have hxb:aCZ op k1 a b=none:=by cases op <;> simp only[YV]at hsh <;> first|rfl|(cases hsh; done)
       refine⟨_,_,_,?_,h⟩;simp only[opu,ho,hx,hy,hxb,hp,p0,Bool.cond_self]
      ·cases h
    | false =>
    rw[hsh]at h;simp only[oD]at h;cases hb:(xU k1 k2&&isX op)with
    | true =>
     rw[hb]at h;simp only[oC]at h;simp only[oA]at hb;obtain⟨v,h1,h2⟩:=aIR h;exact⟨_,_,_,by simp only[opu,ho,hx,hy,hb.1,oC,h1],h2⟩
    | false=>rw[hb]at h; exact wF h
   ·exact wF (GX h)
  ·exact wF (GX h)
  ·rename_i c a b ho;split at h
   ·rename_i t hc;exact⟨_,_,_,by simp only[opu,ho,hc],zI h hc⟩
   ·cases h
  ·rename_i c ho;split at h
   ·rename_i f hc;split at h
    ·rename_i g first caps hf;obtain⟨v,H',c',h1,h2⟩:=X7 h;exact⟨v,H',c',by simp only[opu,ho,hc,hf,h1],h2⟩
    ·rename_i g first caps hf;obtain⟨v,H',c',h1,h2⟩:=X7 h;exact⟨v,H',c',by simp only[opu,ho,hc,hf,h1],h2⟩
    ·cases h
   ·exact wF h
  ·exact wF h
theorem wK {f v}:∀ {n j},KK n j v f=some z->f v=some z
 | 0,_,h=>by cases h
 | n+1,j,h=>by
  unfold KK at h;cases hb:eqI v j with
  | true =>
   rw[hb]at h;rw[dE,decide_eq_true_eq]at hb;grind
  | false =>
   rw[hb]at h;exact wK h
theorem aR0 {p}(h:aTO p=true):isT p=false:=by cases p <;> first|rfl|cases h
theorem aKU {l F H o k}(h:aUL P E l F H o k=some z):∃ v H' c,opz P (cJ P E) l F H o=some (v,H',c)/\k F v H' c=some z:=by
 unfold aUL at h;split at h
 ·rename_i t n c ho;cases hb:T8 l o.dst with
  | false =>
   rw[hb]at h;obtain⟨v,H',c',h1,h2⟩:=HP h;exact⟨v,H',c',by simp only[opz,ho,hb,oD,h1],h2⟩
  | true =>
   rw[hb]at h;split at h
   ·rename_i cs v1 H1 k1 h1;obtain⟨h3,h4⟩:=s9 h;exact⟨_,_,_,by simp only[opz,ho,hb,oC,h1,h3],h4⟩
   ·cases h
 ·rename_i t x i ho;have plain:opK P E F H o k=some z->∃ v H' c,opz P (cJ P E) l F H o=some (v,H',c)/\k F v H' c=some z:=λh=>by
   obtain⟨v,H',c',h1,h2⟩:=HP h;exact⟨v,H',c',by simp only[opz,ho,h1],h2⟩
  split at h
  ·rename_i n k1 v hn hv;cases hb:WB (ev F x)with
   | false =>
    rw[hb]at h;cases hb2:aTO (ev F x)with
    | false=>rw[hb2]at h; exact plain h
    | true =>
     rw[hb2]at h;have h:=wK h;split at h
     ·rename_i p H1 c1 h1;refine⟨_,_,_,?_,h⟩;have ht:typed P F o=false:=by simp only[typed,ho,hb,aR0 hb2,Bool.or_false]
      simp only[opz,ho,opx,ht,oD,opu,hv,h1]
     ·cases h
   | true =>
    rw[hb]at h;have h:=wK h;split at h
    ·rename_i cs p H1 c1 h1;obtain⟨h3,h4⟩:=s9 h;refine⟨_,_,_,?_,h4⟩;have ht:typed P F o=true:=by simp only[typed,ho,hb,Bool.or_true]
     simp only[opz,ho,opx,ht,oC,top,hv,h1,h3]
    ·cases h
  ·grind
 ·rename_i t x i ho;have plain:opK P E F H o k=some z->∃ v H' c,opz P (cJ P E) l F H o=some (v,H',c)/\k F v H' c=some z:=λh=>by
   obtain⟨v,H',c',h1,h2⟩:=HP h;exact⟨v,H',c',by simp only[opz,ho,h1],h2⟩
  split at h
  ·rename_i n k1 v hn hv;cases hb:aWB (ev F x)with
   | false=>rw[hb]at h; exact plain h
   | true =>
    rw[hb]at h;simp only[oC]at h;have h:=wK h;split at h
    ·rename_i p H1 c1 h1;refine⟨_,_,_,?_,h⟩;obtain⟨cs,hcs⟩:∃ cs,ev F x=.agg cs:=by
      revert hb
      cases ev F x <;> intro hb <;> first|exact⟨_,rfl⟩|cases hb
     have ht:typed P F o=false:=by simp only[typed,ho,hcs,isS]
     simp only[opz,ho,opx,ht,oD,opu,hv,hcs];rw[hcs]at h1;unfold aUZ at hn;split at hn
     ·rename_i n1 e1 hu;unfold xIdx at h1;simp only[hu]at h1 ⊢;exact h1
     ·cases hn
    ·cases h
  ·exact plain h
 ·rename_i t x lo hi ho;have plain:opK P E F H o k=some z->∃ v H' c,opz P (cJ P E) l F H o=some (v,H',c)/\k F v H' c=some z:=λh=>by
   obtain⟨v,H',c',h1,h2⟩:=HP h;exact⟨v,H',c',by simp only[opz,ho,h1],h2⟩
  split at h
  ·rename_i r sz hx;split at h
   ·rename_i g e hg hu;cases hb:T0 g.t with
    | false=>rw[hb]at h; exact plain h
    | true =>
     rw[hb]at h;simp only[oC]at h;split at h
     ·rename_i n hn;obtain⟨hbn,h⟩:=aG h;replace h:=MX h;split at h
      ·rename_i cs v H1 c1 h1;obtain⟨h3,h4⟩:=s9 h;refine⟨_,_,_,?_,h4⟩;have ht:typed P F o=true:=by simp only[typed,ho,hx,isT,Bool.true_or]
       simp only[opz,ho,opx,ht,oC,top,hx,isS,isQ,oD,C1,hu,hn,hg,hbn,hb,Bool.true_and,h1,h3]
      ·cases h
     ·cases h
   ·exact plain h
  ·exact plain h
 ·rename_i hno hno2 hno3 hno4;obtain⟨v,H',c',h1,h2⟩:=HP h;refine⟨v,H',c',?_,h2⟩;unfold opz;split
  ·rename_i t n c ho;exact(hno t n c ho).elim
  ·exact h1
theorem LC {l F H o k}(h:aIP P E l o F H k=some z):∃ v H' c,mH P (cJ P E) l o F H=some (v,H',c)/\k F v H' c=some z:=by
 obtain⟨b,h1,h2⟩:=P8 h;unfold mH;cases b with
 | true =>
  simp only[h1];split at h2
  ·rename_i hm;simp only[hm];exact aKU h2
  ·grind
  ·obtain⟨h3,h4⟩:=s9 h2;grind
 | false=>grind
theorem mE {nt l k}:∀ {r F H},yW P E nt l r F H k=some z->∃ F' H',yB P (cJ P E) nt l r F H=some (F',H')/\k F' H'=some z
 | [],F,H,h=>⟨F,H,rfl,h⟩
 | o::r,F,H,h=>by
  obtain⟨v,H1,c,h1,h2⟩:=LC h;split at h2
  ·rename_i F1 hp;obtain⟨F',H',h3,h4⟩:=mE h2;refine⟨F',H',?_,h4⟩;simp only[yB,h1,HR,hp,sG,Bool.cond_self,h3]
  grind
theorem NG {nt m ms l F0 H0 k}:∀ {r j F H hl},stK P E nt m ms l r j F H hl k=some z->r=l.drop j->j<=l.length->JL P (cJ P E) nt m ms l F0 H0 j=some (F,H,hl)->∃ F' H' hl',JL P (cJ P E) nt m ms l F0 H0 l.length=some (F',H',hl')/\k F' H' hl'=some z
 | [],j,F,H,hl,h,hr,hjl,hs=>by
  have h1:(l.drop j).length=0:=by rw[<- hr]; rfl
  rw[List.length_drop]at h1;have h2:j=l.length:=by omega
  subst h2;exact⟨F,H,hl,hs,h⟩
 | o::r,j,F,H,hl,h,hr,hjl,hs=>by
  have hj:l[j]?=some o:=by
   have:(l.drop j)[0]?=some o:=by rw[<- hr]; rfl
   grind
  have hr':r=l.drop (j+1):=by
   have:(l.drop j).tail=r:=by rw[<- hr]; rfl
   simp_all
  simp only[stK]at h;split at h
  ·rename_i hres;obtain⟨v,H1,c,h1,h2⟩:=LC h;obtain⟨hok,h2⟩:=aG h2;split at h2
   ·rename_i F1 hp;refine NG h2 hr' (oO.1 hj).1 ?_;simp only[JL,hs,hj,hres,stepT,h1,hok,oC,HR,hp,sG,N5];grind
   ·cases h2
  ·rename_i q hres;cases hcall:P5 o with
   | true =>
    rw[hcall]at h;obtain⟨hnr,h⟩:=aG h;obtain⟨v0,X,c0,h1,h⟩:=LC h;split at h
    ·rename_i v H1 c hct;obtain⟨hok,h2⟩:=aG h;split at h2
     ·rename_i F1 hp;refine NG h2 hr' (oO.1 hj).1 ?_;have hop:∃ cc,o.op=.call cc:=by
       unfold P5 at hcall;split at hcall
       ·unfold OU at hcall;split at hcall
        ·rename_i cc hcc; exact⟨cc,hcc⟩
        ·cases hcall
       ·cases hcall
      obtain⟨cc,hop⟩:=hop;have hst:stepT (some q) P (cJ P E) l o F H=some (v,H1,c):=by
       simp only[stepT,hop];rw[<- hop,hnr,oC,h1];exact hct
      simp only[JL,hs,hj,hres,hst,hok,oC,HR,hp,sG,N5];cases Nat.beq c 0 <;> rfl
     ·cases h2
    ·cases h
   | false =>
   rw[hcall]at h;simp only[oD]at h;split at h
   ·rename_i v H1 c h1;obtain⟨hok,h2⟩:=aG h;split at h2
    ·rename_i F1 hp;refine NG h2 hr' (oO.1 hj).1 ?_;have hc:c=2:=by
      simp only[stepT]at h1;split at h1
      ·split at h1
       ·obtain⟨_,h1⟩:=aG h1;simp only[oJ,oP]at h1;exact h1.2.2.symm
       ·cases h1
      ·obtain⟨_,h1⟩:=aG h1;split at h1
       ·rcases AQ h1 with ⟨_,_,_,_,_,_,h1,_⟩|⟨_,_,_,_,_⟩
        ·exact h1
        ·obtain⟨_,_,_,ha⟩:=O4 hres;unfold IX at ha;rw[hcall,Bool.or_false]at ha;unfold isVar at ha;split at ha
         ·simp_all
         ·cases ha
       ·cases h1
      ·cases h1
     subst hc;simp only[JL,hs,hj,hres,h1,hok,oC,HR,hp,sG,N5];rfl
    ·cases h2
   ·cases h
theorem EL {nt ops F H k}(h:uB P E nt ops true F H k=some z):∃ F' H',I9 P (cJ P E) nt ops F H=some (F',H')/\k F' H'=some z:=by
 obtain⟨h1,h⟩:=aG h;obtain⟨F',H',hl,h2,h3⟩:=NG h (by rfl) (Nat.zero_le _) rfl;obtain⟨h4,h3⟩:=aG h3;exact⟨F',H',by simp only[I9,h1,oC,h2,h4],h3⟩
theorem JV {nt id ops draw F H k}(hcl:bN P (cJ P E))(hP:P.follows .mixedOrders=true)(h:uB P E nt ops draw F H k=some z) :
  ∃ F' H',k F' H'=some z/\∀ {n0 wi Gi μi a w Q},I n0 wi Gi μi nt F H a w->(∀ a' w',I n0 wi Gi μi nt F' H' a' w'->Q .normal a' w')->(Code.region id ops draw).wp P Q a w:=by
 cases draw with
 | true =>
  obtain⟨F',H',h2,h3⟩:=EL h;exact⟨F',H',h3,λhI hQ=>WD hcl hP h2 hI hQ⟩
 | false =>
  obtain⟨F',H',h2,h3⟩:=mE h;exact⟨F',H',h3,λhI hQ=>wp_region_list (rU hcl ops.toList F H _ _ h2 hI hQ)⟩
end
def GG {α:Type}(m:Nat):Frm->(Frm->α)->α
 | [],k=>k []
 | (t,p)::r,k=>bif QM m t then GG m r (λr=>k ((t,p)::r)) else GG m r k
theorem vO {α} m:∀ F (k:Frm->α),∃ F',GG m F k=k F'/\∀ t,bB F' t=bB F t\/bB F' t=.junk
 | [],k=>⟨[],rfl,λt=>.inl rfl⟩
 | (s,p)::r,k=>by
  simp only[GG];cases hs:QM m s with
  | true =>
   obtain⟨F',h1,h2⟩:=vO m r λr=>k ((s,p)::r)
   refine⟨(s,p)::F',h1,λt=>?_⟩;rw[cS,cS];grind
  | false =>
   have key:∀ (F:Frm) (k:Frm->α),∃ F',GG m F k=k F'/\∀ t,bB F' t=if QM m t then bB F t else .junk:=by
    intro F
    induction F with
    | nil=>intro k; exact⟨[],rfl,λt=>by simp[bB]⟩
    | cons x r ih =>
     intro k;obtain⟨s,p⟩:=x;simp only[GG];cases hs:QM m s with
     | true =>
      obtain⟨F',h1,h2⟩:=ih λr=>k ((s,p)::r)
      refine⟨(s,p)::F',h1,λt=>?_⟩;rw[cS,cS,h2 t];grind
     | false =>
      obtain⟨F',h1,h2⟩:=ih k;refine⟨F',h1,λt=>?_⟩;rw[cS,h2 t]
      by_cases hts:t=s
      ·subst hts; simp[hs]
      ·simp[hts]
   obtain⟨F',h1,h2⟩:=key r k;refine⟨F',h1,λt=>?_⟩;rw[cS,h2 t];grind
@[reducible] def eB:List (Ex×List (Nat×Kd))->Type
 | []=>Empty
 | [(_,s)]=>Shape.den s
 | (_,s)::b::r=>Shape.den s⊕eB (b::r)
structure bT where
 sh:List (Nat×Kd)
 exits:List (Ex×List (Nat×Kd))
 run:Shape.den sh->Option (eB exits)
def rP:(l:List (Ex×List (Nat×Kd)))->eB l->Ex×Frm×Heap
 | [],z=>Empty.elim z
 | [(e,s)],z=>(e,nZ s z 0,vD s z)
 | (e,s)::b::r,z=>match z with
  | .inl x=>(e,nZ s x 0,vD s x)
  | .inr y=>rP (b::r) y
def aGH {α}:(l:List (Ex×List (Nat×Kd)))->eB l->(Ex->Frm->Heap->Option α)->Option α
 | [],z,_=>Empty.elim z
 | [(e,s)],z,k=>k e (nZ s z 0) (vD s z)
 | (e,s)::b::r,z,k=>j8 z (λx=>k e (nZ s x 0) (vD s x)) (λy=>aGH (b::r) y k)
def aEH:Ex->Ex->Bool
 | .normal,.normal=>true
 | .exit i,.exit j=>Nat.beq i j
 | .ret,.ret=>true
 | _,_=>false
def LS:(l:List (Ex×List (Nat×Kd)))->Ex->Frm->Heap->Option (eB l)
 | [],_,_,_=>none
 | [(e,s)],ex,F,H=>bif aEH e ex then B2 s F H else none
 | (e,s)::b::r,ex,F,H=>bif aEH e ex then (match B2 s F H with|some x=>some (.inl x)|none=>none) else (match LS (b::r) ex F H with|some y=>some (.inr y)|none=>none)
section
variable {α:Type} (P:Program) (E:Env) (nt aU:Nat) (lt:Nat->Option bT)
def jO:Code->Frm->Heap->(Ex->Frm->Heap->Option α)->Option α
 | .skip,F,H,k=>k .normal F H
 | .label _,F,H,k=>k .normal F H
 | .region _ ops draw,F,H,k=>uB P E nt ops draw F H λF H=>GG aU F λF=>k .normal F H
 | .seq a b,F,H,k=>jO a F H λex F H=>match ex with
  | .normal=>jO b F H k
  | .exit i=>k (.exit i) F H
  | .ret=>k .ret F H
 | .cond c a b,F,H,k=>match ev F c with
  | .lit (.bool t)=>aC3 F c t λF t=>bif t then jO a F H k else jO b F H k
  | _=>none
 | .block id a,F,H,k=>jO a F H λex F H=>match ex with
  | .exit i=>bif Nat.beq i id then k .normal F H else k (.exit i) F H
  | .normal=>k .normal F H
  | .ret=>k .ret F H
 | .loop a,F,H,k=>match lt (aO a)with
  | some s=>match B2 s.sh F H with
   | some x=>aB (s.run x) λz=>aGH s.exits z k
   | none=>none
  | none=>none
 | .exit id,F,H,k=>k (.exit id) F H
 | .scope a,F,H,k=>jO a F H k
 | .ret,F,H,k=>k .ret F H
 | _,_,_,_=>none
def TG sh exits (ex:Ex)(F:Frm)(H:Heap):Option (Shape.den sh⊕eB exits):=match ex with
 | .normal=>match B2 sh F H with
  | some y=>some (.inl y)
  | none=>none
 | .exit i=>match LS exits (.exit i) F H with
  | some z=>some (.inr z)
  | none=>none
 | .ret=>match LS exits .ret F H with
  | some z=>some (.inr z)
  | none=>none
def nP(a:Code) (sh:List (Nat×Kd)) (exits:List (Ex×List (Nat×Kd))) (x:Shape.den sh):Option (Shape.den sh⊕eB exits) :=
 jO P E nt aU lt a (nZ sh x 0) (vD sh x) (TG sh exits)
end
def bF {σ τ:Type}(step:σ->Option (σ⊕τ)):Nat->σ->Option τ
 | 0,_=>none
 | n+1,x=>match step x with
  | some (.inl y)=>bF step n y
  | some (.inr z)=>some z
  | none=>none
def bI:Code->List Code
 | .seq a b=>bI a++bI b
 | .cond _ a b=>bI a++bI b
 | .block _ a=>bI a
 | .scope a=>bI a
 | .loop a=>[a]
 | _=>[]
section
variable {α:Type} {P:Program} {E:Env} {nt aU:Nat} {lt:Nat->Option bT}
def CU(P:Program) (nt:Nat) (c:Code) (F:Frm) (H:Heap) (r:Ex×Frm×Heap):Prop :=
 ∀ (n0:Nat->Prop) (wi:World) (Gi:Gd) (μi:Mp) (a:Act) (w:World),(∀ r,μi.loc r=none/\μi.len r=none)->I n0 wi Gi μi nt F H a w->aW6 P n0 wi Gi μi nt c a w r
def fJ(P:Program)(nt:Nat)(a:Code)(s:bT):Prop :=
 ∀ x z,s.run x=some z->CU P nt (.loop a) (nZ s.sh x 0) (vD s.sh x) (rP s.exits z)
theorem zH:∀ {l:List (Ex×List (Nat×Kd))} {z:eB l} {k:Ex->Frm->Heap->Option α} {y:α},aGH l z k=some y->k (rP l z).1 (rP l z).2.1 (rP l z).2.2=some y
 | [],z,_,_,_=>Empty.elim z
 | [(e,s)],z,k,y,h=>h
 | (e,s)::b::r,z,k,y,h=>by
  cases z with
  | inl x=>exact h
  | inr x=>exact zH (l:=b::r) (z:=x) h
theorem SH {a b}(h:aEH a b=true):a=b:=by cases a <;> cases b <;> simp only[aEH]at h <;> first|rfl|rfl|simp_all
theorem IA {n0 wi Gi μi}(hfl:∀ r,μi.loc r=none/\μi.len r=none){ex F H}:∀ {l z},LS l ex F H=some z ->
  (rP l z).1=ex/\∀ a w,I n0 wi Gi μi nt F H a w->I n0 wi Gi μi nt (rP l z).2.1 (rP l z).2.2 a w
 | [],z,_=>Empty.elim z
 | [(e,s)],z,h=>by
  obtain⟨hb,h⟩:=aG h;exact⟨SH hb,λa w hI=>sE h hfl hI⟩
 | (e,s)::b::r,z,h=>by
  simp only[LS]at h;cases hb:aEH e ex with
  | true =>
   rw[hb]at h;simp only[oC]at h;split at h
   ·rename_i x hx;simp only[oJ]at h;subst h;exact⟨SH hb,λa w hI=>sE hx hfl hI⟩
   ·cases h
  | false =>
   rw[hb]at h;simp only[oD]at h;split at h
   ·rename_i x hx;simp only[oJ]at h;subst h;exact IA hfl (z:=x) hx
   ·cases h
theorem fL(hcl:bN P (cJ P E))(hP:P.follows .mixedOrders=true):∀ c F H k (z:α),(∀ a∈bI c,∀ s,lt (aO a)=some s->fJ P nt a s) ->
  jO P E nt aU lt c F H k=some z->∃ r ,k r.1 r.2.1 r.2.2=some z/\CU P nt c F H r
 | .skip,F,H,k,z,hl,h=>⟨(.normal,F,H),h,λ_ _ _ _ _ _ _ hI=>wp_skip ⟨rfl,hI⟩⟩
 | .label l,F,H,k,z,hl,h=>⟨(.normal,F,H),h,λ_ _ _ _ _ _ _ hI=>wp_label ⟨rfl,hI⟩⟩
 | .region id ops draw,F,H,k,z,hl,h=>by
  simp only[jO]at h;obtain⟨F1,H1,h1,h2⟩:=JV (id:=id) hcl hP h;obtain⟨F2,h3,h4⟩:=vO aU F1 λF=>k .normal F H1
  rw[h3]at h1;exact⟨(.normal,F2,H1),h1,λ_ _ _ _ _ _ _ hI=>h2 hI λa' w' hI'=>⟨rfl,hI'.WG h4⟩⟩
 | .seq x y,F,H,k,z,hl,h=>by
  simp only[jO]at h;obtain⟨⟨ex,F1,H1⟩,h1,h2⟩:=fL hcl hP x F H _ z (λa ha=>hl a (by simp[bI,ha])) h;cases ex with
  | normal =>
   obtain⟨r,h3,h4⟩:=fL hcl hP y F1 H1 k z (λa ha=>hl a (by simp[bI,ha])) h1;refine⟨r,h3,λn0 wi Gi μi a w hfl hI=>wp_seq (wp_mono (h2 n0 wi Gi μi a w hfl hI) ?_)⟩;rintro e a' w' ⟨rfl,hI'⟩;exact h4 n0 wi Gi μi a' w' hfl hI'
  | exit i =>
   refine⟨(.exit i,F1,H1),h1,λn0 wi Gi μi a w hfl hI=>wp_seq (wp_mono (h2 n0 wi Gi μi a w hfl hI) ?_)⟩;rintro e a' w' ⟨rfl,hI'⟩;exact⟨rfl,hI'⟩
  | ret =>
   refine⟨(.ret,F1,H1),h1,λn0 wi Gi μi a w hfl hI=>wp_seq (wp_mono (h2 n0 wi Gi μi a w hfl hI) ?_)⟩;rintro e a' w' ⟨rfl,hI'⟩;exact⟨rfl,hI'⟩
 | .cond c x y,F,H,k,z,hl,h=>by
  simp only[jO]at h;split at h
  ·rename_i t ht;replace h:=zI h ht;have hc:∀ {n0 wi Gi μi a w},I n0 wi Gi μi nt F H a w->a.eval c=.bool t:=λhI=>by
    obtain⟨G,μ,e,hW,hF⟩:=hI;have hc:=aZ hF c;rwa[ht,VR]at hc
   cases t with
   | true =>
    obtain⟨r,h3,h4⟩:=fL hcl hP x F H k z (λa ha=>hl a (by simp[bI,ha])) h;exact⟨r,h3,λn0 wi Gi μi a w hfl hI=>wp_cond (hc hI) (h4 n0 wi Gi μi a w hfl hI)⟩
   | false =>
    obtain⟨r,h3,h4⟩:=fL hcl hP y F H k z (λa ha=>hl a (by simp[bI,ha])) h;exact⟨r,h3,λn0 wi Gi μi a w hfl hI=>wp_cond (hc hI) (h4 n0 wi Gi μi a w hfl hI)⟩
  ·cases h
 | .block id x,F,H,k,z,hl,h=>by
  simp only[jO]at h;obtain⟨⟨ex,F1,H1⟩,h1,h2⟩:=fL hcl hP x F H _ z (λa ha=>hl a (by simp[bI,ha])) h;cases ex with
  | normal =>
   refine⟨(.normal,F1,H1),h1,λn0 wi Gi μi a w hfl hI=>wp_block (wp_mono (h2 n0 wi Gi μi a w hfl hI) ?_)⟩;rintro e a' w' ⟨rfl,hI'⟩;exact⟨rfl,hI'⟩
  | ret =>
   refine⟨(.ret,F1,H1),h1,λn0 wi Gi μi a w hfl hI=>wp_block (wp_mono (h2 n0 wi Gi μi a w hfl hI) ?_)⟩;rintro e a' w' ⟨rfl,hI'⟩;exact⟨rfl,hI'⟩
  | exit i =>
   simp only at h1;cases hi:Nat.beq i id with
   | true =>
    rw[hi]at h1;have:=oE hi;subst this;refine⟨(.normal,F1,H1),h1,λn0 wi Gi μi a w hfl hI=>wp_block (wp_mono (h2 n0 wi Gi μi a w hfl hI) ?_)⟩;rintro e a' w' ⟨rfl,hI'⟩;simp only[Ex.to,Exit.inBlock,if_true];exact⟨trivial,hI'⟩
   | false =>
    rw[hi]at h1;have hne:¬ i=id:=λe=>by rw[e]at hi; simp at hi
    refine⟨(.exit i,F1,H1),h1,λn0 wi Gi μi a w hfl hI=>wp_block (wp_mono (h2 n0 wi Gi μi a w hfl hI) ?_)⟩;rintro e a' w' ⟨rfl,hI'⟩;simp only[Ex.to,Exit.inBlock,hne,if_false];exact⟨trivial,hI'⟩
 | .loop x,F,H,k,z,hl,h=>by
  simp only[jO]at h;split at h
  ·rename_i s hs;split at h
   ·rename_i x0 hx;obtain⟨y,h1,h2⟩:=kZ h;exact⟨rP s.exits y,zH h2,λn0 wi Gi μi a w hfl hI=>hl x (by simp[bI]) s hs x0 y h1 n0 wi Gi μi a w hfl (sE hx hfl hI)⟩
   ·cases h
  ·cases h
 | .exit id,F,H,k,z,hl,h=>⟨(.exit id,F,H),h,λ_ _ _ _ _ _ _ hI=>wp_exit ⟨rfl,hI⟩⟩
 | .scope x,F,H,k,z,hl,h=>by
  simp only[jO]at h;obtain⟨⟨ex,F1,H1⟩,h1,h2⟩:=fL hcl hP x F H _ z (λa ha=>hl a (by simp[bI,ha])) h;refine⟨(ex,F1,H1),h1,λn0 wi Gi μi a w hfl hI=>wp_scope_straight (wp_mono (h2 n0 wi Gi μi a w hfl hI) ?_)⟩;rintro e a' w' ⟨rfl,hI'⟩;cases ex <;> exact⟨rfl,hI'⟩
 | .ret,F,H,k,z,hl,h=>⟨(.ret,F,H),h,λ_ _ _ _ _ _ _ hI=>wp_ret ⟨rfl,hI⟩⟩
 | .rangeFunc ..,F,H,k,z,hl,h=>by simp only[jO]at h; cases h
 | .goto l,F,H,k,z,hl,h=>by simp only[jO]at h; cases h
 | .refuse s,F,H,k,z,hl,h=>by simp only[jO]at h; cases h
theorem kT(hcl:bN P (cJ P E)) (hP:P.follows .mixedOrders=true) {a:Code} {sh:List (Nat×Kd)} {exits:List (Ex×List (Nat×Kd))} {step:Shape.den sh->Option (Shape.den sh⊕eB exits)} (L:Nat)
  (hl:∀ b∈bI a,∀ s,lt (aO b)=some s->fJ P nt b s) (hr:∀ x,nP P E nt aU lt a sh exits x=step x):fJ P nt a ⟨sh,exits,bF step L⟩:=by
 intro x z hz n0 wi Gi μi act w hfl hI;refine wp_loop_ghost (λk a w=>∃ x,bF step k x=some z/\I n0 wi Gi μi nt (nZ sh x 0) (vD sh x) a w) L ⟨x,hz,hI⟩ ?_;rintro k act w ⟨x,hz,hI⟩;cases k with
 | zero=>cases hz
 | succ k =>
  simp only[bF]at hz;split at hz
  ·rename_i y hs;rw[<- hr]at hs;obtain⟨⟨ex,F',H'⟩,h1,h2⟩:=fL hcl hP a _ _ _ _ hl hs;refine wp_mono (h2 n0 wi Gi μi act w hfl hI) ?_;rintro e a' w' ⟨rfl,hI'⟩;cases ex with
   | normal =>
    simp only[TG]at h1;split at h1
    ·rename_i y' hy;simp only[oJ,Sum.inl.injEq]at h1;subst h1;exact⟨k,by omega,y',hz,sE hy hfl hI'⟩
    ·cases h1
   | exit i =>
    simp only[TG]at h1;split at h1
    ·simp at h1
    ·cases h1
   | ret =>
    simp only[TG]at h1;split at h1
    ·simp at h1
    ·cases h1
  ·rename_i y hs;simp only[oJ]at hz;subst hz;rw[<- hr]at hs;obtain⟨⟨ex,F',H'⟩,h1,h2⟩:=fL hcl hP a _ _ _ _ hl hs;refine wp_mono (h2 n0 wi Gi μi act w hfl hI) ?_;rintro e a' w' ⟨rfl,hI'⟩;cases ex with
   | normal =>
    simp only[TG]at h1;split at h1
    ·simp at h1
    ·cases h1
   | exit i =>
    simp only[TG]at h1;split at h1
    ·rename_i y' hy;simp only[oJ,Sum.inr.injEq]at h1;subst h1;obtain⟨h3,h4⟩:=IA (nt:=nt) (n0:=n0) (wi:=wi) (Gi:=Gi) hfl hy;have h5:=h4 a' w' hI';exact⟨by rw[h3],h5⟩
    ·cases h1
   | ret =>
    simp only[TG]at h1;split at h1
    ·rename_i y' hy;simp only[oJ,Sum.inr.injEq]at h1;subst h1;obtain⟨h3,h4⟩:=IA (nt:=nt) (n0:=n0) (wi:=wi) (Gi:=Gi) hfl hy;have h5:=h4 a' w' hI';exact⟨by rw[h3],h5⟩
    ·cases h1
  ·cases hz
end
@[reducible] def aL:List Kd->Type
 | []=>Unit
 | k::r=>k.den×aL r
def eX:(l:List Kd)->aL l->List PV
 | [],_=>[]
 | k::r,(x,xs)=>qB k x 0::eX r xs
def TX:(l:List Kd)->List PV->Option (aL l)
 | [],[]=>some ()
 | k::r,p::ps=>match NN k p [] 0 with
  | some x=>match TX r ps with
   | some xs=>some (x,xs)
   | none=>none
  | none=>none
 | _,_=>none
def ME:List Kd->Bool
 | []=>true
 | .own _ _::_|.box _ _::_|.win _ _::_|.bown _ _ _::_|.bque _ _ _::_|.bag _ _ _ _ _::_|.bag2 _ _ _ _ _ _::_|.ar _ _::_=>false
 | _::r=>ME r
def Kd.plain:Kd->Bool
 | .list t|.agg t|.ptr t=>t.plain
 | .clo _ ts=>ts.all Ty.plain
 | .hnd _=>false
 | .mpk _=>false
 | _=>true
theorem K3:∀ ts x,ts.all Ty.plain=true->cR.noRows (GQ ts x)=true
 | [],_,_=>rfl
 | t::r,(x,xs),h=>by
  simp only[List.all_cons,oA]at h;simp only[GQ,cR.noRows,oA];exact⟨tE t x h.1,K3 r xs h.2⟩
theorem aGF:∀ k x n,k.plain=true->cR (qB k x n)=true
 | .int _,_,_,_|.bool,_,_,_|.str,_,_,_|.own _ _,_,_,_|.box _ _,_,_,_|.fn _,_,_,_|.nil0,_,_,_|.val,_,_,_|.nilI,_,_,_|.win _ _,_,_,_|.bown _ _ _,_,_,_|.bque _ _ _,_,_,_|.bag _ _ _ _ _,_,_,_|.bag2 _ _ _ _ _ _,_,_,_|.ar _ _,_,_,_=>rfl
 | .hnd _,_,_,h=>by cases h
 | .mpk _,_,_,h=>by cases h
 | .list t,_,_,h=>h
 | .agg t,x,_,h=>tE t x h
 | .ptr t,x,_,h=>tE t x h
 | .clo _ ts,x,_,h=>by exact K3 ts x h
theorem SR:∀ ks x,ks.all Kd.plain=true->cR.noRows (eX ks x)=true
 | [],_,_=>rfl
 | k::r,(x,xs),h=>by
  simp only[List.all_cons,oA]at h;simp only[eX,cR.noRows,oA];exact⟨aGF k x 0 h.1,SR r xs h.2⟩
def VA(l:List Kd) (x:aL l):PV:=cG (eX l x)
def V5:(l:List Kd)->PV->Option (aL l)
 | [k],q=>match NN k q [] 0 with
  | some x=>some (x,())
  | none=>none
 | l,.tuple qs=>TX l qs
 | _,_=>none
section
variable {P:Program} {n0:Nat->Prop} {w wi:World} {G Gi:Gd} {μ μi μ':Mp} {H:Heap} {F:Frm} {a:Act} {nt:Nat}
theorem aE4 {e t p n}:p7 e t p [] n=none:=by
 unfold p7;split
 ·cases Nat.beq _ n&&Nat.beq _ t.size <;> rfl
 rfl
theorem aE9 {e t p n}:VI e t p [] n=none:=by
 unfold VI;split
 ·cases Nat.beq _ n&&Nat.beq _ 0 <;> rfl
 rfl
theorem aBS {e et t p n}:NA e et t p [] n=none:=by
 unfold NA;split
 ·cases Nat.beq _ n&&Nat.beq _ 0 <;> rfl
 rfl
theorem aBP {e et t p n}:NP e et t p [] n=none:=by
 unfold NP;split
 ·cases Nat.beq _ n&&Nat.beq _ 0 <;> rfl
 rfl
theorem aBO {e t1 et t eu u p n}:NY e t1 et t eu u p [] n=none:=by
 unfold NY;split
 ·rw[show dY [] n=none from by rfl];simp
 rfl
theorem aGI {e t1 et t t2 p n}:VL e t1 et t t2 p [] n=none:=by
 unfold VL;split
 ·cases Nat.beq _ n&&Nat.beq _ 0 <;> rfl
 rfl
theorem X5:∀ k {p x v},NN k p [] 0=some x->VR w G aF p v->VR w G aF (qB k x 0) v
 | .int k,p,x,v,h,hv=>by
  have:=H8 h;simp only[List.cons.injEq,and_true]at this;subst this;exact hv
 | .bool,p,x,v,h,hv=>by
  have:=FL h;simp only[List.cons.injEq,and_true]at this;subst this;exact hv
 | .str,p,x,v,h,hv=>by
  have:=HA h;simp only[List.cons.injEq,and_true]at this;subst this;exact hv
 | .list t,p,x,v,h,hv=>by
  have:=lR (.list t) aF [p] x [v] h (by rw[VRs]; exact⟨v,[],rfl,hv,by rw[VRs]⟩);simp only[enc]at this;obtain⟨y,ys,h1,h2,_⟩:=this;cases h1;exact h2
 | .agg t,p,x,v,h,hv=>by
  simp only[NN]at h;unfold aG3 at h;split at h
  ·rename_i cs;obtain⟨vs,rfl,h2⟩:=hv;simp only[qB];exact⟨vs,rfl,lR t aF cs x vs.toList h h2⟩
  ·cases h
 | .own e t,p,x,v,h,hv=>by
  simp only[NN,aE4]at h;cases h
 | .box e t,p,x,v,h,hv=>by
  simp only[NN,aE9]at h;cases h
 | .ptr t,p,x,v,h,hv=>FO h hv
 | .fn g,p,x,v,h,hv=>by
  have:=HV h;subst this;exact hv
 | .nil0,p,x,v,h,hv=>by
  have:=MR h;subst this;exact hv
 | .val,p,x,v,h,hv=>by
  have:=N3 (p:=p) (x:=x) h;subst this;exact hv
 | .nilI,p,x,v,h,hv=>by
  have:=J3 (p:=p) (x:=x) h;subst this;exact hv
 | .clo g ts,p,x,v,h,hv=>EN h hv
 | .win j sz,p,x,v,h,hv=>by
  have:=NF h;subst this;exact hv
 | .bown e et t,p,x,v,h,hv=>by
  simp only[NN,aBS]at h;cases h
 | .bque e et t,p,x,v,h,hv=>by
  simp only[NN,aBP]at h;cases h
 | .bag e t1 et t t2,p,x,v,h,hv=>by
  simp only[NN,aGI]at h;cases h
 | .bag2 e t1 et t eu u,p,x,v,h,hv=>by
  simp only[NN,aBO]at h;cases h
 | .mpk j,p,x,v,h,hv=>by
  have:=QD h;subst this;exact hv
 | .hnd sz,p,x,v,h,hv=>by
  have:=ON (μ:=aF) (vs:=[v]) h (by rw[VRs]; exact⟨v,[],rfl,hv,by rw[VRs]⟩);obtain⟨y,ys,h1,h2,_⟩:=this;cases h1;exact h2
 | .ar e t,p,x,v,h,hv=>by
  simp only[NN,aIO,PM.dY]at h;simp at h
theorem uK:∀ l {ps x vs},TX l ps=some x->VRs w G aF ps vs->VRs w G aF (eX l x) vs
 | [],[],x,vs,h,hv=>hv
 | [],_::_,x,vs,h,hv=>by cases h
 | _::_,[],x,vs,h,hv=>by cases h
 | k::r,p::ps,x,vs,h,hv=>by
  simp only[TX]at h;split at h
  ·rename_i y hy;split at h
   ·rename_i ys hys;simp only[oJ]at h;subst h;obtain⟨u,us,h1,h2,h3⟩:=hv;exact⟨u,us,h1,X5 k hy h2,uK r hys h3⟩
   grind
  grind
theorem BW {l q x v}(h:V5 l q=some x)(hv:VR w G aF q v):VR w G aF (VA l x) v:=by
 unfold V5 at h;split at h
 ·split at h
  ·rename_i k q y hy;simp only[oJ]at h;subst h;exact X5 _ hy hv
  grind
 ·obtain⟨vs,rfl,h2⟩:=hv;have h3:=uK _ h h2
  match l,x,h3 with
  | [],x,h3 =>
   exact⟨vs,rfl,h3⟩
  | [k],x,h3=>grind
  | k::k2::r,(x,y,z),h3 =>
   exact⟨vs,rfl,h3⟩
 grind
def wO(P:Program) (g:FuncId) (args rets:List Kd) (f:aL args->Option (aL rets)):Prop :=
 ∀ x y,f x=some y->wS P g (eX args x) (VA rets y)
def aH8(args rets:List Kd) (f:aL args->Option (aL rets)) (qs:List PV):Option Res:=match TX args qs with
 | some x=>some ⟨aL rets,f x,VA rets⟩
 | none=>none
theorem aMB {g args rets f}(hf:wO P g args rets f){qs r}(h:aH8 args rets f qs=some r):∀ y,r.val=some y->wS P g qs (r.out y):=by
 unfold aH8 at h;split at h
 ·rename_i x hx;simp only[oJ]at h;subst h;intro y hy w G vs hlt hv;exact hf x y hy w G vs hlt (uK args hx hv)
 grind
structure fC (P:Program) (E:Env):Prop where
 pure:∀ g qs r,E.pure g qs=some r->∀ y,r.val=some y->wS P g qs (r.out y)
 shr:∀ g args H r,E.shr g args H=some r->∀ y,r.val=some y->∀ {n0 G μ w vs},aM n0 G μ H w->VRs w G μ args vs->lN P n0 w G μ g vs.toArray (r.out y).1 (r.out y).2
theorem fC.callee {E}(h:fC P E):bN P (cJ P E):=by
 refine aJD ?_ ?_
 ·intro g args r hr;unfold UA at hr;split at hr
  ·rename_i s hs;split at hr
   ·rename_i x hx;simp only[oJ]at hr;subst hr;exact h.pure g args s hs x hx
   grind
  grind
 ·intro g args H r H' hr;unfold TC at hr;split at hr
  ·rename_i s hs;split at hr
   ·rename_i x hx;have hr:=oB hr;have h1:r=(s.out x).1:=by grind
    have h2:H'=(s.out x).2:=by grind
    subst h1; subst h2;intro n0 G μ w vs hW hv;exact h.shr g args H s hs x hx hW hv
   grind
  grind
def NV(P:Program) (rs:List ResultVar) (rets:List Kd) (ex:Ex) (F:Frm) (H:Heap):Option (aL rets):=match ex with
 | .exit _=>none
 | _=>match jF P F H rs with
  | some vs=>match ZJ H (cG vs)with
   | some q=>V5 rets q
   | none=>none
  | none=>none
def aL9(P:Program)(E:Env)(fn:Func)(aU:Nat)(lt:Nat->Option bT)(c:Code) args rets (x:aL args):Option (aL rets) :=
 bif Nat.ble (eX args x).length fn.ntmps then jO P E fn.ntmps aU lt c (start aU 0 (eX args x)) [] (NV P fn.results.toList rets) else none
theorem HO {E} (hP:tW P) (hE:fC P E) {g:Nat} {fn} (hg:P.funcs[g]?=some fn) {c} (hc:fn.body=some c) {aU lt args rets f}
  (hl:∀ a∈bI c,∀ s,lt (aO a)=some s->fJ P fn.ntmps a s) (hb:∀ x,aL9 P E fn aU lt c args rets x=f x):wO P g args rets f:=by
 intro x y hy;rw[<- hb]at hy;obtain⟨hlen,hy⟩:=aG hy;obtain⟨⟨ex,F',H'⟩,h1,h2⟩:=fL hE.callee hP.mixed c _ _ _ _ hl hy;obtain⟨vs,q,hex,hvs,hq,hd⟩:∃ vs q,(ex=.normal\/ex=.ret)/\jF P F' H' fn.results.toList=some vs/\ZJ H' (cG vs)=some q/\V5 rets q=some y:=by
  unfold NV at h1;split at h1
  ·cases h1
  ·rename_i hne;split at h1
   ·rename_i vs hvs;split at h1
    ·rename_i q hq;refine⟨vs,q,?_,hvs,hq,h1⟩;cases ex with
     | normal=>exact .inl rfl
     | ret=>exact .inr rfl
     | exit i=>exact absurd rfl (hne i)
    ·cases h1
   ·cases h1
 have hcall:∀ {n0 G μ w us},aM n0 G μ [] w->VRs w G μ (eX args x) us->lN P n0 w G μ g us.toArray (cG vs) H':=by
  intro n0 G μ w us hW hv;refine⟨enters hg (hP.names g fn hg) (by rw[hc]; rfl) _ _,calls_of_wp hg hc ?_⟩;have hI:I n0 w G μ fn.ntmps (start aU 0 (eX args x)) [] ⟨us.toArray++Array.replicate (fn.ntmps-us.toArray.size) undef,[]⟩ w:=⟨G,μ,Ext.refl _ _ _ _,hW,lB (by simpa using hv) (oL hlen)⟩;refine wp_mono (h2 n0 w G μ _ w (λr=>hW.top r (Nat.zero_le _)) hI) ?_;rintro e a' w' ⟨rfl,G',μ',e',hW',hF'⟩;obtain⟨ws,h3,h4⟩:=gH (P:=P) hW' hF' hvs
  have hres:(results fn a'.tmps).run P w'=.ok (if hh:ws.toArray.size=1 then ws.toArray[0] else .tuple ws.toArray) w':=by
   rw[mR,Array.mapM_eq_mapM_toList]
   simp_all
  have hpost:a'.defers=[]/\∃ v,(results fn a'.tmps).run P w'=.ok v w'/\(∃ v' G'' μ'',Ending.returned v=.returned v'/\Ext n0 w G μ w' G'' μ''/\aM n0 G'' μ'' H' w'/\VR w' G'' μ'' (cG vs) v') :=
   ⟨hF'.defers,_,hres,_,G',μ',rfl,e',hW',iH h4⟩
  rcases hex with rfl|rfl
  ·exact hpost
  ·exact hpost
 have hp:=uI hcall (pP hq).1 (pP hq).2;intro w G us hlt hv;obtain⟨h3,h4⟩:=hp w G us hlt hv;refine⟨h3,h4.mono ?_⟩;rintro e w' ⟨v',G',rfl,e1,e2,e3⟩;exact⟨v',G',rfl,e1,e2,BW hd e3⟩
end
open Go Go.RowKit Go.ChangeShapes Go.WideShapes Go.ChangeAt Go.Joins
def WF:(t:Ty)->t.den->Prop
 | .int k,x=>(Lit.int k x).wf=true
 | .bool,_=>True
 | .str,s=>s.size<=maxLen
 | .hnd _,_=>True
 | .rows _,_=>True
 | .smap,_=>True
 | .list t,l=>l.length<=maxLen/\∀ a∈l,WF t a
 | .prod a b,(x,y)=>WF a x/\WF b y
abbrev GW(w:World):Gd:=Gd.of λb=>b<w.heap.size
def OpT(P:Program) (t:TypeId) (T:Ty):Prop :=
 P.cellsOf t=T.size/\∀ (H:Type) (en:TypeId×Value->H) (w:World) (base:Nat) (spare:Nat->Bool) (held:Bool) (fuel:Nat) (cs:List Value) (x:DataW H×List MemPlace),
  DataW.trod en P w base spare held fuel t cs=some x->∃ a:T.den,VRs w (GW w) aF (enc T a) cs/\WF T a
section
variable {P:Program}
theorem aNT {w G p v}(h:VR w G aF p v):VRs w G aF [p] [v]:=by exact⟨v,[],rfl,h,by rfl⟩
theorem aIN {t k}(ht:P.underlying t=some (.int k))(hc:P.cellsOf t=1):OpT P t (.int k):=by
 refine⟨hc,λH en w base spare held fuel cs x h=>?_⟩;obtain⟨n,rfl,-,wf⟩:=DataW.trod_int ht h;exact⟨n,aNT (by rfl),wf⟩
theorem aMY {t}(ht:P.underlying t=some .bool)(hc:P.cellsOf t=1):OpT P t .bool:=by
 refine⟨hc,λH en w base spare held fuel cs x h=>?_⟩;obtain⟨n,rfl,-⟩:=DataW.trod_bool ht h;exact⟨n,aNT (by rfl),trivial⟩
def ZF(P:Program):List Field->Nat->Ty->Prop
 | [],_,_=>False
 | [f],off,T=>f.offset=off/\OpT P f.type T
 | f::g::r,off,.prod a b=>f.offset=off/\OpT P f.type a/\ZF P (g::r) (off+a.size) b
 | _::_::_,_,_=>False
theorem VF {w}:∀ fs off T (cs:List Value),ZF P fs off T->cs.length=off+T.size->(∀ f∈fs,∀ A ,OpT P f.type A->∃ a ,VRs w (GW w) aF (enc A a) ((cs.drop f.offset).take A.size)/\WF A a) ->
  ∃ a ,VRs w (GW w) aF (enc T a) (cs.drop off)/\WF T a
 | [],_,_,_,h,_,_=>h.elim
 | [f],off,T,cs,h,hl,hx=>by
  obtain⟨rfl,h2⟩:=h;obtain⟨a,h3,h4⟩:=hx f (by simp) T h2;rw[List.take_of_length_le (by grind)]at h3;grind
 | f::g::r,off,.prod A B,cs,h,hl,hx=>by
  obtain⟨rfl,h2,h3⟩:=h;obtain⟨a,h4,h5⟩:=hx f (by simp) A h2;obtain⟨b,h6,h7⟩:=VF (g::r) _ B cs h3 (by rw[hl,Ty.size]; omega) (λk hk=>hx k (List.mem_cons_of_mem _ hk));refine⟨(a,b),?_,h5,h7⟩;have:=VRs.append h4 h6;rw[<- List.drop_drop,List.take_append_drop]at this;exact this
 | _::_::_,_,.int _,_,h,_,_=>h.elim
 | _::_::_,_,.bool,_,h,_,_=>h.elim
 | _::_::_,_,.str,_,h,_,_=>h.elim
 | _::_::_,_,.list _,_,h,_,_=>h.elim
theorem aEW {t fs T}(ht:P.underlying t=some (.struct fs))(hc:P.cellsOf t=T.size)(hf:ZF P fs.toList 0 T):OpT P t T:=by
 refine⟨hc,λH en w base spare held fuel cs x h=>?_⟩;obtain⟨xs,n,-,-,hl,hx,hi⟩:=DataW.trod_struct ht h;obtain⟨a,h1,h2⟩:=VF fs.toList 0 T cs hf (by omega) (λf hf A hA=>by
  obtain⟨i,hi',rfl⟩:=List.getElem_of_mem hf;have hs :=by simpa using hi'
  have h3:=hi i fs[i] (by simp);rw[List.getElem?_eq_getElem (by omega)]at h3;have hA1:=hA.1;simp only[Array.getElem_toList]at hA1 hA ⊢;rw[hA1]at h3;exact hA.2 _ _ _ _ _ _ _ _ _ h3)
 grind
def Ty.arr (T:Ty):Nat->Ty
 | 0=>T
 | n+1=>.prod T (Ty.arr T n)
theorem aDC T:∀ n,(Ty.arr T n).size=(n+1)*T.size
 | 0=>by simp[Ty.arr]
 | n+1=>by simp only[Ty.arr,Ty.size,aDC T n]; grind
theorem aHH {w T}{cs:List Value}:∀ n i,cs.length=(i+n+1)*T.size->(∀ j,i<=j->j<i+n+1->∃ a ,VRs w (GW w) aF (enc T a) ((cs.drop (j*T.size)).take T.size)/\WF T a) ->
  ∃ a ,VRs w (GW w) aF (enc (Ty.arr T n) a) (cs.drop (i*T.size))/\WF (Ty.arr T n) a
 | 0,i,hl,hx=>by
  obtain⟨a,h3,h4⟩:=hx i (oM _) (by simp);rw[List.take_of_length_le (by grind)]at h3;exact⟨a,h3,h4⟩
 | n+1,i,hl,hx=>by
  obtain⟨a,h4,h5⟩:=hx i (oM _) (by omega);obtain⟨b,h6,h7⟩:=aHH n (i+1) (by grind) (λj h1 h2=>hx j (by omega) (by omega));refine⟨(a,b),?_,h5,h7⟩;have:=VRs.append h4 h6;rw[Nat.add_mul,Nat.one_mul,<- List.drop_drop,List.take_append_drop]at this;exact this
theorem W4 {t e n T}(ht:P.underlying t=some (.array (n+1) e))(hc:P.cellsOf t=(n+1)*T.size)(he:OpT P e T):OpT P t (Ty.arr T n):=by
 refine⟨by rw[hc,aDC],λH en w base spare held fuel cs x h=>?_⟩;obtain⟨xs,m,-,-,hl,hx,hi⟩:=DataW.trod_array ht h;rw[he.1]at hi;obtain⟨a,h1,h2⟩:=aHH (T:=T) (cs:=cs) n 0 (by grind) (λj _ h2=>by
  have h3:=hi j (by omega);rw[List.getElem?_eq_getElem (by omega)]at h3;exact he.2 _ _ _ _ _ _ _ _ _ h3)
 grind
def OpK(P:Program) (t:TypeId) (k:Kd) (W:k.den->Prop):Prop :=
 ∀ {H:Type} {en:TypeId×Value->H} {w:World} {base b0:Nat} {spare:Nat->Bool} {held:Bool} {r:Reach} {v:Value} {d:DataW H} {p:List MemPlace},
  Value.okWide P w r b0 t v->DataW.Trod en P w base spare held t v d p->∃ x:k.den,VR w (GW w) aF (qB k x 0) v/\W x
theorem aQR {t k}(ht:P.underlying t=some (.int k)):OpK P t (.int k) (WF (.int k)):=by
 intro H en w base b0 spare held r v d p hv h;obtain⟨n,rfl,-,-,wf⟩:=open_int ht hv h;exact⟨n,by rfl,wf⟩
theorem aRE {t T}(hs:∀ w r b0 v,Value.okWide P w r b0 t v->∃ cs,v=.agg cs)(he:OpT P t T):OpK P t (.agg T) (WF T):=by
 intro H en w base b0 spare held r v d p hv h;obtain⟨cs,rfl⟩:=hs _ _ _ _ hv;obtain⟨fuel,hf⟩:=h;obtain⟨l,h1,h2⟩:=he.2 _ _ _ _ _ _ _ _ _ hf;refine⟨l,?_,h2⟩;exact⟨cs,rfl,h1⟩
theorem aGZ {t fs T}(ht:P.underlying t=some (.struct fs))(he:OpT P t T):OpK P t (.agg T) (WF T) :=
 aRE (λw r b0 v h=>by obtain⟨cs,h1,-⟩:=okWide_struct ht h; grind) he
theorem aOL {g:FuncId} {args:List Kd} {f:aL args->Option (aL [.bool])} (hf:wO P g args [.bool] f) {x:aL args} (hx:f x=some (true,())) {w:World} (hT:Lt w λb=>b<w.heap.size) {vs:Array Value} (hv:VRs w (GW w) aF (eX args x) vs.toList) :
  Calls P g vs w λe w'=>e=.returned (.bool true)/\Below w.heap.size w w':=by
 obtain⟨-,h⟩:=hf x _ hx w (λb=>b<w.heap.size) vs hT hv;refine h.mono ?_;rintro e w' ⟨v',G',rfl,e1,-,e3⟩;refine⟨?_,e1.os,e1.tape,e1.output,e1.size,λb hb=>e1.old b hb (Nat.not_le.2 hb)⟩;have e3:VR w' (Gd.of G') aF (.lit (.bool true)) v':=e3;rw[VR]at e3;rw[e3]
theorem aCM {w G p v ps vs}(h:VR w G aF p v)(k:VRs w G aF ps vs):VRs w G aF (p::ps) (v::vs):=by rw[VRs]; grind
theorem aQS {w G}:VRs w G aF [] []:=by rfl
end
theorem X9 {H enc P}(hl:laidOutB P=true){W W'}(hb:Below W.heap.size W W') :
  ∀ ts vs (ds:List (DataW H)) ps,(∀ t∈ts,P.readableRec t=true/\t<P.types.size)->(∀ x∈ps,x.block<W.heap.size) ->
   DataW.TrodAll enc P W 0 (λ_=>true) true ts vs ds ps->DataW.TrodAll enc P W' 0 (λb=>decide (b<W.heap.size)) true ts vs ds ps
 | [],vs,ds,ps,_,_,h=>by
  unfold DataW.TrodAll at h ⊢;grind
 | t::ts,vs,ds,ps,ht,hlt,h=>by
  obtain⟨v,vs',d,ds',p,q,rfl,rfl,rfl,h1,h2⟩:=trodAll_cons h;exact⟨p,q,Below.trod hl (ht t (by simp)).1 (ht t (by simp)).2 h1 hb (λx hx=>hlt x (by grind)),X9 hl hb ts vs' ds' q (λt h=>ht t (by grind)) (λx hx=>hlt x (by grind)) h2,rfl⟩
theorem aB4 {P:Program} {ts:List TypeId} (h:(ts.all λt=>P.readableRec t&&decide (t<P.types.size))=true):∀ t∈ts,P.readableRec t=true/\t<P.types.size:=by
 intro t ht;have:=List.all_eq_true.1 h t ht;simpa using this
theorem aFU {H enc P f} {s:ChangeSpec} {W W' args ds p tb} (hl:laidOutB P=true)
  (hts:∀ t∈f.params.toList,P.readableRec t=true/\t<P.types.size) (hr:f.resultTypes=#[tb]) (htb:P.underlying tb=some .bool)
  (hf1:(s.fn H (ds++[])).results=[.lit (.bool true)]) (hf2:(s.fn H (ds++[])).args=ds) (hf3:(s.fn H (ds++[])).vars=[]) (hv:s.vars=[])
  (hW:DataW.Whole enc P f.params.toList s.vars false W args.toList ds [] p) (hb:Below W.heap.size W W') :
  ∃ v,Ending.returned (.bool true)=Ending.returned v/\s.post enc P f false true false false W args v W':=by
 have hW':=hW;obtain⟨q,q',hA,hV,rfl,-,-⟩:=hW;refine⟨_,rfl,ds,[],_,[],q,[],hW',?_,?_,?_,hb.frame _,λh=>by grind⟩
 ·rw[hf1,hr]; exact trodAll_mk1 (shut_bool htb true)
 ·rw[hf2]; exact X9 hl hb _ _ _ _ hts (λx hx=>hW'.lt x (by grind)) hA
 ·rw[hf3,hv]; rfl
end Go.PM
namespace Go.Proofs.YtfjcjchcmdhmnaaGreatDoor
theorem Tryz.own:ownKnob Tryz.prog.godebug=none:=by kernel_rfl
theorem Tryz.laidOut:laidOutB Tryz.prog=true:=by kernel_rfl
end Go.Proofs.YtfjcjchcmdhmnaaGreatDoor
