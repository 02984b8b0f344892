/- Texts of one proof, joined (5). -/
import Derived.ProofKit
import Derived.Lib.SmallJoins
import Derived.Test.YtbjdceodppagoaaGreatDoorRows
import Derived.LaidMore
import Derived.OpenShut
import Derived.Lib.LaidU8
import Derived.MakeChecks
import Derived.Test.YtbjdceodppagoaaGreatDoorTie
import Derived.Test.YtbjdceodppagoaaGreatDoorCards
import Derived.SevenTiedAt
import Derived.Test.YtbjdceodppagoaaGreatDoorProg
import Derived.KernelRfl
import Derived.Test.YtbjdceodppagoaaGreatDoorQT4
set_option linter.unusedSimpArgs false
set_option linter.unusedVariables false
set_option maxRecDepth 100000
noncomputable section
namespace Go.PM
open Go Go.RowKit
def ask {α:Type}(b:Bool)(k:Bool->Option α):Option α:=bif b then k true else k false
def aOP {α:Type}:List Bool->Option α->Option α
 | [],r=>r
 | b::l,r=>bif b then aOP l r else none
def aC {τ α:Type}(x:Option τ)(k:τ->Option α):Option α:=match x with
 | some x=>k x
 | none=>none
def iB {β γ α:Type}(z:β⊕γ)(f:β->Option α)(g:γ->Option α):Option α:=match z with
 | .inl a=>f a
 | .inr b=>g b
structure Res where
 τ:Type
 val:Option τ
 out:τ->PV
structure Q7 where
 τ:Type
 val:Option τ
 out:τ->PV×Heap
structure Env where
 pure:FuncId->List PV->Option Res
 shr:FuncId->List PV->Heap->Option Q7
 sh:FuncId->Bool
def L0(E:Env)(g:FuncId)(args:List PV):Option PV:=match E.pure g args with
 | some r=>match r.val with
  | some x=>some (r.out x)
  | none=>none
 | none=>none
def FA(E:Env)(g:FuncId)(args:List PV)(H:Heap):Option (PV×Heap):=match E.shr g args H with
 | some r=>match r.val with
  | some x=>some (r.out x)
  | none=>none
 | none=>none
def NM(P:Program)(E:Env):Callee:=callee P E.sh (L0 E) (FA E)
section
variable {α:Type} (P:Program) (E:Env)
def a5F(g:FuncId)(args:List PV)(H:Heap)(k:PV->Heap->Nat->Option α):Option α :=
 bif E.sh g then match E.shr g args H with
  | some r=>aC r.val λx=>k (r.out x).1 (r.out x).2 2
  | none=>none
 else bif iU.noRefs args then bif iM.noRows args then match E.pure g args with
  | some r=>aC r.val λx=>k (r.out x) H 0
  | none=>none
  else none
 else bif GV P g then match wC (λp=>inl false H depth p) args with
  | some qs=>bif iM.noRows qs then match E.pure g qs with
   | some r=>aC r.val λx=>bif flat (r.out x) then k (r.out x) H 1 else none
   | none=>none
   else none
  | none=>none
 else match rG H (args.flatMap (λp=>reach H depth p))with
  | H1=>match wC (λp=>inl true H1 depth p) args with
   | some qs=>bif iM.noRows qs then match E.pure g qs with
    | some r=>aC r.val λx=>k (r.out x) H1 2
    | none=>none
    else none
   | none=>none
def a3S:Frm->Nat->Bool->Frm
 | [],_,_=>[]
 | (s,p)::r,t,b=>bif Nat.beq s t then (s,.lit (.bool b))::r else (s,p)::a3S r t b
def a1U(F:Frm)(x:Operand)(b:Bool)(k:Frm->Bool->Option α):Option α:=match x with
 | .tmp t=>ask b λb=>k (a3S F t b) b
 | _=>ask b λb=>k F b
def aY7(F:Frm)(l:List Oper)(o:Oper)(k:Frm->Bool->Option α):Option α :=
 match o.guard with
 | none=>k F true
 | some (j,want)=>match l[j]? with
  | some p=>match p.dst with
   | some t=>match iL F t with
    | .lit (.bool b)=>ask b λb=>k (a3S F t b) (bif b then want else !want)
    | .lit _=>k F false
    | _=>none
   | none=>none
  | none=>none
def a6Z(op:BinOp)(k1:IntKind)(a b:Int)(k:Value->Option α):Option α:=match op with
 | .quo=>bif eqI b 0 then none else k (.int k1 (aB k1 (a.tdiv b)))
 | .rem=>bif eqI b 0 then none else k (.int k1 (a.tmod b))
 | op=>match RH op k1 a b with
  | some v=>k v
  | none=>none
def isX:BinOp->Bool
 | .add|.sub|.mul|.quo|.rem|.eql|.neq|.lss|.leq|.gtr|.geq=>true
 | _=>false
def aV7:BinOp->Bool
 | .shl|.shr=>true
 | _=>false
def aZ8(op:BinOp)(k:IntKind)(x y:Int):Option Value:=match op with
 | .shl=>some (.int k (k.wrap (x*2^(min y.toNat k.bits))))
 | .shr=>some (.int k (x.fdiv (2^(min y.toNat k.bits))))
 | _=>none
def aOY(F:Frm)(H:Heap)(o:Oper)(k:Frm->PV->Heap->Nat->Option α):Option α:=match opu P (NM P E) F H o with
 | some (v,H',c)=>k F v H' c
 | none=>none
def a3H(F:Frm) (x:Operand) (k:Frm->Option α):Option α:=match ev F x with
 | .lit (.bool b)=>a1U F x b λF _=>k F
 | _=>k F
def aXM:List Operand->Frm->(Frm->Option α)->Option α
 | [],F,k=>k F
 | x::r,F,k=>a3H F x λF=>aXM r F k
def opK(F:Frm)(H:Heap)(o:Oper)(k:Frm->PV->Heap->Nat->Option α):Option α :=
 bif typed P F o then match top P F H o with
  | some (cs,v,H',c)=>aOP cs (k F v H' c)
  | none=>none
 else match o.op with
  | .binOp op _ x y _=>match ev F x,ev F y with
   | .lit (.int k1 a),.lit (.int k2 b)=>bif aV7 op then (bif ltI b 0 then none else match aZ8 op k1 a b with
     | some v=>k F (.lit v) H 0
     | none=>none)
    else bif yY k1 k2&&isX op then a6Z op k1 a b λv=>k F (.lit v) H 0 else aOY P E F H o k
   | _,_=>aXM [x,y] F λF=>aOY P E F H o k
  | .unOp ..=>aXM o.op.operands.toList F λF=>aOY P E F H o k
  | .pick c a b=>match ev F c with
   | .lit (.bool t)=>a1U F c t λF t=>k F (bif t then ev F a else ev F b) H 0
   | _=>none
  | .call c=>match c.callee with
   | .value f=>match ev F f with
    | .lit (.func (.func g) first caps)=>a5F P E g (lits first++c.args.toList.map (ev F)++lits caps) H (k F)
    | .clo (.func g) first caps=>a5F P E g (first++c.args.toList.map (ev F)++caps) H (k F)
    | _=>none
   | _=>aOY P E F H o k
  | _=>aOY P E F H o k
def aQQ:Nat->Nat->Int->(Int->Option α)->Option α
 | 0,_,_,_=>none
 | n+1,j,v,f=>bif eqI v (j:Int) then f j else aQQ n (j+1) v f
def a7C(t:TypeId):Option Nat:=match P.underlying t with
 | some (.array n _)=>some n
 | _=>none
def a6W:PV->Bool
 | .hptr _ _|.iptr _=>true
 | _=>false
def a74:PV->Bool
 | .agg _=>true
 | _=>false
def xIdx(H:Heap) (t:TypeId) (p:PV) (i:Int):Option (PV×Heap×Nat):=match p,P.underlying t with
 | .agg cs,some (.array n e)=>match nF P e with
  | some sz=>bif aF i n then p0 H (uH P e (cs.drop (i.toNat*sz))) else none
  | none=>none
 | _,_=>none
def a68(l:List Oper)(F:Frm)(H:Heap)(o:Oper)(k:Frm->PV->Heap->Nat->Option α):Option α:=match o.op with
 | .makeSlice t n c=>bif O6 l o.dst then (match KH P H t (ev F n) (ev F c)with
   | some (cs,v,H',c')=>aOP cs (k F v H' c')
   | none=>none) else opK P E F H o k
 | .indexAddr t x i=>match a7C P t,ev F i with
  | some n,.lit (.int _ v)=>bif L3 (ev F x) then aQQ n 0 v (λj=>match HC P H t (ev F x) j with
    | some (cs,p,H',c)=>aOP cs (k F p H' c)
    | none=>none) else bif a6W (ev F x) then aQQ n 0 v (λj=>match p0 H (IA P t (ev F x) j)with
    | some (p,H',c)=>k F p H' c
    | none=>none) else opK P E F H o k
  | _,_=>opK P E F H o k
 | .index t x i=>match a7C P t,ev F i with
  | some n,.lit (.int _ v)=>bif a74 (ev F x) then aQQ n 0 v (λj=>match xIdx P H t (ev F x) j with
    | some (p,H',c)=>k F p H' c
    | none=>none) else opK P E F H o k
  | _,_=>opK P E F H o k
 | .slice t x lo hi none=>match ev F x with
  | .own r sz=>match CI H r,P.underlying t with
   | some g,some (.slice e)=>bif O4 g.t then (match nF P e with
    | some n=>bif Nat.beq n sz then ask (Nat.beq g.l.length 0) λz=>(match MW g H r sz (lo.map (ev F)) (hi.map (ev F)) z with
      | some (cs,v,H',c)=>aOP cs (k F v H' c)
      | none=>none) else none
    | none=>none) else opK P E F H o k
   | _,_=>opK P E F H o k
  | _=>opK P E F H o k
 | _=>opK P E F H o k
def a03(l:List Oper)(o:Oper)(F:Frm)(H:Heap)(k:Frm->PV->Heap->Nat->Option α):Option α :=
 aY7 F l o λF b=>bif b then (match mkData P F l o with
  | none=>a68 P E l F H o k
  | some none=>none
  | some (some (cs,v))=>aOP cs (k F v H 0)) else k F (.lit undef) H 0
def aF1(nt:Nat)(l:List Oper):List Oper->Frm->Heap->(Frm->Heap->Option α)->Option α
 | [],F,H,k=>k F H
 | o::rest,F,H,k=>a03 P E l o F H λF v H' _=>match RA nt F o.dst v with
  | some F'=>aF1 nt l rest F' H' k
  | none=>none
def stK(nt:Nat)(m:Option Nat)(ms:List Nat)(l:List Oper):List Oper->Nat->Frm->Heap->a2C->(Frm->Heap->a2C->Option α)->Option α
 | [],_,F,H,hl,k=>k F H hl
 | o::rest,j,F,H,hl,k=>match NT m o j with
  | none=>a03 P E l o F H λF v H' c=>bif okT m (ms.getD j 0) j (QJ F o) c v H' then (match RA nt F o.dst v with
   | some F'=>stK nt m ms l rest (j+1) F' H' (bif Nat.beq c 0 then hl else (j,c,QJ F o)::hl) k
   | none=>none) else none
  | some q=>bif PT o then (bif iU.noRefs (o.op.operands.toList.map (ev F))&&iM.noRows (o.op.operands.toList.map (ev F)) then a03 P E l o F [] λF v X _=>match QC q v X H with
    | some (v,H',c)=>bif okT m (ms.getD j 0) j (some q) c v H' then (match RA nt F o.dst v with
     | some F'=>stK nt m ms l rest (j+1) F' H' (bif Nat.beq c 0 then hl else (j,c,some q)::hl) k
     | none=>none) else none
    | none=>none else none)
   else match stepT (some q) P (NM P E) l o F H with
   | some (v,H',c)=>bif okT m (ms.getD j 0) j (some q) c v H' then (match RA nt F o.dst v with
    | some F'=>stK nt m ms l rest (j+1) F' H' ((j,2,some q)::hl) k
    | none=>none) else none
   | none=>none
def TR(nt:Nat)(ops:Array Oper)(draw:Bool)(F:Frm)(H:Heap)(k:Frm->Heap->Option α):Option α :=
 bif draw then (bif aGI ops&&aXN (aOT ops H) F H then stK P E nt (aOT ops H) (OO ops) ops.toList ops.toList 0 F (a4D (aOT ops H) ops.toList.length H) [] λF H hl=>bif aMN (OO ops) hl then k F H else none else none)
 else aF1 P E nt ops.toList ops.toList F H k
end
section
variable {α:Type} {P:Program} {E:Env} {z:α}
theorem aPU {b k}(h:ask b k=some z):k b=some z:=by cases b <;> exact h
theorem aBG:∀ {l r},aOP l r=some z->M6 l=true/\r=some z
 | [],r,h=>⟨rfl,h⟩
 | b::l,r,h=>by
  obtain⟨rfl,h⟩:=cC h;exact aBG (l:=l) h
theorem aDE {τ}{x:Option τ}{k}(h:aC x k=some z):∃ y,x=some y/\k y=some z:=by
 cases x with
 | none=>cases h
 | some y=>exact⟨y,rfl,h⟩
theorem aVV {g args H k}(h:a5F P E g args H k=some z):∃ v H' c,NM P E g args H=some (v,H',c)/\k v H' c=some z:=by
 unfold a5F at h;unfold NM callee;cases hsh:E.sh g with
 | true =>
  rw[hsh]at h;simp only[oC]at h ⊢;split at h
  ·rename_i r hr;obtain⟨x,h1,h2⟩:=aDE h;exact⟨_,_,_,by simp only[FA,hr,h1],h2⟩
  ·cases h
 | false =>
  rw[hsh]at h;simp only[oD]at h ⊢;cases hn:iU.noRefs args with
  | true =>
   rw[hn]at h;obtain⟨hnr,h⟩:=cC h;split at h
   ·rename_i r hr;obtain⟨x,h1,h2⟩:=aDE h;exact⟨_,_,_,by simp only[hnr,oC,L0,hr,h1],h2⟩
   ·cases h
  | false =>
   rw[hn]at h;simp only[oD]at h ⊢;cases hf:GV P g with
   | true =>
    rw[hf]at h;split at h
    ·rename_i qs hq;obtain⟨hnr,h⟩:=cC h;split at h
     ·rename_i r hr;obtain⟨x,h1,h2⟩:=aDE h;obtain⟨h3,h2⟩:=cC h2;exact⟨_,_,_,by simp only[hq,hnr,L0,hr,h1,h3,oC],h2⟩
     ·cases h
    ·cases h
   | false =>
    rw[hf]at h;simp only[oD]at h ⊢;split at h
    ·rename_i qs hq;obtain⟨hnr,h⟩:=cC h;split at h
     ·rename_i r hr;obtain⟨x,h1,h2⟩:=aDE h;exact⟨_,_,_,by simp only[hq,hnr,oC,L0,hr,h1],h2⟩
     ·cases h
    ·cases h
theorem aW7 {t b}:∀ {F},iL F t=.lit (.bool b)->a3S F t b=F
 | [],_=>rfl
 | (s,p)::r,h=>by
  simp only[iL]at h;simp only[a3S];cases hs:Nat.beq s t with
  | true=>grind
  | false=>rw[hs]at h; simp only[oD]at h ⊢; rw[aW7 h]
theorem aNA {F x b k}(h:a1U F x b k=some z)(hx:ev F x=.lit (.bool b)):k F b=some z:=by
 unfold a1U at h;split at h
 ·have:=aPU h;rwa[aW7 (by simpa only[ev]using hx)]at this
 ·exact aPU h
theorem aXQ {F l o k}(h:aY7 F l o k=some z):∃ b,guardOf F l o=some b/\k F b=some z:=by
 unfold aY7 at h;unfold guardOf;cases hg:o.guard with
 | none=>grind
 | some g =>
  obtain⟨j,want⟩:=g;rw[hg]at h;simp only at h ⊢;cases hp:l[j]? with
  | none=>grind
  | some p =>
   rw[hp]at h;simp only at h ⊢;cases ht:p.dst with
   | none=>rw[ht]at h; cases h
   | some t =>
    rw[ht]at h;simp only at h ⊢;split at h
    ·rename_i b hb;have:=aPU h;rw[aW7 hb]at this;grind
    ·grind
    ·cases h
theorem a05 {op k1 a b k}(h:a6Z op k1 a b k=some z):∃ v,RH op k1 a b=some v/\k v=some z:=by
 unfold a6Z at h;split at h
 ·cases hb:eqI b 0 with
  | true=>grind
  | false=>rw[hb]at h; exact⟨_,by simp only[RH,hb,oD],h⟩
 ·cases hb:eqI b 0 with
  | true=>grind
  | false=>rw[hb]at h; exact⟨_,by simp only[RH,hb,oD],h⟩
 grind
theorem aDT {F H o k}(h:aOY P E F H o k=some z):∃ v H' c,opu P (NM P E) F H o=some (v,H',c)/\k F v H' c=some z:=by
 unfold aOY at h;grind
theorem aX3 {F o op xt yt x y k1 k2 a b v}(ho:o.op=.binOp op xt x y yt)(hx:ev F x=.lit (.int k1 a))(hy:ev F y=.lit (.int k2 b))(hb:ltI b 0=false)(hv:aZ8 op k1 a b=some v):sF P F o=some (.lit v):=by
 have hb:¬ b<0:=by rw[aE]at hb; grind
 have h1:valOf F x=.int k1 a:=by simp[valOf,hx,F8]
 have h2:valOf F y=.int k2 b:=by simp[valOf,hy,F8]
 have h3:BY F o.op.operands.toList=true:=by simp[ho,Op.operands,BY,hx,hy,F8]
 have h4:B8 o.op=false:=by simp[ho,B8]
 unfold sF;rw[h3,h4];cases op <;> simp only[aZ8]at hv <;> try (cases hv; done)
 all_goals
  simp only[oJ]at hv;subst hv;simp[execOp,ho,h1,h2,eqGuard,binOp,Op.shift,hb,uG,AN]
  try rfl
theorem aZK {F x k}(h:a3H F x k=some z):k F=some z:=by
 unfold a3H at h;split at h
 ·rename_i b hb; exact aNA h hb
 grind
theorem aL0:∀ {l:List Operand} {F:Frm} {k:Frm->Option α},aXM l F k=some z->k F=some z
 | [],F,k,h=>h
 | x::r,F,k,h=>aL0 (l:=r) (aZK h)
theorem aML {F H o k}(h:opK P E F H o k=some z):∃ v H' c,opx P (NM P E) F H o=some (v,H',c)/\k F v H' c=some z:=by
 unfold opK at h;unfold opx;cases ht:typed P F o with
 | true =>
  rw[ht]at h;split at h
  ·rename_i cs v H' c hc;obtain⟨h1,h2⟩:=aBG h;grind
  ·cases h
 | false =>
  rw[ht]at h;simp only[oD]at h ⊢;split at h
  ·rename_i op xt x y yt ho;split at h
   ·rename_i k1 a k2 b hx hy;cases hsh:aV7 op with
    | true =>
     rw[hsh]at h;cases hb:ltI b 0 with
     | true=>rw[hb]at h; cases h
     | false =>
      rw[hb]at h;split at h
      ·rename_i v hv;have hp:=aX3 (P:=P) ho hx hy hb hv;have hxb:RH op k1 a b=none:=by cases op <;> simp only[aV7]at hsh <;> first|rfl|(cases hsh; done)
       refine⟨_,_,_,?_,h⟩;simp only[opu,ho,hx,hy,hxb,hp,p0,Bool.cond_self]
      ·cases h
    | false =>
    rw[hsh]at h;simp only[oD]at h;cases hb:(yY k1 k2&&isX op)with
    | true =>
     rw[hb]at h;simp only[oC]at h;simp only[oA]at hb;obtain⟨v,h1,h2⟩:=a05 h;exact⟨_,_,_,by simp only[opu,ho,hx,hy,hb.1,oC,h1],h2⟩
    | false=>rw[hb]at h; exact aDT h
   ·exact aDT (aL0 h)
  ·exact aDT (aL0 h)
  ·rename_i c a b ho;split at h
   ·rename_i t hc;exact⟨_,_,_,by simp only[opu,ho,hc],aNA h hc⟩
   ·cases h
  ·rename_i c ho;split at h
   ·rename_i f hc;split at h
    ·rename_i g first caps hf;obtain⟨v,H',c',h1,h2⟩:=aVV h;exact⟨v,H',c',by simp only[opu,ho,hc,hf,h1],h2⟩
    ·rename_i g first caps hf;obtain⟨v,H',c',h1,h2⟩:=aVV h;exact⟨v,H',c',by simp only[opu,ho,hc,hf,h1],h2⟩
    ·cases h
   ·exact aDT h
  ·exact aDT h
theorem aHY {f v}:∀ {n j},aQQ n j v f=some z->f v=some z
 | 0,_,h=>by cases h
 | n+1,j,h=>by
  unfold aQQ at h;cases hb:eqI v j with
  | true =>
   rw[hb]at h;rw[bT,decide_eq_true_eq]at hb;grind
  | false =>
   rw[hb]at h;exact aHY h
theorem a6B {p}(h:a6W p=true):isT p=false:=by cases p <;> first|rfl|cases h
theorem a11 {l F H o k}(h:a68 P E l F H o k=some z):∃ v H' c,opz P (NM P E) l F H o=some (v,H',c)/\k F v H' c=some z:=by
 unfold a68 at h;split at h
 ·rename_i t n c ho;cases hb:O6 l o.dst with
  | false =>
   rw[hb]at h;obtain⟨v,H',c',h1,h2⟩:=aML h;exact⟨v,H',c',by simp only[opz,ho,hb,oD,h1],h2⟩
  | true =>
   rw[hb]at h;split at h
   ·rename_i cs v1 H1 k1 h1;obtain⟨h3,h4⟩:=aBG h;exact⟨_,_,_,by simp only[opz,ho,hb,oC,h1,h3],h4⟩
   ·cases h
 ·rename_i t x i ho;have plain:opK P E F H o k=some z->∃ v H' c,opz P (NM P E) l F H o=some (v,H',c)/\k F v H' c=some z:=λh=>by
   obtain⟨v,H',c',h1,h2⟩:=aML h;exact⟨v,H',c',by simp only[opz,ho,h1],h2⟩
  split at h
  ·rename_i n k1 v hn hv;cases hb:L3 (ev F x)with
   | false =>
    rw[hb]at h;cases hb2:a6W (ev F x)with
    | false=>rw[hb2]at h; exact plain h
    | true =>
     rw[hb2]at h;have h:=aHY h;split at h
     ·rename_i p H1 c1 h1;refine⟨_,_,_,?_,h⟩;have ht:typed P F o=false:=by simp only[typed,ho,hb,a6B hb2,Bool.or_false]
      simp only[opz,ho,opx,ht,oD,opu,hv,h1]
     ·cases h
   | true =>
    rw[hb]at h;have h:=aHY h;split at h
    ·rename_i cs p H1 c1 h1;obtain⟨h3,h4⟩:=aBG h;refine⟨_,_,_,?_,h4⟩;have ht:typed P F o=true:=by simp only[typed,ho,hb,Bool.or_true]
     simp only[opz,ho,opx,ht,oC,top,hv,h1,h3]
    ·cases h
  ·grind
 ·rename_i t x i ho;have plain:opK P E F H o k=some z->∃ v H' c,opz P (NM P E) l F H o=some (v,H',c)/\k F v H' c=some z:=λh=>by
   obtain⟨v,H',c',h1,h2⟩:=aML h;exact⟨v,H',c',by simp only[opz,ho,h1],h2⟩
  split at h
  ·rename_i n k1 v hn hv;cases hb:a74 (ev F x)with
   | false=>rw[hb]at h; exact plain h
   | true =>
    rw[hb]at h;simp only[oC]at h;have h:=aHY h;split at h
    ·rename_i p H1 c1 h1;refine⟨_,_,_,?_,h⟩;obtain⟨cs,hcs⟩:∃ cs,ev F x=.agg cs:=by
      revert hb
      cases ev F x <;> intro hb <;> first|exact⟨_,rfl⟩|cases hb
     have ht:typed P F o=false:=by simp only[typed,ho,hcs,isS]
     simp only[opz,ho,opx,ht,oD,opu,hv,hcs];rw[hcs]at h1;unfold a7C at hn;split at hn
     ·rename_i n1 e1 hu;unfold xIdx at h1;simp only[hu]at h1 ⊢;exact h1
     ·cases hn
    ·cases h
  ·exact plain h
 ·rename_i t x lo hi ho;have plain:opK P E F H o k=some z->∃ v H' c,opz P (NM P E) l F H o=some (v,H',c)/\k F v H' c=some z:=λh=>by
   obtain⟨v,H',c',h1,h2⟩:=aML h;exact⟨v,H',c',by simp only[opz,ho,h1],h2⟩
  split at h
  ·rename_i r sz hx;split at h
   ·rename_i g e hg hu;cases hb:O4 g.t with
    | false=>rw[hb]at h; exact plain h
    | true =>
     rw[hb]at h;simp only[oC]at h;split at h
     ·rename_i n hn;obtain⟨hbn,h⟩:=cC h;replace h:=aPU h;split at h
      ·rename_i cs v H1 c1 h1;obtain⟨h3,h4⟩:=aBG h;refine⟨_,_,_,?_,h4⟩;have ht:typed P F o=true:=by simp only[typed,ho,hx,isT,Bool.true_or]
       simp only[opz,ho,opx,ht,oC,top,hx,isS,isQ,oD,PS,hu,hn,hg,hbn,hb,Bool.true_and,h1,h3]
      ·cases h
     ·cases h
   ·exact plain h
  ·exact plain h
 ·rename_i hno hno2 hno3 hno4;obtain⟨v,H',c',h1,h2⟩:=aML h;refine⟨v,H',c',?_,h2⟩;unfold opz;split
  ·rename_i t n c ho;exact(hno t n c ho).elim
  ·exact h1
theorem aO7 {l F H o k}(h:a03 P E l o F H k=some z):∃ v H' c,KO P (NM P E) l o F H=some (v,H',c)/\k F v H' c=some z:=by
 obtain⟨b,h1,h2⟩:=aXQ h;unfold KO;cases b with
 | true =>
  simp only[h1];split at h2
  ·rename_i hm;simp only[hm];exact a11 h2
  ·grind
  ·obtain⟨h3,h4⟩:=aBG h2;grind
 | false=>grind
theorem aCD {nt l k}:∀ {r F H},aF1 P E nt l r F H k=some z->∃ F' H',aFD P (NM P E) nt l r F H=some (F',H')/\k F' H'=some z
 | [],F,H,h=>⟨F,H,rfl,h⟩
 | o::r,F,H,h=>by
  obtain⟨v,H1,c,h1,h2⟩:=aO7 h;split at h2
  ·rename_i F1 hp;obtain⟨F',H',h3,h4⟩:=aCD h2;refine⟨F',H',?_,h4⟩;simp only[aFD,h1,aIO,hp,ZE,Bool.cond_self,h3]
  grind
theorem aP3 {nt m ms l F0 H0 k}:∀ {r j F H hl},stK P E nt m ms l r j F H hl k=some z->r=l.drop j->j<=l.length->aKU P (NM P E) nt m ms l F0 H0 j=some (F,H,hl)->∃ F' H' hl',aKU P (NM P E) nt m ms l F0 H0 l.length=some (F',H',hl')/\k F' H' hl'=some z
 | [],j,F,H,hl,h,hr,hjl,hs=>by
  have h1:(l.drop j).length=0:=by rw[<- hr]; rfl
  rw[List.length_drop]at h1;have h2:j=l.length:=by omega
  subst h2;exact⟨F,H,hl,hs,h⟩
 | o::r,j,F,H,hl,h,hr,hjl,hs=>by
  have hj:l[j]?=some o:=by
   have:(l.drop j)[0]?=some o:=by rw[<- hr]; rfl
   grind
  have hr':r=l.drop (j+1):=by
   have:(l.drop j).tail=r:=by rw[<- hr]; rfl
   simp_all
  simp only[stK]at h;split at h
  ·rename_i hres;obtain⟨v,H1,c,h1,h2⟩:=aO7 h;obtain⟨hok,h2⟩:=cC h2;split at h2
   ·rename_i F1 hp;refine aP3 h2 hr' (oO.1 hj).1 ?_;simp only[aKU,hs,hj,hres,stepT,h1,hok,oC,aIO,hp,ZE,QX];grind
   ·cases h2
  ·rename_i q hres;cases hcall:PT o with
   | true =>
    rw[hcall]at h;obtain⟨hnr,h⟩:=cC h;obtain⟨v0,X,c0,h1,h⟩:=aO7 h;split at h
    ·rename_i v H1 c hct;obtain⟨hok,h2⟩:=cC h;split at h2
     ·rename_i F1 hp;refine aP3 h2 hr' (oO.1 hj).1 ?_;have hop:∃ cc,o.op=.call cc:=by
       unfold PT at hcall;split at hcall
       ·unfold JN at hcall;split at hcall
        ·rename_i cc hcc; exact⟨cc,hcc⟩
        ·cases hcall
       ·cases hcall
      obtain⟨cc,hop⟩:=hop;have hst:stepT (some q) P (NM P E) l o F H=some (v,H1,c):=by
       simp only[stepT,hop];rw[<- hop,hnr,oC,h1];exact hct
      simp only[aKU,hs,hj,hres,hst,hok,oC,aIO,hp,ZE,QX];cases Nat.beq c 0 <;> rfl
     ·cases h2
    ·cases h
   | false =>
   rw[hcall]at h;simp only[oD]at h;split at h
   ·rename_i v H1 c h1;obtain⟨hok,h2⟩:=cC h;split at h2
    ·rename_i F1 hp;refine aP3 h2 hr' (oO.1 hj).1 ?_;have hc:c=2:=by
      simp only[stepT]at h1;split at h1
      ·split at h1
       ·obtain⟨_,h1⟩:=cC h1;simp only[oJ,oP]at h1;exact h1.2.2.symm
       ·cases h1
      ·obtain⟨_,h1⟩:=cC h1;split at h1
       ·rcases aGT h1 with ⟨_,_,_,_,_,_,h1,_⟩|⟨_,_,_,_,_⟩
        ·exact h1
        ·obtain⟨_,_,_,ha⟩:=aQW hres;unfold MZ at ha;rw[hcall,Bool.or_false]at ha;unfold isVar at ha;split at ha
         ·simp_all
         ·cases ha
       ·cases h1
      ·cases h1
     subst hc;simp only[aKU,hs,hj,hres,h1,hok,oC,aIO,hp,ZE,QX];rfl
    ·cases h2
   ·cases h
theorem aKD {nt ops F H k}(h:TR P E nt ops true F H k=some z):∃ F' H',aIC P (NM P E) nt ops F H=some (F',H')/\k F' H'=some z:=by
 obtain⟨h1,h⟩:=cC h;obtain⟨F',H',hl,h2,h3⟩:=aP3 h (by rfl) (Nat.zero_le _) rfl;obtain⟨h4,h3⟩:=cC h3;exact⟨F',H',by simp only[aIC,h1,oC,h2,h4],h3⟩
theorem aN5 {nt id ops draw F H k}(hcl:BM P (NM P E))(hP:P.follows .mixedOrders=true)(h:TR P E nt ops draw F H k=some z) :
  ∃ F' H',k F' H'=some z/\∀ {n0 wi Gi μi a w Q},I n0 wi Gi μi nt F H a w->(∀ a' w',I n0 wi Gi μi nt F' H' a' w'->Q .normal a' w')->(Code.region id ops draw).wp P Q a w:=by
 cases draw with
 | true =>
  obtain⟨F',H',h2,h3⟩:=aKD h;exact⟨F',H',h3,λhI hQ=>aOB hcl hP h2 hI hQ⟩
 | false =>
  obtain⟨F',H',h2,h3⟩:=aCD h;exact⟨F',H',h3,λhI hQ=>wp_region_list (YG hcl ops.toList F H _ _ h2 hI hQ)⟩
end
def aRY {α:Type}(m:Nat):Frm->(Frm->α)->α
 | [],k=>k []
 | (t,p)::r,k=>bif aH1 m t then aRY m r (λr=>k ((t,p)::r)) else aRY m r k
theorem aQ4 {α} m:∀ F (k:Frm->α),∃ F',aRY m F k=k F'/\∀ t,iL F' t=iL F t\/iL F' t=.junk
 | [],k=>⟨[],rfl,λt=>.inl rfl⟩
 | (s,p)::r,k=>by
  simp only[aRY];cases hs:aH1 m s with
  | true =>
   obtain⟨F',h1,h2⟩:=aQ4 m r λr=>k ((s,p)::r)
   refine⟨(s,p)::F',h1,λt=>?_⟩;rw[uD,uD];grind
  | false =>
   have key:∀ (F:Frm) (k:Frm->α),∃ F',aRY m F k=k F'/\∀ t,iL F' t=if aH1 m t then iL F t else .junk:=by
    intro F
    induction F with
    | nil=>intro k; exact⟨[],rfl,λt=>by simp[iL]⟩
    | cons x r ih =>
     intro k;obtain⟨s,p⟩:=x;simp only[aRY];cases hs:aH1 m s with
     | true =>
      obtain⟨F',h1,h2⟩:=ih λr=>k ((s,p)::r)
      refine⟨(s,p)::F',h1,λt=>?_⟩;rw[uD,uD,h2 t];grind
     | false =>
      obtain⟨F',h1,h2⟩:=ih k;refine⟨F',h1,λt=>?_⟩;rw[uD,h2 t]
      by_cases hts:t=s
      ·subst hts; simp[hs]
      ·simp[hts]
   obtain⟨F',h1,h2⟩:=key r k;refine⟨F',h1,λt=>?_⟩;rw[uD,h2 t];grind
@[reducible] def fR:List (Ex×List (Nat×Kd))->Type
 | []=>Empty
 | [(_,s)]=>Shape.den s
 | (_,s)::b::r=>Shape.den s⊕fR (b::r)
structure C8 where
 sh:List (Nat×Kd)
 exits:List (Ex×List (Nat×Kd))
 run:Shape.den sh->Option (fR exits)
def aCI:(l:List (Ex×List (Nat×Kd)))->fR l->Ex×Frm×Heap
 | [],z=>Empty.elim z
 | [(e,s)],z=>(e,JE s z 0,MX s z)
 | (e,s)::b::r,z=>match z with
  | .inl x=>(e,JE s x 0,MX s x)
  | .inr y=>aCI (b::r) y
def a3R {α}:(l:List (Ex×List (Nat×Kd)))->fR l->(Ex->Frm->Heap->Option α)->Option α
 | [],z,_=>Empty.elim z
 | [(e,s)],z,k=>k e (JE s z 0) (MX s z)
 | (e,s)::b::r,z,k=>iB z (λx=>k e (JE s x 0) (MX s x)) (λy=>a3R (b::r) y k)
def aY5:Ex->Ex->Bool
 | .normal,.normal=>true
 | .exit i,.exit j=>Nat.beq i j
 | .ret,.ret=>true
 | _,_=>false
def aPD:(l:List (Ex×List (Nat×Kd)))->Ex->Frm->Heap->Option (fR l)
 | [],_,_,_=>none
 | [(e,s)],ex,F,H=>bif aY5 e ex then aH7 s F H else none
 | (e,s)::b::r,ex,F,H=>bif aY5 e ex then (match aH7 s F H with|some x=>some (.inl x)|none=>none) else (match aPD (b::r) ex F H with|some y=>some (.inr y)|none=>none)
section
variable {α:Type} (P:Program) (E:Env) (nt keep:Nat) (lt:Nat->Option C8)
def Z9:Code->Frm->Heap->(Ex->Frm->Heap->Option α)->Option α
 | .skip,F,H,k=>k .normal F H
 | .label _,F,H,k=>k .normal F H
 | .region _ ops draw,F,H,k=>TR P E nt ops draw F H λF H=>aRY keep F λF=>k .normal F H
 | .seq a b,F,H,k=>Z9 a F H λex F H=>match ex with
  | .normal=>Z9 b F H k
  | .exit i=>k (.exit i) F H
  | .ret=>k .ret F H
 | .cond c a b,F,H,k=>match ev F c with
  | .lit (.bool t)=>a1U F c t λF t=>bif t then Z9 a F H k else Z9 b F H k
  | _=>none
 | .block id a,F,H,k=>Z9 a F H λex F H=>match ex with
  | .exit i=>bif Nat.beq i id then k .normal F H else k (.exit i) F H
  | .normal=>k .normal F H
  | .ret=>k .ret F H
 | .loop a,F,H,k=>match lt (R0 a)with
  | some s=>match aH7 s.sh F H with
   | some x=>aC (s.run x) λz=>a3R s.exits z k
   | none=>none
  | none=>none
 | .exit id,F,H,k=>k (.exit id) F H
 | .scope a,F,H,k=>Z9 a F H k
 | .ret,F,H,k=>k .ret F H
 | _,_,_,_=>none
def aTA sh exits (ex:Ex)(F:Frm)(H:Heap):Option (Shape.den sh⊕fR exits):=match ex with
 | .normal=>match aH7 sh F H with
  | some y=>some (.inl y)
  | none=>none
 | .exit i=>match aPD exits (.exit i) F H with
  | some z=>some (.inr z)
  | none=>none
 | .ret=>match aPD exits .ret F H with
  | some z=>some (.inr z)
  | none=>none
def S9(a:Code) (sh:List (Nat×Kd)) (exits:List (Ex×List (Nat×Kd))) (x:Shape.den sh):Option (Shape.den sh⊕fR exits) :=
 Z9 P E nt keep lt a (JE sh x 0) (MX sh x) (aTA sh exits)
end
def aO {σ τ:Type}(step:σ->Option (σ⊕τ)):Nat->σ->Option τ
 | 0,_=>none
 | n+1,x=>match step x with
  | some (.inl y)=>aO step n y
  | some (.inr z)=>some z
  | none=>none
def RY:Code->List Code
 | .seq a b=>RY a++RY b
 | .cond _ a b=>RY a++RY b
 | .block _ a=>RY a
 | .scope a=>RY a
 | .loop a=>[a]
 | _=>[]
section
variable {α:Type} {P:Program} {E:Env} {nt keep:Nat} {lt:Nat->Option C8}
def a7W(P:Program) (nt:Nat) (c:Code) (F:Frm) (H:Heap) (r:Ex×Frm×Heap):Prop :=
 ∀ (n0:Nat->Prop) (wi:World) (Gi:Gd) (μi:Mp) (a:Act) (w:World),(∀ r,μi.loc r=none/\μi.len r=none)->I n0 wi Gi μi nt F H a w->a7U P n0 wi Gi μi nt c a w r
def SF(P:Program)(nt:Nat)(a:Code)(s:C8):Prop :=
 ∀ x z,s.run x=some z->a7W P nt (.loop a) (JE s.sh x 0) (MX s.sh x) (aCI s.exits z)
theorem aM9:∀ {l:List (Ex×List (Nat×Kd))} {z:fR l} {k:Ex->Frm->Heap->Option α} {y:α},a3R l z k=some y->k (aCI l z).1 (aCI l z).2.1 (aCI l z).2.2=some y
 | [],z,_,_,_=>Empty.elim z
 | [(e,s)],z,k,y,h=>h
 | (e,s)::b::r,z,k,y,h=>by
  cases z with
  | inl x=>exact h
  | inr x=>exact aM9 (l:=b::r) (z:=x) h
theorem aSV {a b}(h:aY5 a b=true):a=b:=by cases a <;> cases b <;> simp only[aY5]at h <;> first|rfl|rfl|simp_all
theorem aMV {n0 wi Gi μi}(hfl:∀ r,μi.loc r=none/\μi.len r=none){ex F H}:∀ {l z},aPD l ex F H=some z ->
  (aCI l z).1=ex/\∀ a w,I n0 wi Gi μi nt F H a w->I n0 wi Gi μi nt (aCI l z).2.1 (aCI l z).2.2 a w
 | [],z,_=>Empty.elim z
 | [(e,s)],z,h=>by
  obtain⟨hb,h⟩:=cC h;exact⟨aSV hb,λa w hI=>aAR h hfl hI⟩
 | (e,s)::b::r,z,h=>by
  simp only[aPD]at h;cases hb:aY5 e ex with
  | true =>
   rw[hb]at h;simp only[oC]at h;split at h
   ·rename_i x hx;simp only[oJ]at h;subst h;exact⟨aSV hb,λa w hI=>aAR hx hfl hI⟩
   ·cases h
  | false =>
   rw[hb]at h;simp only[oD]at h;split at h
   ·rename_i x hx;simp only[oJ]at h;subst h;exact aMV hfl (z:=x) hx
   ·cases h
theorem TJ(hcl:BM P (NM P E))(hP:P.follows .mixedOrders=true):∀ c F H k (z:α),(∀ a∈RY c,∀ s,lt (R0 a)=some s->SF P nt a s) ->
  Z9 P E nt keep lt c F H k=some z->∃ r ,k r.1 r.2.1 r.2.2=some z/\a7W P nt c F H r
 | .skip,F,H,k,z,hl,h=>⟨(.normal,F,H),h,λ_ _ _ _ _ _ _ hI=>wp_skip ⟨rfl,hI⟩⟩
 | .label l,F,H,k,z,hl,h=>⟨(.normal,F,H),h,λ_ _ _ _ _ _ _ hI=>wp_label ⟨rfl,hI⟩⟩
 | .region id ops draw,F,H,k,z,hl,h=>by
  simp only[Z9]at h;obtain⟨F1,H1,h1,h2⟩:=aN5 (id:=id) hcl hP h;obtain⟨F2,h3,h4⟩:=aQ4 keep F1 λF=>k .normal F H1
  rw[h3]at h1;exact⟨(.normal,F2,H1),h1,λ_ _ _ _ _ _ _ hI=>h2 hI λa' w' hI'=>⟨rfl,hI'.a13 h4⟩⟩
 | .seq x y,F,H,k,z,hl,h=>by
  simp only[Z9]at h;obtain⟨⟨ex,F1,H1⟩,h1,h2⟩:=TJ hcl hP x F H _ z (λa ha=>hl a (by simp[RY,ha])) h;cases ex with
  | normal =>
   obtain⟨r,h3,h4⟩:=TJ hcl hP y F1 H1 k z (λa ha=>hl a (by simp[RY,ha])) h1;refine⟨r,h3,λn0 wi Gi μi a w hfl hI=>wp_seq (wp_mono (h2 n0 wi Gi μi a w hfl hI) ?_)⟩;rintro e a' w' ⟨rfl,hI'⟩;exact h4 n0 wi Gi μi a' w' hfl hI'
  | exit i =>
   refine⟨(.exit i,F1,H1),h1,λn0 wi Gi μi a w hfl hI=>wp_seq (wp_mono (h2 n0 wi Gi μi a w hfl hI) ?_)⟩;rintro e a' w' ⟨rfl,hI'⟩;exact⟨rfl,hI'⟩
  | ret =>
   refine⟨(.ret,F1,H1),h1,λn0 wi Gi μi a w hfl hI=>wp_seq (wp_mono (h2 n0 wi Gi μi a w hfl hI) ?_)⟩;rintro e a' w' ⟨rfl,hI'⟩;exact⟨rfl,hI'⟩
 | .cond c x y,F,H,k,z,hl,h=>by
  simp only[Z9]at h;split at h
  ·rename_i t ht;replace h:=aNA h ht;have hc:∀ {n0 wi Gi μi a w},I n0 wi Gi μi nt F H a w->a.eval c=.bool t:=λhI=>by
    obtain⟨G,μ,e,hW,hF⟩:=hI;have hc:=QU hF c;rwa[ht,VR]at hc
   cases t with
   | true =>
    obtain⟨r,h3,h4⟩:=TJ hcl hP x F H k z (λa ha=>hl a (by simp[RY,ha])) h;exact⟨r,h3,λn0 wi Gi μi a w hfl hI=>wp_cond (hc hI) (h4 n0 wi Gi μi a w hfl hI)⟩
   | false =>
    obtain⟨r,h3,h4⟩:=TJ hcl hP y F H k z (λa ha=>hl a (by simp[RY,ha])) h;exact⟨r,h3,λn0 wi Gi μi a w hfl hI=>wp_cond (hc hI) (h4 n0 wi Gi μi a w hfl hI)⟩
  ·cases h
 | .block id x,F,H,k,z,hl,h=>by
  simp only[Z9]at h;obtain⟨⟨ex,F1,H1⟩,h1,h2⟩:=TJ hcl hP x F H _ z (λa ha=>hl a (by simp[RY,ha])) h;cases ex with
  | normal =>
   refine⟨(.normal,F1,H1),h1,λn0 wi Gi μi a w hfl hI=>wp_block (wp_mono (h2 n0 wi Gi μi a w hfl hI) ?_)⟩;rintro e a' w' ⟨rfl,hI'⟩;exact⟨rfl,hI'⟩
  | ret =>
   refine⟨(.ret,F1,H1),h1,λn0 wi Gi μi a w hfl hI=>wp_block (wp_mono (h2 n0 wi Gi μi a w hfl hI) ?_)⟩;rintro e a' w' ⟨rfl,hI'⟩;exact⟨rfl,hI'⟩
  | exit i =>
   simp only at h1;cases hi:Nat.beq i id with
   | true =>
    rw[hi]at h1;have:=oE hi;subst this;refine⟨(.normal,F1,H1),h1,λn0 wi Gi μi a w hfl hI=>wp_block (wp_mono (h2 n0 wi Gi μi a w hfl hI) ?_)⟩;rintro e a' w' ⟨rfl,hI'⟩;simp only[Ex.to,Exit.inBlock,if_true];exact⟨trivial,hI'⟩
   | false =>
    rw[hi]at h1;have hne:¬ i=id:=λe=>by rw[e]at hi; simp at hi
    refine⟨(.exit i,F1,H1),h1,λn0 wi Gi μi a w hfl hI=>wp_block (wp_mono (h2 n0 wi Gi μi a w hfl hI) ?_)⟩;rintro e a' w' ⟨rfl,hI'⟩;simp only[Ex.to,Exit.inBlock,hne,if_false];exact⟨trivial,hI'⟩
 | .loop x,F,H,k,z,hl,h=>by
  simp only[Z9]at h;split at h
  ·rename_i s hs;split at h
   ·rename_i x0 hx;obtain⟨y,h1,h2⟩:=aDE h;exact⟨aCI s.exits y,aM9 h2,λn0 wi Gi μi a w hfl hI=>hl x (by simp[RY]) s hs x0 y h1 n0 wi Gi μi a w hfl (aAR hx hfl hI)⟩
   ·cases h
  ·cases h
 | .exit id,F,H,k,z,hl,h=>⟨(.exit id,F,H),h,λ_ _ _ _ _ _ _ hI=>wp_exit ⟨rfl,hI⟩⟩
 | .scope x,F,H,k,z,hl,h=>by
  simp only[Z9]at h;obtain⟨⟨ex,F1,H1⟩,h1,h2⟩:=TJ hcl hP x F H _ z (λa ha=>hl a (by simp[RY,ha])) h;refine⟨(ex,F1,H1),h1,λn0 wi Gi μi a w hfl hI=>wp_scope_straight (wp_mono (h2 n0 wi Gi μi a w hfl hI) ?_)⟩;rintro e a' w' ⟨rfl,hI'⟩;cases ex <;> exact⟨rfl,hI'⟩
 | .ret,F,H,k,z,hl,h=>⟨(.ret,F,H),h,λ_ _ _ _ _ _ _ hI=>wp_ret ⟨rfl,hI⟩⟩
 | .rangeFunc ..,F,H,k,z,hl,h=>by simp only[Z9]at h; cases h
 | .goto l,F,H,k,z,hl,h=>by simp only[Z9]at h; cases h
 | .refuse s,F,H,k,z,hl,h=>by simp only[Z9]at h; cases h
theorem SO(hcl:BM P (NM P E)) (hP:P.follows .mixedOrders=true) {a:Code} {sh:List (Nat×Kd)} {exits:List (Ex×List (Nat×Kd))} {step:Shape.den sh->Option (Shape.den sh⊕fR exits)} (L:Nat)
  (hl:∀ b∈RY a,∀ s,lt (R0 b)=some s->SF P nt b s) (hr:∀ x,S9 P E nt keep lt a sh exits x=step x):SF P nt a ⟨sh,exits,aO step L⟩:=by
 intro x z hz n0 wi Gi μi act w hfl hI;refine wp_loop_ghost (λk a w=>∃ x,aO step k x=some z/\I n0 wi Gi μi nt (JE sh x 0) (MX sh x) a w) L ⟨x,hz,hI⟩ ?_;rintro k act w ⟨x,hz,hI⟩;cases k with
 | zero=>cases hz
 | succ k =>
  simp only[aO]at hz;split at hz
  ·rename_i y hs;rw[<- hr]at hs;obtain⟨⟨ex,F',H'⟩,h1,h2⟩:=TJ hcl hP a _ _ _ _ hl hs;refine wp_mono (h2 n0 wi Gi μi act w hfl hI) ?_;rintro e a' w' ⟨rfl,hI'⟩;cases ex with
   | normal =>
    simp only[aTA]at h1;split at h1
    ·rename_i y' hy;simp only[oJ,Sum.inl.injEq]at h1;subst h1;exact⟨k,by omega,y',hz,aAR hy hfl hI'⟩
    ·cases h1
   | exit i =>
    simp only[aTA]at h1;split at h1
    ·simp at h1
    ·cases h1
   | ret =>
    simp only[aTA]at h1;split at h1
    ·simp at h1
    ·cases h1
  ·rename_i y hs;simp only[oJ]at hz;subst hz;rw[<- hr]at hs;obtain⟨⟨ex,F',H'⟩,h1,h2⟩:=TJ hcl hP a _ _ _ _ hl hs;refine wp_mono (h2 n0 wi Gi μi act w hfl hI) ?_;rintro e a' w' ⟨rfl,hI'⟩;cases ex with
   | normal =>
    simp only[aTA]at h1;split at h1
    ·simp at h1
    ·cases h1
   | exit i =>
    simp only[aTA]at h1;split at h1
    ·rename_i y' hy;simp only[oJ,Sum.inr.injEq]at h1;subst h1;obtain⟨h3,h4⟩:=aMV (nt:=nt) (n0:=n0) (wi:=wi) (Gi:=Gi) hfl hy;have h5:=h4 a' w' hI';exact⟨by rw[h3],h5⟩
    ·cases h1
   | ret =>
    simp only[aTA]at h1;split at h1
    ·rename_i y' hy;simp only[oJ,Sum.inr.injEq]at h1;subst h1;obtain⟨h3,h4⟩:=aMV (nt:=nt) (n0:=n0) (wi:=wi) (Gi:=Gi) hfl hy;have h5:=h4 a' w' hI';exact⟨by rw[h3],h5⟩
    ·cases h1
  ·cases hz
end
@[reducible] def aL:List Kd->Type
 | []=>Unit
 | k::r=>k.den×aL r
def MU:(l:List Kd)->aL l->List PV
 | [],_=>[]
 | k::r,(x,xs)=>KD k x 0::MU r xs
def aUV:(l:List Kd)->List PV->Option (aL l)
 | [],[]=>some ()
 | k::r,p::ps=>match PL k p [] 0 with
  | some x=>match aUV r ps with
   | some xs=>some (x,xs)
   | none=>none
  | none=>none
 | _,_=>none
def aN3:List Kd->Bool
 | []=>true
 | .own _ _::_|.box _ _::_|.win _ _::_|.bown _ _ _::_|.bque _ _ _::_|.bag _ _ _ _ _::_|.bag2 _ _ _ _ _ _::_|.ar _ _::_=>false
 | _::r=>aN3 r
def Kd.plain:Kd->Bool
 | .list t|.agg t|.ptr t=>t.plain
 | .clo _ ts=>ts.all Ty.plain
 | .hnd _=>false
 | .mpk _=>false
 | _=>true
theorem aTM:∀ ts x,ts.all Ty.plain=true->iM.noRows (LX ts x)=true
 | [],_,_=>rfl
 | t::r,(x,xs),h=>by
  simp only[List.all_cons,oA]at h;simp only[LX,iM.noRows,oA];exact⟨zD t x h.1,aTM r xs h.2⟩
def RP(l:List Kd) (x:aL l):PV:=HP (MU l x)
def aYA:(l:List Kd)->PV->Option (aL l)
 | [k],q=>match PL k q [] 0 with
  | some x=>some (x,())
  | none=>none
 | l,.tuple qs=>aUV l qs
 | _,_=>none
section
variable {P:Program} {n0:Nat->Prop} {w wi:World} {G Gi:Gd} {μ μi μ':Mp} {H:Heap} {F:Frm} {a:Act} {nt:Nat}
theorem aZC {e t p n}:sD e t p [] n=none:=by
 unfold sD;split
 ·cases Nat.beq _ n&&Nat.beq _ t.size <;> rfl
 rfl
theorem aZF {e t p n}:H9 e t p [] n=none:=by
 unfold H9;split
 ·cases Nat.beq _ n&&Nat.beq _ 0 <;> rfl
 rfl
theorem aXS {e et t p n}:D8 e et t p [] n=none:=by
 unfold D8;split
 ·cases Nat.beq _ n&&Nat.beq _ 0 <;> rfl
 rfl
theorem aXR {e et t p n}:EL e et t p [] n=none:=by
 unfold EL;split
 ·cases Nat.beq _ n&&Nat.beq _ 0 <;> rfl
 rfl
theorem aXP {e t1 et t eu u p n}:ES e t1 et t eu u p [] n=none:=by
 unfold ES;split
 ·rw[show fO [] n=none from by rfl];simp
 rfl
theorem aZ3 {e t1 et t t2 p n}:IB e t1 et t t2 p [] n=none:=by
 unfold IB;split
 ·cases Nat.beq _ n&&Nat.beq _ 0 <;> rfl
 rfl
theorem aVU:∀ k {p x v},PL k p [] 0=some x->VR w G aZ p v->VR w G aZ (KD k x 0) v
 | .int k,p,x,v,h,hv=>by
  have:=AA h;simp only[List.cons.injEq,and_true]at this;subst this;exact hv
 | .bool,p,x,v,h,hv=>by
  have:=yN h;simp only[List.cons.injEq,and_true]at this;subst this;exact hv
 | .str,p,x,v,h,hv=>by
  have:=zP h;simp only[List.cons.injEq,and_true]at this;subst this;exact hv
 | .list t,p,x,v,h,hv=>by
  have:=tZ (.list t) aZ [p] x [v] h (by rw[VRs]; exact⟨v,[],rfl,hv,by rw[VRs]⟩);simp only[enc]at this;obtain⟨y,ys,h1,h2,_⟩:=this;cases h1;exact h2
 | .agg t,p,x,v,h,hv=>by
  simp only[PL]at h;unfold MQ at h;split at h
  ·rename_i cs;obtain⟨vs,rfl,h2⟩:=hv;simp only[KD];exact⟨vs,rfl,tZ t aZ cs x vs.toList h h2⟩
  ·cases h
 | .own e t,p,x,v,h,hv=>by
  simp only[PL,aZC]at h;cases h
 | .box e t,p,x,v,h,hv=>by
  simp only[PL,aZF]at h;cases h
 | .ptr t,p,x,v,h,hv=>yP h hv
 | .fn g,p,x,v,h,hv=>by
  have:=FJ h;subst this;exact hv
 | .nil0,p,x,v,h,hv=>by
  have:=DV h;subst this;exact hv
 | .val,p,x,v,h,hv=>by
  have:=ET (p:=p) (x:=x) h;subst this;exact hv
 | .nilI,p,x,v,h,hv=>by
  have:=CE (p:=p) (x:=x) h;subst this;exact hv
 | .clo g ts,p,x,v,h,hv=>DT h hv
 | .win j sz,p,x,v,h,hv=>by
  have:=EH h;subst this;exact hv
 | .bown e et t,p,x,v,h,hv=>by
  simp only[PL,aXS]at h;cases h
 | .bque e et t,p,x,v,h,hv=>by
  simp only[PL,aXR]at h;cases h
 | .bag e t1 et t t2,p,x,v,h,hv=>by
  simp only[PL,aZ3]at h;cases h
 | .bag2 e t1 et t eu u,p,x,v,h,hv=>by
  simp only[PL,aXP]at h;cases h
 | .mpk j,p,x,v,h,hv=>by
  have:=E5 h;subst this;exact hv
 | .hnd sz,p,x,v,h,hv=>by
  have:=CO (μ:=aZ) (vs:=[v]) h (by rw[VRs]; exact⟨v,[],rfl,hv,by rw[VRs]⟩);obtain⟨y,ys,h1,h2,_⟩:=this;cases h1;exact h2
 | .ar e t,p,x,v,h,hv=>by
  simp only[PL,MR,PM.fO]at h;simp at h
theorem aB7:∀ l {ps x vs},aUV l ps=some x->VRs w G aZ ps vs->VRs w G aZ (MU l x) vs
 | [],[],x,vs,h,hv=>hv
 | [],_::_,x,vs,h,hv=>by cases h
 | _::_,[],x,vs,h,hv=>by cases h
 | k::r,p::ps,x,vs,h,hv=>by
  simp only[aUV]at h;split at h
  ·rename_i y hy;split at h
   ·rename_i ys hys;simp only[oJ]at h;subst h;obtain⟨u,us,h1,h2,h3⟩:=hv;exact⟨u,us,h1,aVU k hy h2,aB7 r hys h3⟩
   grind
  grind
theorem aM8 {l q x v}(h:aYA l q=some x)(hv:VR w G aZ q v):VR w G aZ (RP l x) v:=by
 unfold aYA at h;split at h
 ·split at h
  ·rename_i k q y hy;simp only[oJ]at h;subst h;exact aVU _ hy hv
  grind
 ·obtain⟨vs,rfl,h2⟩:=hv;have h3:=aB7 _ h h2
  match l,x,h3 with
  | [],x,h3 =>
   exact⟨vs,rfl,h3⟩
  | [k],x,h3=>grind
  | k::k2::r,(x,y,z),h3 =>
   exact⟨vs,rfl,h3⟩
 grind
def RB(P:Program) (g:FuncId) (args rets:List Kd) (f:aL args->Option (aL rets)):Prop :=
 ∀ x y,f x=some y->vT P g (MU args x) (RP rets y)
def a0V(args rets:List Kd) (f:aL args->Option (aL rets)) (qs:List PV):Option Res:=match aUV args qs with
 | some x=>some ⟨aL rets,f x,RP rets⟩
 | none=>none
theorem a2Q {g args rets f}(hf:RB P g args rets f){qs r}(h:a0V args rets f qs=some r):∀ y,r.val=some y->vT P g qs (r.out y):=by
 unfold a0V at h;split at h
 ·rename_i x hx;simp only[oJ]at h;subst h;intro y hy w G vs hlt hv;exact hf x y hy w G vs hlt (aB7 args hx hv)
 grind
structure OK (P:Program) (E:Env):Prop where
 pure:∀ g qs r,E.pure g qs=some r->∀ y,r.val=some y->vT P g qs (r.out y)
 shr:∀ g args H r,E.shr g args H=some r->∀ y,r.val=some y->∀ {n0 G μ w vs},eA n0 G μ H w->VRs w G μ args vs->vQ P n0 w G μ g vs.toArray (r.out y).1 (r.out y).2
theorem OK.callee {E}(h:OK P E):BM P (NM P E):=by
 refine JK ?_ ?_
 ·intro g args r hr;unfold L0 at hr;split at hr
  ·rename_i s hs;split at hr
   ·rename_i x hx;simp only[oJ]at hr;subst hr;exact h.pure g args s hs x hx
   grind
  grind
 ·intro g args H r H' hr;unfold FA at hr;split at hr
  ·rename_i s hs;split at hr
   ·rename_i x hx;have hr:=oB hr;have h1:r=(s.out x).1:=by grind
    have h2:H'=(s.out x).2:=by grind
    subst h1; subst h2;intro n0 G μ w vs hW hv;exact h.shr g args H s hs x hx hW hv
   grind
  grind
def aY0(P:Program) (rs:List ResultVar) (rets:List Kd) (ex:Ex) (F:Frm) (H:Heap):Option (aL rets):=match ex with
 | .exit _=>none
 | _=>match U9 P F H rs with
  | some vs=>match aWM H (HP vs)with
   | some q=>aYA rets q
   | none=>none
  | none=>none
def a0J(P:Program)(E:Env)(fn:Func)(keep:Nat)(lt:Nat->Option C8)(c:Code) args rets (x:aL args):Option (aL rets) :=
 bif Nat.ble (MU args x).length fn.ntmps then Z9 P E fn.ntmps keep lt c (start keep 0 (MU args x)) [] (aY0 P fn.results.toList rets) else none
theorem aS7 {E} (hP:aEU P) (hE:OK P E) {g:Nat} {fn} (hg:P.funcs[g]?=some fn) {c} (hc:fn.body=some c) {keep lt args rets f}
  (hl:∀ a∈RY c,∀ s,lt (R0 a)=some s->SF P fn.ntmps a s) (hb:∀ x,a0J P E fn keep lt c args rets x=f x):RB P g args rets f:=by
 intro x y hy;rw[<- hb]at hy;obtain⟨hlen,hy⟩:=cC hy;obtain⟨⟨ex,F',H'⟩,h1,h2⟩:=TJ hE.callee hP.mixed c _ _ _ _ hl hy;obtain⟨vs,q,hex,hvs,hq,hd⟩:∃ vs q,(ex=.normal\/ex=.ret)/\U9 P F' H' fn.results.toList=some vs/\aWM H' (HP vs)=some q/\aYA rets q=some y:=by
  unfold aY0 at h1;split at h1
  ·cases h1
  ·rename_i hne;split at h1
   ·rename_i vs hvs;split at h1
    ·rename_i q hq;refine⟨vs,q,?_,hvs,hq,h1⟩;cases ex with
     | normal=>exact .inl rfl
     | ret=>exact .inr rfl
     | exit i=>exact absurd rfl (hne i)
    ·cases h1
   ·cases h1
 have hcall:∀ {n0 G μ w us},eA n0 G μ [] w->VRs w G μ (MU args x) us->vQ P n0 w G μ g us.toArray (HP vs) H':=by
  intro n0 G μ w us hW hv;refine⟨enters hg (hP.names g fn hg) (by rw[hc]; rfl) _ _,calls_of_wp hg hc ?_⟩;have hI:I n0 w G μ fn.ntmps (start keep 0 (MU args x)) [] ⟨us.toArray++Array.replicate (fn.ntmps-us.toArray.size) undef,[]⟩ w:=⟨G,μ,Ext.refl _ _ _ _,hW,U3 (by simpa using hv) (oL hlen)⟩;refine wp_mono (h2 n0 w G μ _ w (λr=>hW.top r (Nat.zero_le _)) hI) ?_;rintro e a' w' ⟨rfl,G',μ',e',hW',hF'⟩;obtain⟨ws,h3,h4⟩:=UF (P:=P) hW' hF' hvs
  have hres:(results fn a'.tmps).run P w'=.ok (if hh:ws.toArray.size=1 then ws.toArray[0] else .tuple ws.toArray) w':=by
   rw[ZT,Array.mapM_eq_mapM_toList]
   simp_all
  have hpost:a'.defers=[]/\∃ v,(results fn a'.tmps).run P w'=.ok v w'/\(∃ v' G'' μ'',Ending.returned v=.returned v'/\Ext n0 w G μ w' G'' μ''/\eA n0 G'' μ'' H' w'/\VR w' G'' μ'' (HP vs) v') :=
   ⟨hF'.defers,_,hres,_,G',μ',rfl,e',hW',VJ h4⟩
  rcases hex with rfl|rfl
  ·exact hpost
  ·exact hpost
 have hp:=aB6 hcall (YQ hq).1 (YQ hq).2;intro w G us hlt hv;obtain⟨h3,h4⟩:=hp w G us hlt hv;refine⟨h3,h4.mono ?_⟩;rintro e w' ⟨v',G',rfl,e1,e2,e3⟩;exact⟨v',G',rfl,e1,e2,aM8 hd e3⟩
end
open Go Go.RowKit Go.ChangeShapes Go.WideShapes Go.ChangeAt Go.Joins
theorem A7 b off n:(⟨b,off,none⟩:Addr).add n=⟨b,off+n,none⟩:=by cases n <;> simp[Addr.add]
def WF:(t:Ty)->t.den->Prop
 | .int k,x=>(Lit.int k x).wf=true
 | .bool,_=>True
 | .str,s=>s.size<=maxLen
 | .hnd _,_=>True
 | .rows _,_=>True
 | .smap,_=>True
 | .list t,l=>l.length<=maxLen/\∀ a∈l,WF t a
 | .prod a b,(x,y)=>WF a x/\WF b y
abbrev GW(w:World):Gd:=Gd.of λb=>b<w.heap.size
def OpT(P:Program) (t:TypeId) (T:Ty):Prop :=
 P.cellsOf t=T.size/\∀ (H:Type) (en:TypeId×Value->H) (w:World) (base:Nat) (spare:Nat->Bool) (held:Bool) (fuel:Nat) (cs:List Value) (x:DataW H×List MemPlace),
  DataW.trod en P w base spare held fuel t cs=some x->∃ a:T.den,VRs w (GW w) aZ (enc T a) cs/\WF T a
section
variable {P:Program}
theorem BH {w G p v}(h:VR w G aZ p v):VRs w G aZ [p] [v]:=by exact⟨v,[],rfl,h,by rfl⟩
theorem OB {t k}(ht:P.underlying t=some (.int k))(hc:P.cellsOf t=1):OpT P t (.int k):=by
 refine⟨hc,λH en w base spare held fuel cs x h=>?_⟩;obtain⟨n,rfl,-,wf⟩:=DataW.trod_int ht h;exact⟨n,BH (by rfl),wf⟩
theorem K5 {t}(ht:P.underlying t=some .bool)(hc:P.cellsOf t=1):OpT P t .bool:=by
 refine⟨hc,λH en w base spare held fuel cs x h=>?_⟩;obtain⟨n,rfl,-⟩:=DataW.trod_bool ht h;exact⟨n,BH (by rfl),trivial⟩
theorem aK.app {w G b}:∀ {ps qs off},aK w G aZ b off ps->aK w G aZ b (off+ps.length) qs->aK w G aZ b off (ps++qs)
 | [],qs,off,_,h=>h
 | p::ps,qs,off,h,k=>by
  refine⟨h.1,aK.app h.2 ?_⟩;grind
theorem aK.LV {w G b}:∀ {ps vs off},VRs w G aZ ps vs->(∀ i h,w.cell? ⟨b,off+i,none⟩=some vs[i])->aK w G aZ b off ps
 | [],vs,off,_,_=>by trivial
 | p::ps,vs,off,h,k=>by
  obtain⟨x,xs,rfl,h2,h3⟩:=h;refine⟨⟨x,k 0 (by simp),h2⟩,aK.LV h3 λi hi=>?_⟩;have:=k (i+1) (by grind);grind
theorem DE {w:World}{T:Ty}{b:Nat}:∀ (l:List T.den) (off:Nat),(∀ i (h:i<l.length),aK w (GW w) aZ b (off+i*T.size) (enc T l[i]))->aK w (GW w) aZ b off (aP T l)
 | [],off,_=>by show aK w _ aZ b off []; rw[aK]; trivial
 | a::l,off,h=>by
  show aK w _ aZ b off (enc T a++aP T l);refine aK.app (by have:=h 0 (by simp); rw[Nat.zero_mul,Nat.add_zero]at this; exact this) ?_;rw[o5];refine DE l _ λi hi=>?_
  have:=h (i+1) (by simpa using hi);rw[Nat.add_mul,Nat.one_mul,Nat.add_comm (i*_),<- Nat.add_assoc]at this;exact this
theorem CM {t e T}(ht:P.underlying t=some (.slice e))(hc:P.cellsOf t=1)(he:OpT P e T):OpT P t (.list T):=by
 refine⟨hc,λH en w base spare held fuel cs x h=>?_⟩;rcases DataW.trod_slice ht h with ⟨rfl,-⟩|⟨a,len,cap,elems,rest,n,-,rfl,-,-,hl,hm,hel,hx,-,-⟩
 ·refine⟨[],BH ?_,⟨Nat.zero_le _,λa ha=>(by simp at ha)⟩⟩;rw[VR];refine⟨?_,rfl⟩;rw[VR];exact⟨none,0,rfl,oM _,λk hk=>(by cases hk),.inl rfl⟩
 ·have each:∀ i,i<len->∃ q:T.den,∃ es,(∀ j (_:j<es.length),w.cell? ((a.add (i*T.size)).add j)=some es[j])/\VRs w (GW w) aZ (enc T q) es/\WF T q:=by
   intro i hi;have h1:=hx i hi;rw[List.getElem?_eq_getElem (by omega)]at h1;obtain⟨es,h2,h3⟩:=Option.bind_eq_some_iff.1 h1;obtain⟨q,hq⟩:=he.2 _ _ _ _ _ _ _ _ _ h3;rw[he.1]at h2;obtain⟨-,hlen,hcell⟩:=World.cells?_some h2;refine⟨q,es,λj hj=>?_,hq⟩;rw[hcell j (by omega),List.getElem?_eq_getElem hj]
  by_cases h0:len=0
  ·subst h0;refine⟨[],BH ?_,⟨Nat.zero_le _,λa ha=>(by simp at ha)⟩⟩;rw[VR];refine⟨?_,rfl⟩;rw[VR];exact⟨some a,cap,rfl,hl,λk hk=>(by cases hk),.inl rfl⟩
  ·have hne:Nonempty T.den:=let ⟨q,_⟩:=each 0 (by omega); ⟨q⟩
   have key:∃ f:Nat->T.den,∀ i,i<len->∃ es,(∀ j (_:j<es.length),w.cell? ((a.add (i*T.size)).add j)=some es[j])/\VRs w (GW w) aZ (enc T (f i)) es/\WF T (f i):=by
    classical
    refine⟨λi=>if hi:i<len then Classical.choose (each i hi) else Classical.choice hne,λi hi=>?_⟩;simp only[dif_pos hi];exact Classical.choose_spec (each i hi)
   obtain⟨f,hf⟩:=key;obtain⟨b,off,spot⟩:=a;have hfirst:∃ v,w.cell? ⟨b,off,spot⟩=some v:=by
    obtain⟨es,h1,h2,-⟩:=hf 0 (by omega);have hpos:0<es.length:=by rw[<- VRs.length h2,o5]; exact T.size_pos
    have:=h1 0 hpos;exact⟨_,by simpa[Addr.add]using this⟩
   have hspot:spot=none:=by
    obtain⟨v,hv⟩:=hfirst;simpa using World.cell?_spot hv
   subst hspot;have hb:b<w.heap.size:=by
    obtain⟨v,hv⟩:=hfirst;cases hh:w.heap[b]? with
    | none=>simp[World.cell?,hh]at hv
    | some o=>exact NZ hh
   refine⟨(List.range len).map f,BH ?_,?_⟩
   ·rw[VR];refine⟨?_,rfl⟩;rw[VR];refine⟨some ⟨b,off,none⟩,cap,by simp,by simpa using hl,λk hk=>(by cases hk),.inr ⟨b,off,rfl,hb,?_⟩⟩;refine DE _ _ λi hi=>?_
    have hi':i<len:=by simpa using hi
    obtain⟨es,h1,h2,-⟩:=hf i hi';have e1:((List.range len).map f)[i]=f i:=by simp
    rw[e1];refine aK.LV h2 λj hj=>?_
    have:=h1 j hj;rw[A7,A7]at this;exact this
   ·refine⟨by simpa using oR hl hm,?_⟩;intro q hq;obtain⟨i,hi,rfl⟩:=List.mem_map.1 hq;obtain⟨es,-,-,h3⟩:=hf i (by simpa using hi);exact h3
def DU(P:Program):List Field->Nat->Ty->Prop
 | [],_,_=>False
 | [f],off,T=>f.offset=off/\OpT P f.type T
 | f::g::r,off,.prod a b=>f.offset=off/\OpT P f.type a/\DU P (g::r) (off+a.size) b
 | _::_::_,_,_=>False
theorem B1 {w}:∀ fs off T (cs:List Value),DU P fs off T->cs.length=off+T.size->(∀ f∈fs,∀ A ,OpT P f.type A->∃ a ,VRs w (GW w) aZ (enc A a) ((cs.drop f.offset).take A.size)/\WF A a) ->
  ∃ a ,VRs w (GW w) aZ (enc T a) (cs.drop off)/\WF T a
 | [],_,_,_,h,_,_=>h.elim
 | [f],off,T,cs,h,hl,hx=>by
  obtain⟨rfl,h2⟩:=h;obtain⟨a,h3,h4⟩:=hx f (by simp) T h2;rw[List.take_of_length_le (by grind)]at h3;grind
 | f::g::r,off,.prod A B,cs,h,hl,hx=>by
  obtain⟨rfl,h2,h3⟩:=h;obtain⟨a,h4,h5⟩:=hx f (by simp) A h2;obtain⟨b,h6,h7⟩:=B1 (g::r) _ B cs h3 (by rw[hl,Ty.size]; omega) (λk hk=>hx k (List.mem_cons_of_mem _ hk));refine⟨(a,b),?_,h5,h7⟩;have:=VRs.append h4 h6;rw[<- List.drop_drop,List.take_append_drop]at this;exact this
 | _::_::_,_,.int _,_,h,_,_=>h.elim
 | _::_::_,_,.bool,_,h,_,_=>h.elim
 | _::_::_,_,.str,_,h,_,_=>h.elim
 | _::_::_,_,.list _,_,h,_,_=>h.elim
theorem GY {t fs T}(ht:P.underlying t=some (.struct fs))(hc:P.cellsOf t=T.size)(hf:DU P fs.toList 0 T):OpT P t T:=by
 refine⟨hc,λH en w base spare held fuel cs x h=>?_⟩;obtain⟨xs,n,-,-,hl,hx,hi⟩:=DataW.trod_struct ht h;obtain⟨a,h1,h2⟩:=B1 fs.toList 0 T cs hf (by omega) (λf hf A hA=>by
  obtain⟨i,hi',rfl⟩:=List.getElem_of_mem hf;have hs :=by simpa using hi'
  have h3:=hi i fs[i] (by simp);rw[List.getElem?_eq_getElem (by omega)]at h3;have hA1:=hA.1;simp only[Array.getElem_toList]at hA1 hA ⊢;rw[hA1]at h3;exact hA.2 _ _ _ _ _ _ _ _ _ h3)
 grind
def Ty.arr (T:Ty):Nat->Ty
 | 0=>T
 | n+1=>.prod T (Ty.arr T n)
theorem FQ T:∀ n,(Ty.arr T n).size=(n+1)*T.size
 | 0=>by simp[Ty.arr]
 | n+1=>by simp only[Ty.arr,Ty.size,FQ T n]; grind
theorem IE {w T}{cs:List Value}:∀ n i,cs.length=(i+n+1)*T.size->(∀ j,i<=j->j<i+n+1->∃ a ,VRs w (GW w) aZ (enc T a) ((cs.drop (j*T.size)).take T.size)/\WF T a) ->
  ∃ a ,VRs w (GW w) aZ (enc (Ty.arr T n) a) (cs.drop (i*T.size))/\WF (Ty.arr T n) a
 | 0,i,hl,hx=>by
  obtain⟨a,h3,h4⟩:=hx i (oM _) (by simp);rw[List.take_of_length_le (by grind)]at h3;exact⟨a,h3,h4⟩
 | n+1,i,hl,hx=>by
  obtain⟨a,h4,h5⟩:=hx i (oM _) (by omega);obtain⟨b,h6,h7⟩:=IE n (i+1) (by grind) (λj h1 h2=>hx j (by omega) (by omega));refine⟨(a,b),?_,h5,h7⟩;have:=VRs.append h4 h6;rw[Nat.add_mul,Nat.one_mul,<- List.drop_drop,List.take_append_drop]at this;exact this
theorem JC {t e n T}(ht:P.underlying t=some (.array (n+1) e))(hc:P.cellsOf t=(n+1)*T.size)(he:OpT P e T):OpT P t (Ty.arr T n):=by
 refine⟨by rw[hc,FQ],λH en w base spare held fuel cs x h=>?_⟩;obtain⟨xs,m,-,-,hl,hx,hi⟩:=DataW.trod_array ht h;rw[he.1]at hi;obtain⟨a,h1,h2⟩:=IE (T:=T) (cs:=cs) n 0 (by grind) (λj _ h2=>by
  have h3:=hi j (by omega);rw[List.getElem?_eq_getElem (by omega)]at h3;exact he.2 _ _ _ _ _ _ _ _ _ h3)
 grind
def OpK(P:Program) (t:TypeId) (k:Kd) (W:k.den->Prop):Prop :=
 ∀ {H:Type} {en:TypeId×Value->H} {w:World} {base b0:Nat} {spare:Nat->Bool} {held:Bool} {r:Reach} {v:Value} {d:DataW H} {p:List MemPlace},
  Value.okWide P w r b0 t v->DataW.Trod en P w base spare held t v d p->∃ x:k.den,VR w (GW w) aZ (KD k x 0) v/\W x
theorem KQ {t e T}(ht:P.underlying t=some (.slice e))(hc:P.cellsOf t=1)(he:OpT P e T):OpK P t (.list T) (WF (.list T)):=by
 intro H en w base b0 spare held r v d p hv h;obtain⟨a,len,cap,rfl⟩:=okWide_slice ht hv;obtain⟨fuel,hf⟩:=h;obtain⟨l,h1,h2⟩:=(CM ht hc he).2 _ _ _ _ _ _ _ _ _ hf;refine⟨l,?_,h2⟩;obtain⟨x,xs,h3,h4,-⟩:=h1;cases h3;exact h4
theorem NV {t T}(hs:∀ w r b0 v,Value.okWide P w r b0 t v->∃ cs,v=.agg cs)(he:OpT P t T):OpK P t (.agg T) (WF T):=by
 intro H en w base b0 spare held r v d p hv h;obtain⟨cs,rfl⟩:=hs _ _ _ _ hv;obtain⟨fuel,hf⟩:=h;obtain⟨l,h1,h2⟩:=he.2 _ _ _ _ _ _ _ _ _ hf;refine⟨l,?_,h2⟩;exact⟨cs,rfl,h1⟩
theorem H8 {t fs T}(ht:P.underlying t=some (.struct fs))(he:OpT P t T):OpK P t (.agg T) (WF T) :=
 NV (λw r b0 v h=>by obtain⟨cs,h1,-⟩:=okWide_struct ht h; grind) he
theorem MB {g:FuncId} {args:List Kd} {f:aL args->Option (aL [.bool])} (hf:RB P g args [.bool] f) {x:aL args} (hx:f x=some (true,())) {w:World} (hT:Lt w λb=>b<w.heap.size) {vs:Array Value} (hv:VRs w (GW w) aZ (MU args x) vs.toList) :
  Calls P g vs w λe w'=>e=.returned (.bool true)/\Below w.heap.size w w':=by
 obtain⟨-,h⟩:=hf x _ hx w (λb=>b<w.heap.size) vs hT hv;refine h.mono ?_;rintro e w' ⟨v',G',rfl,e1,-,e3⟩;refine⟨?_,e1.os,e1.tape,e1.output,e1.size,λb hb=>e1.old b hb (Nat.not_le.2 hb)⟩;have e3:VR w' (Gd.of G') aZ (.lit (.bool true)) v':=e3;rw[VR]at e3;rw[e3]
theorem LG {w G p v ps vs}(h:VR w G aZ p v)(k:VRs w G aZ ps vs):VRs w G aZ (p::ps) (v::vs):=by rw[VRs]; grind
theorem NQ {w G}:VRs w G aZ [] []:=by rfl
end
theorem DB {H enc P}(hl:laidOutB P=true){W W'}(hb:Below W.heap.size W W') :
  ∀ ts vs (ds:List (DataW H)) ps,(∀ t∈ts,P.readableRec t=true/\t<P.types.size)->(∀ x∈ps,x.block<W.heap.size) ->
   DataW.TrodAll enc P W 0 (λ_=>true) true ts vs ds ps->DataW.TrodAll enc P W' 0 (λb=>decide (b<W.heap.size)) true ts vs ds ps
 | [],vs,ds,ps,_,_,h=>by
  unfold DataW.TrodAll at h ⊢;grind
 | t::ts,vs,ds,ps,ht,hlt,h=>by
  obtain⟨v,vs',d,ds',p,q,rfl,rfl,rfl,h1,h2⟩:=trodAll_cons h;exact⟨p,q,Below.trod hl (ht t (by simp)).1 (ht t (by simp)).2 h1 hb (λx hx=>hlt x (by grind)),DB hl hb ts vs' ds' q (λt h=>ht t (by grind)) (λx hx=>hlt x (by grind)) h2,rfl⟩
theorem E4 {P:Program} {ts:List TypeId} (h:(ts.all λt=>P.readableRec t&&decide (t<P.types.size))=true):∀ t∈ts,P.readableRec t=true/\t<P.types.size:=by
 intro t ht;have:=List.all_eq_true.1 h t ht;simpa using this
theorem HH {H enc P f} {s:ChangeSpec} {W W' args ds p tb} (hl:laidOutB P=true)
  (hts:∀ t∈f.params.toList,P.readableRec t=true/\t<P.types.size) (hr:f.resultTypes=#[tb]) (htb:P.underlying tb=some .bool)
  (hf1:(s.fn H (ds++[])).results=[.lit (.bool true)]) (hf2:(s.fn H (ds++[])).args=ds) (hf3:(s.fn H (ds++[])).vars=[]) (hv:s.vars=[])
  (hW:DataW.Whole enc P f.params.toList s.vars false W args.toList ds [] p) (hb:Below W.heap.size W W') :
  ∃ v,Ending.returned (.bool true)=Ending.returned v/\s.post enc P f false true false false W args v W':=by
 have hW':=hW;obtain⟨q,q',hA,hV,rfl,-,-⟩:=hW;refine⟨_,rfl,ds,[],_,[],q,[],hW',?_,?_,?_,hb.frame _,λh=>by grind⟩
 ·rw[hf1,hr]; exact trodAll_mk1 (shut_bool htb true)
 ·rw[hf2]; exact DB hl hb _ _ _ _ hts (λx hx=>hW'.lt x (by grind)) hA
 ·rw[hf3,hv]; rfl
end Go.PM
namespace Go.Proofs.YtbjdceodppagoaaGreatDoor
end Go.Proofs.YtbjdceodppagoaaGreatDoor
namespace Go.Proofs.YtbjdceodppagoaaGreatDoor
open Go Go.ChangeShapes Go.WideShapes Go.ChangeAt Go.RowKit Go.Joins Go.PM
abbrev MS:List (String×DataW Unit):=[("math/bits.deBruijn32tab",Rows.laid_math_bits_deBruijn32tab),("math/bits.deBruijn64tab",Rows.laid_math_bits_deBruijn64tab),("internal/strconv.uint64pow10",Rows.laid_internal_strconv_uint64pow10),("strconv.ErrRange",Rows.laid_strconv_ErrRange),("strconv.ErrSyntax",Rows.laid_strconv_ErrSyntax)]
theorem MM(os:Os)(args:Array Value):laidMetH Tryz.prog MS ((World.doorLaid Tryz.prog 4000 os).forCall (λ_ _=>0) ⟨#[],args,[]⟩).memory :=
 laidMetH_of_parts3 (fuel:=8) (laidMet_of_run' 8 (by kernel_rfl) (by kernel_rfl)) (by kernel_rfl) (by kernel_rfl)
theorem F7 {H:Type} {enc:TypeId×Value->H} {P:Program} {w:World} {base:Nat} {sp:Nat->Bool} {fuel:Nat} {t:TypeId} {ms} {cs:List Value} {n:String} {d:DataW H} {p:List MemPlace}
  (ht:P.underlying t=some (.interface ms)) (h:DataW.trod enc P w base sp false fuel t cs=some (.iface n d,p)):∃ u v,cs=[.iface u v]:=by
 cases fuel with
 | zero=>simp[DataW.trod]at h
 | succ fuel =>
  simp only[DataW.trod,ht]at h;split at h <;> first
   | exact⟨_,_,rfl⟩
   | (exfalso; simp_all; done)
theorem FM {P}{w:World}{n g cs}(hg:P.globalNamed n=some g)(h:w.var? P n=some cs):∃ t fr,w.heap[g]?=some (.cells cs t fr):=by
 unfold World.var? at h;grind
theorem B5 {w:World} {n:String} {g:Nat} {t:TypeId} {ms} {m:String} {d:DataW Unit} (hg:Tryz.prog.globalNamed n=some g) (hty:(Tryz.prog.globals[g]?).map (·.type)=some t) (ht:Tryz.prog.underlying t=some (.interface ms))
  (h:Lib.VarReads Tryz.prog w n (.iface m d)):AO w.heap[g]?:=by
 obtain⟨g',t',cs,fuel,p,hg',ht',hvar,hd⟩:=h;obtain rfl:=oB (hg.symm.trans hg');obtain rfl:=oB (hty.symm.trans ht');obtain⟨u,v,e⟩:=F7 ht hd;obtain⟨t2,fr,e2⟩:=FM hg hvar;refine⟨u,v,t2,fr,?_⟩;rw[e2]
 congr 2
 exact Array.toList_inj.1 e
theorem ND {w:World} (h:laidMetH Tryz.prog MS w):Lt w λb=>b<w.heap.size:=by
 rw[MakeChecks.laidMetH_plain _ _ _ (by kernel_rfl)]at h;have lt:∀ {g:Nat} {q:Option Obj->Prop},q w.heap[g]?->¬ q none->g<w.heap.size:=λ{g q} h1 h2=>by
  rcases oG g w.heap.size with h|h
  ·exact h
  ·rw[Array.getElem?_eq_none h]at h1;exact absurd h1 h2
 have nIf:¬ AO none:=λ⟨_,_,_,_,e⟩=>by cases e
 refine⟨λ_ h=>h,λp hp=>?_⟩;have main:p.2 w.heap[p.1]?/\¬ p.2 none:=by
  rcases List.mem_cons.1 hp with rfl|hp
  ·refine⟨?_,λ⟨_,_,e⟩=>by cases e⟩;obtain⟨g',t',cs,fuel,q,hg',ht',hvar,hd⟩:=Lib.laidMet.reads h (n:= "internal/strconv.uint64pow10") (d:=Rows.laid_internal_strconv_uint64pow10) (.tail _ (.tail _ (.head _)));obtain rfl:=oB ((show Tryz.prog.globalNamed "internal/strconv.uint64pow10"=some 2 by kernel_rfl).symm.trans hg');have hd:DataW.trod (λ_=>()) Tryz.prog w 0 (λ_=>true) false fuel t' cs.toList=some (Lib.tabData .u64 [1,10,100,1000,10000,100000,1000000,10000000,100000000,1000000000,10000000000,100000000000,1000000000000,10000000000000,100000000000000,1000000000000000,10000000000000000,100000000000000000,1000000000000000000,10000000000000000000],q):=hd
   obtain⟨t,hty⟩:∃ t,(Tryz.prog.globals[2]?).map (·.type)=some t:=⟨_,ht'⟩;obtain rfl:=oB (hty.symm.trans ht');have hcs:=Lib.cells_of_tab (P:=Tryz.prog) (t:=235) (e:=172) (n:=20) Tryz.underlying235 Tryz.underlying172 (by kernel_rfl) (by kernel_rfl) (show DataW.trod (λ_=>()) Tryz.prog w 0 (λ_=>true) false fuel 235 cs.toList=_ by
    rw[<- oB ((show (Tryz.prog.globals[2]?).map (·.type)=some 235 by kernel_rfl).symm.trans hty)]at hd;exact hd)
   obtain⟨t2,fr,e2⟩:=FM (by kernel_rfl) hvar;refine⟨t2,fr,?_⟩;rw[e2]
   congr 2
   exact Array.toList_inj.1 hcs
  ·rcases List.mem_cons.1 hp with rfl|hp
   ·exact⟨B5 (n:= "strconv.ErrSyntax") (t:=114) (by kernel_rfl) (by kernel_rfl) Tryz.underlying114 (Lib.laidMet.reads h (.tail _ (.tail _ (.tail _ (.tail _ (.head _)))))),nIf⟩
   ·rcases List.mem_cons.1 hp with rfl|hp
    ·exact⟨B5 (n:= "strconv.ErrRange") (t:=114) (by kernel_rfl) (by kernel_rfl) Tryz.underlying114 (Lib.laidMet.reads h (.tail _ (.tail _ (.tail _ (.head _))))),nIf⟩
    ·cases hp
 exact⟨lt main.1 main.2,main.1⟩
theorem JI:Tryz.prog.mainIs=some (true,"4737ab51d747d2c0b085b5e968aa05c3c5b4528a24f532e7a84ab250f862f1d6".toList):=by kernel_rfl
theorem HA:true=Tryz.prog.looks []:=by kernel_rfl
end Go.Proofs.YtbjdceodppagoaaGreatDoor
namespace Go.PM
open Go Go.RowKit
structure Ent where
 g:FuncId
 args:List Kd
 rets:List Kd
 f:aL args->Option (aL rets)
def Ent.OK (P:Program)(e:Ent):Prop:=RB P e.g e.args e.rets e.f
def aU9:List Ent->FuncId->List PV->Option Res
 | [],_,_=>none
 | e::r,g,qs=>bif Nat.beq e.g g then (match a0V e.args e.rets e.f qs with
   | some s=>some s
   | none=>aU9 r g qs)
  else aU9 r g qs
def aCN(l:List Ent):Env:=⟨aU9 l,λ_ _ _=>none,λ_=>false⟩
theorem aQG {P}:∀ {l},(∀ e∈l,e.OK P)->∀ g qs r,aU9 l g qs=some r->∀ y,r.val=some y->vT P g qs (r.out y)
 | [],_,g,qs,r,h=>by cases h
 | e::l,hl,g,qs,r,h=>by
  simp only[aU9]at h;cases hb:Nat.beq e.g g with
  | true =>
   rw[hb]at h;have:=oE hb;subst this;cases hs:a0V e.args e.rets e.f qs with
   | some s =>
    rw[hs]at h;have h:=oB h;subst h;exact a2Q (hl e List.mem_cons_self) hs
   | none =>
    rw[hs]at h;exact aQG (λe he=>hl e (List.mem_cons_of_mem _ he)) _ qs r h
  | false =>
   rw[hb]at h;exact aQG (λe he=>hl e (List.mem_cons_of_mem _ he)) g qs r h
theorem a2P {P l}(hl:∀ e∈l,e.OK P):OK P (aCN l) where
 pure:=aQG hl
 shr:=λ_ _ _ _ h=>by cases h
def aOF(P:Program):List Ent->Prop
 | []=>True
 | e::r=>e.OK P/\aOF P r
theorem aO3 {P}:∀ {l},aOF P l->∀ e∈l,e.OK P
 | [],_,e,he=>by grind
 | a::r,h,e,he=>by
  rcases List.mem_cons.1 he with rfl|he
  ·exact h.1
  ·exact aO3 h.2 e he
theorem RU {P l}(h:aOF P l):OK P (aCN l):=a2P (aO3 h)
def aXO(P:Program)(nt:Nat)(lt:Nat->Option C8):List Code->Prop
 | []=>True
 | a::r=>(∀ s,lt (R0 a)=some s->SF P nt a s)/\aXO P nt lt r
theorem aRV {P nt lt}:∀ {l},aXO P nt lt l->∀ a∈l,∀ s,lt (R0 a)=some s->SF P nt a s
 | [],_,a,ha=>by grind
 | b::r,h,a,ha=>by
  rcases List.mem_cons.1 ha with rfl|ha
  ·exact h.1
  ·exact aRV h.2 a ha
theorem RW {P nt lt c l}(hc:RY c=l)(h:aXO P nt lt l):∀ a∈RY c,∀ s,lt (R0 a)=some s->SF P nt a s:=by rw[hc]; exact aRV h
theorem SM {P nt}{lt:Nat->Option C8}{a i s0}(hf:R0 a=i)(hlt:lt i=some s0)(h:SF P nt a s0):∀ s,lt (R0 a)=some s->SF P nt a s:=by grind
def R5(fn:Func):Code:=match fn.body with
 | some c=>c
 | none=>.skip
def S2(c:Code)(i:Nat):Code:=(RY c).getD i .skip
def a5X(l:List Func):Bool:=l.all λf=>!(f.name== "runtime.NumGoroutine")
theorem a07 {P}(h1:P.follows .mixedOrders=true)(h2:a5X P.funcs.toList=true):aEU P where
 mixed:=h1
 names g fn hg:=by
  have hm:fn∈P.funcs.toList:=by grind
  have:=List.all_eq_true.1 h2 fn hm;grind
theorem aC3 {α:Type 1}{b x}{y:α}(h:(bif b then x else none)=some y):b=true/\x=some y:=by grind
abbrev Shr:=FuncId×(List PV->Heap->Option Q7)
def UA(P:Program)(s:Shr):Prop:=SortOKs P s.1 s.2
where SortOKs P g f :=∀ args H r,f args H=some r->∀ y,r.val=some y->∀ {n0 G μ w vs},eA n0 G μ H w->VRs w G μ args vs->vQ P n0 w G μ g vs.toArray (r.out y).1 (r.out y).2
def a3A(p:PV) (H:Heap):Option (PV×Heap):=match p with
 | .own s _=>match fO H s with
  | some k=>match k.tag with
   | some g=>some (uE g.t g.l none,zB H s)
   | none=>none
  | none=>none
 | _=>none
def aDQ:List PV->Heap->List PV×Heap
 | [],H=>([],H)
 | p::r,H=>match a3A p H with
  | some (q,H0)=>(q::(aDQ r H0).1,(aDQ r H0).2)
  | none=>(p::(aDQ r H).1,(aDQ r H).2)
def aIH(skip:Nat)(f:List PV->Heap->Option Q7)(qs:List PV)(H:Heap):Option Q7:=match aDQ (qs.drop skip) H with
 | (ps,H1)=>f (qs.take skip++ps) H1
theorem a1I {n0 G μ H w}(hW:eA n0 G μ H w){s sz k g v}(hv:VR w G μ (.own s sz) v)(hk:fO H s=some k)(hg:k.tag=some g) :
  ∃ G',Ext n0 w G μ w G' μ/\eA n0 G' μ (zB H s) w/\VR w G' μ (uE g.t g.l none) v:=by
 have hfo:zB H s=(bif k.frozen then H else H.set s (some { k with frozen:=true })):=by unfold zB; grind
 rw[hfo];cases hfz:k.frozen with
 | true =>
  refine⟨G,Ext.refl _ _ _ _,hW,(u7 hW hv hk hg (λb h=>h) (λb hb=>?_)).fK⟩;obtain⟨_,_,_,_,h5,_⟩:=hW.blk s k b (bB hk) hb;grind
 | false =>
  obtain⟨e1,w1⟩:=vU hW (bB hk) hfz;exact⟨_,e1,w1,(u7 (G':=G.or λx=>μ.loc s=some x) hW hv hk hg (λb h=>.inl h) (λb hb=>.inr hb)).fK⟩
theorem aIF {n0 μ w}:∀ qs {H G vs},eA n0 G μ H w->VRs w G μ qs vs->∃ G',Ext n0 w G μ w G' μ/\eA n0 G' μ (aDQ qs H).2 w/\VRs w G' μ (aDQ qs H).1 vs
 | [],H,G,vs,hW,hv=>⟨G,Ext.refl _ _ _ _,hW,hv⟩
 | p::r,H,G,vs,hW,hv=>by
  obtain⟨u,us,rfl,q1,q2⟩:=hv;have plain:∃ G',Ext n0 w G μ w G' μ/\eA n0 G' μ (aDQ r H).2 w/\VRs w G' μ (p::(aDQ r H).1) (u::us):=by
   obtain⟨G',e,h1,h2⟩:=aIF r hW q2;exact⟨G',e,h1,by exact⟨u,us,rfl,VR.mono e.toMono _ _ q1,h2⟩⟩
  rw[aDQ];cases hz:a3A p H with
  | none=>exact plain
  | some x =>
   obtain⟨q,H0⟩:=x;obtain⟨G1,e1,w1,v1⟩:∃ G',Ext n0 w G μ w G' μ/\eA n0 G' μ H0 w/\VR w G' μ q u:=by
    unfold a3A at hz;split at hz
    ·split at hz
     ·rename_i k hk;split at hz
      ·rename_i g hg;cases hz;exact a1I hW q1 hk hg
      ·cases hz
     ·cases hz
    ·cases hz
   obtain⟨G2,e2,w2,v2⟩:=aIF r w1 (VRs.mono e1.toMono _ _ q2);exact⟨G2,e1.trans e2,w2,by exact⟨u,us,rfl,VR.mono e2.toMono _ _ v1,v2⟩⟩
theorem aVQ {w G μ}:∀ ps {qs vs},VRs w G μ (ps++qs) vs->∃ v1 v2,vs=v1++v2/\VRs w G μ ps v1/\VRs w G μ qs v2
 | [],qs,vs,h=>⟨[],vs,rfl,by rfl,h⟩
 | p::ps,qs,vs,h=>by
  obtain⟨u,us,rfl,h1,h2⟩:=h;obtain⟨v1,v2,rfl,h3,h4⟩:=aVQ ps h2;exact⟨u::v1,v2,rfl,by rw[VRs]; grind,h4⟩
theorem UU {P g skip f}(hf:UA P (g,f)):UA P (g,aIH skip f):=by
 intro qs H rh h y hy n0 G μ w vs hW hv;have hv:VRs w G μ (qs.take skip++qs.drop skip) vs:=by simp_all
 obtain⟨v1,v2,rfl,hv1,hv2⟩:=aVQ _ hv;obtain⟨G',e,h1,h2⟩:=aIF _ hW hv2;obtain⟨c1,c2⟩:=hf _ _ rh h y hy h1 ((VRs.mono e.toMono _ _ hv1).append h2);refine⟨c1,c2.mono ?_⟩;rintro e' w' ⟨v',G1,μ1,rfl,ee,hW',hvv⟩;exact⟨v',G1,μ1,rfl,e.trans ee,hW',hvv⟩
def a4T:List Shr->FuncId->List PV->Heap->Option Q7
 | [],_,_,_=>none
 | s::r,g,args,H=>bif Nat.beq g s.1 then s.2 args H else a4T r g args H
def shE:List Shr->FuncId->Bool
 | [],_=>false
 | s::r,g=>bif Nat.beq g s.1 then true else shE r g
def aZI(P:Program):List Shr->Prop
 | []=>True
 | s::r=>UA P s/\aZI P r
theorem a0X {P}:∀ {l},aZI P l->∀ g args H r,a4T l g args H=some r->∀ y,r.val=some y->∀ {n0 G μ w vs},eA n0 G μ H w->VRs w G μ args vs->vQ P n0 w G μ g vs.toArray (r.out y).1 (r.out y).2
 | [],_,g,args,H,r,h=>by cases h
 | s::l,hl,g,args,H,r,h=>by
  simp only[a4T]at h;cases hb:Nat.beq g s.1 with
  | true =>
   rw[hb]at h;have:=oE hb;subst this;exact hl.1 args H r h
  | false =>
   rw[hb]at h;exact a0X hl.2 g args H r h
def aG6(l:List Ent) (s:List Shr):Env:=⟨aU9 l,a4T s,shE s⟩
theorem T0 {P l s}(h:aOF P l)(hs:aZI P s):OK P (aG6 l s) where
 pure:=aQG (aO3 h)
 shr:=a0X hs
open Go Go.RowKit Go.Proofs
abbrev tP:Program:=Tryz.prog
theorem RZ:aEU Tryz.prog:=a07 (by kernel_rfl) (by kernel_rfl)
abbrev oK(k:List Kd):Type:=Option (aL k)
abbrev oX(k:List (Ex×List (Nat×Kd))):Type:=Option (fR k)
abbrev oS(s:List (Nat×Kd)) (k:List (Ex×List (Nat×Kd))):Type:=Option (Shape.den s⊕fR k)
def oY(fn:Func) (n:Nat):Bool:=fn.body.isSome&&Nat.beq (RY (R5 fn)).length n
theorem oYb {fn:Func} {n:Nat} (h:oY fn n=true):fn.body=some (R5 fn)/\(RY (R5 fn)).length=n:=by
 rw[oY,oA]at h;refine⟨?_,oE h.2⟩;have h1:=h.1;unfold R5;cases hb:fn.body with
 | some c=>rfl
 | none=>rw[hb]at h1; cases h1
theorem oW:aOF Tryz.prog []:=trivial
theorem oV {e:Ent} {l:List Ent} (h:Ent.OK Tryz.prog e) (t:aOF Tryz.prog l):aOF Tryz.prog (e::l):=⟨h,t⟩
theorem oI {E:Env} (hE:OK Tryz.prog E) {g:Nat} {fn:Func} (hg:Tryz.prog.funcs[g]?=some fn) (hc:oY fn 0=true) {args rets:List Kd} {f:aL args->Option (aL rets)} (hb:∀ x,a0J Tryz.prog E fn (RV fn) (λ_=>none) (R5 fn) args rets x=f x):RB Tryz.prog g args rets f:=aS7 RZ hE hg (oYb hc).1 (keep:=RV fn) (lt:=λ_=>none) (by rw[List.eq_nil_of_length_eq_zero (oYb hc).2]; intro a h; cases h) hb
theorem oU {E:Env} (hE:OK Tryz.prog E) {g:Nat} {fn:Func} (hg:Tryz.prog.funcs[g]?=some fn) (i:Nat) {sh:List (Nat×Kd)} {exits:List (Ex×List (Nat×Kd))} {step:Shape.den sh->Option (Shape.den sh⊕fR exits)} {lp:Shape.den sh->Option (fR exits)} (hlp:lp=aO step (2^64)) (hc:(oY fn 1&&(Nat.beq (RY (S2 (R5 fn) 0)).length 0&&Nat.beq (R0 (S2 (R5 fn) 0)) i))=true) (hr:∀ x,S9 Tryz.prog E fn.ntmps (RV fn) (λid=>bif Nat.beq id i then some ⟨sh,exits,lp⟩ else none) (S2 (R5 fn) 0) sh exits x=step x) {args rets:List Kd} {f:aL args->Option (aL rets)} (hb:∀ x,a0J Tryz.prog E fn (RV fn) (λid=>bif Nat.beq id i then some ⟨sh,exits,lp⟩ else none) (R5 fn) args rets x=f x):RB Tryz.prog g args rets f:=by
 subst hlp;rw[oA,oA]at hc;have hl:RY (R5 fn)=[S2 (R5 fn) 0]:=by
  have h:=(oYb hc.1).2;unfold S2;cases hl:RY (R5 fn)with
  | nil=>rw[hl]at h; cases h
  | cons a r =>
   rw[hl]at h;cases r with
   | nil=>rfl
   | cons b r=>simp at h
 exact aS7 RZ hE hg (oYb hc.1).1 (keep:=RV fn) (lt:=λid=>bif Nat.beq id i then some ⟨sh,exits,aO step (2^64)⟩ else none) (RW (lt:=λid=>bif Nat.beq id i then some ⟨sh,exits,aO step (2^64)⟩ else none) hl ⟨SM (lt:=λid=>bif Nat.beq id i then some ⟨sh,exits,aO step (2^64)⟩ else none) (oE hc.2.2) (by rw[Nat.beq_refl]; rfl) (SO hE.callee RZ.mixed _ (RW (List.eq_nil_of_length_eq_zero (oE hc.2.1)) trivial) hr),trivial⟩) hb
end Go.PM
namespace Go.PM
open Go Go.RowKit
def posOf:List Nat->Nat->Option Nat
 | [],_=>none
 | x::l,r=>bif Nat.beq x r then some 0 else match posOf l r with
  | some i=>some (i+1)
  | none=>none
def BJ:List Nat->Bool
 | []=>true
 | x::l=>(match posOf l x with|none=>true|some _=>false)&&BJ l
def pZ(pm:List Nat):PV->Option PV
 | .lit v=>some (.lit v)
 | .vals cs n cap=>some (.vals cs n cap)
 | .iptr cs=>some (.iptr cs)
 | .tl t l cap e=>some (.tl t l cap e)
 | .tp t l i off e=>some (.tp t l i off e)
 | .row j lo n sz=>some (.row j lo n sz)
 | .rp j off=>some (.rp j off)
 | .mp j=>some (.mp j)
 | .tm l=>some (.tm l)
 | .junk=>some .junk
 | .hptr r off=>match posOf pm r with|some i=>some (.hptr i off)|none=>none
 | .hs r off len cap sz=>match posOf pm r with|some i=>some (.hs i off len cap sz)|none=>none
 | .own r sz=>match posOf pm r with|some i=>some (.own i sz)|none=>none
 | .qs r sz=>match posOf pm r with|some i=>some (.qs i sz)|none=>none
 | .op r j off sz=>match posOf pm r with|some i=>some (.op i j off sz)|none=>none
 | .win r lo n sz=>match posOf pm r with|some i=>some (.win i lo n sz)|none=>none
 | .agg cs=>match renPs pm cs with|some qs=>some (.agg qs)|none=>none
 | .tuple cs=>match renPs pm cs with|some qs=>some (.tuple qs)|none=>none
 | .clo fn f c=>match renPs pm f,renPs pm c with|some f',some c'=>some (.clo fn f' c')|_,_=>none
where renPs pm:List PV->Option (List PV)
 | []=>some []
 | p::ps=>match pZ pm p,renPs pm ps with|some q,some qs=>some (q::qs)|_,_=>none
def C0(pm:List Nat)(H:Heap):List Nat->Option Heap
 | []=>some []
 | r::l=>match fO H r with
  | some k=>match (bif k.tag.isSome then some k else match pZ.renPs pm k.cells with|some cs=>some { k with cells:=cs }|none=>none),C0 pm H l with
   | some k',some H'=>some (some k'::H')
   | _,_=>none
  | none=>none
def LN(pm:List Nat)(F:Frm):List Nat->Option Frm
 | []=>some []
 | t::l=>match pZ pm (iL F t),LN pm F l with
  | some p,some F'=>some ((t,p)::F')
  | _,_=>none
def PI(T pm:List Nat):Bool:=T.all λr=>match pm[r]? with
 | some s=>Nat.beq s r
 | none=>false
def compact(T pm slots:List Nat)(F:Frm)(H:Heap):Option (Frm×Heap) :=
 bif BJ pm&&PI T pm then match C0 pm H pm,LN pm F slots with
  | some H',some F'=>some (F',H')
  | _,_=>none
 else none
def yA(s i:Nat) (et:TypeId) (ty:Ty) (H:Heap):Heap:=match fO H s with
 | some k=>match k.cells.drop i with
  | .tl _ [] (some 0) _::rest=>bif !k.tag.isSome then ((H++[some ⟨aP ty [],et,true,false,some ⟨ty,[]⟩⟩]:Heap).set s (some { k with cells:=k.cells.take i++.own H.length ty.size::rest })) else H
  | .lit (.slice none m c)::rest=>bif Nat.beq m 0&&Nat.beq c 0&&!k.tag.isSome then ((H++[some ⟨aP ty [],et,true,false,some ⟨ty,[]⟩⟩]:Heap).set s (some { k with cells:=k.cells.take i++.own H.length ty.size::rest })) else H
  | _=>H
 | none=>H
def cV:List (Nat×Kd)->Frm->Heap->Frm×Heap
 | [],F,H=>(F,H)
 | (t,.own e ty)::r,F,H=>match iL F t with
  | .lit (.slice none m c)=>bif Nat.beq m 0&&Nat.beq c 0 then cV r ((t,.own H.length ty.size)::F) (H++[some ⟨aP ty [],e,true,false,some ⟨ty,[]⟩⟩]) else cV r F H
  | .tl _ [] (some 0) _=>cV r ((t,.own H.length ty.size)::F) (H++[some ⟨aP ty [],e,true,false,some ⟨ty,[]⟩⟩])
  | _=>cV r F H
 | (t,.bown e et ty)::r,F,H=>match iL F t with
  | .hptr s _=>match fO H s with
   | some k=>match k.cells with
    | [.lit (.slice none m c)]=>bif Nat.beq m 0&&Nat.beq c 0&&!k.tag.isSome then cV r F ((H++[some ⟨aP ty [],et,true,false,some ⟨ty,[]⟩⟩]:Heap).set s (some { k with cells:=[.own H.length ty.size] })) else cV r F H
    | _=>cV r F H
   | none=>cV r F H
  | _=>cV r F H
 | (t,.bag _ t1 et ty _)::r,F,H=>match iL F t with
  | .hptr s _=>match fO H s with
   | some k=>match k.cells.drop t1.size with
    | .tl _ [] (some 0) _::rest=>bif !k.tag.isSome then cV r F ((H++[some ⟨aP ty [],et,true,false,some ⟨ty,[]⟩⟩]:Heap).set s (some { k with cells:=k.cells.take t1.size++.own H.length ty.size::rest })) else cV r F H
    | .lit (.slice none m c)::rest=>bif Nat.beq m 0&&Nat.beq c 0&&!k.tag.isSome then cV r F ((H++[some ⟨aP ty [],et,true,false,some ⟨ty,[]⟩⟩]:Heap).set s (some { k with cells:=k.cells.take t1.size++.own H.length ty.size::rest })) else cV r F H
    | _=>cV r F H
   | none=>cV r F H
  | _=>cV r F H
 | (t,.bag2 _ t1 et ty eu u)::r,F,H=>match iL F t with
  | .hptr s _=>cV r F (yA s (t1.size+1) eu u (yA s t1.size et ty H))
  | _=>cV r F H
 | _::r,F,H=>cV r F H
def lV:List (Nat×Kd)->Frm->Heap->Frm×Heap
 | [],F,H=>(F,H)
 | (t,.box _ (.list _))::r,F,H=>match iL F t with
  | .hptr s _=>match fO H s with
   | some k=>match k.cells with
    | [.own u sz]=>match fO H u with
     | some ku=>match ku.tag with
      | some g=>bif !k.tag.isSome&&!Nat.beq u s then lV r F (((H.set u (some { ku with frozen:=true }))).set s (some { k with cells:=[uE g.t g.l none] })) else lV r F H
      | none=>lV r F H
     | none=>lV r F H
    | _=>lV r F H
   | none=>lV r F H
  | _=>lV r F H
 | _::r,F,H=>lV r F H
def uR:List (Nat×Kd)->Frm->Heap->Option (List Nat)
 | [],_,_=>some []
 | (t,.own _ _)::r,F,H=>match iL F t,uR r F H with
  | .own s _,some l=>some (s::l)
  | _,_=>none
 | (t,.box _ _)::r,F,H=>match iL F t,uR r F H with
  | .hptr s _,some l=>some (s::l)
  | _,_=>none
 | (t,.bown _ _ _)::r,F,H=>match iL F t,uR r F H with
  | .hptr s _,some l=>match fO H s with
   | some k=>match k.cells with
    | [.own u _]=>some (s::u::l)
    | _=>none
   | none=>none
  | _,_=>none
 | (t,.bque _ _ _)::r,F,H=>match iL F t,uR r F H with
  | .hptr s _,some l=>match fO H s with
   | some k=>match k.cells with
    | [.own u _]=>some (s::u::l)
    | [.qs u _]=>some (s::u::l)
    | _=>none
   | none=>none
  | _,_=>none
 | (t,.bag _ t1 _ _ _)::r,F,H=>match iL F t,uR r F H with
  | .hptr s _,some l=>match fO H s with
   | some k=>match k.cells.drop t1.size with
    | .own u _::_=>some (s::u::l)
    | _=>none
   | none=>none
  | _,_=>none
 | (t,.bag2 _ t1 _ _ _ _)::r,F,H=>match iL F t,uR r F H with
  | .hptr s _,some l=>match fO H s with
   | some k=>match k.cells.drop t1.size with
    | [.own u _,.own v _]=>some (s::u::v::l)
    | _=>none
   | none=>none
  | _,_=>none
 | (_,.ar _ _)::r,F,H=>match yT 0 H,uR r F H with
  | some (ra,_),some l=>some (ra::l)
  | _,_=>none
 | _::r,F,H=>uR r F H
def AW(T:List Nat) (sh:List (Nat×Kd)) (F:Frm) (H:Heap):Option (Shape.den sh) :=
 match lP sh F H with
 | (F0,H0)=>match lV sh F0 H0 with
  | (F1,H1)=>match cV sh F1 H1 with
   | (F2,H2)=>match uR sh F2 H2 with
    | some pm=>match compact T pm (slotsOf sh) F2 H2 with
     | some (F',H')=>bif Nat.beq H'.length (GM sh) then NC sh F' H' 0 else none
     | none=>none
    | none=>none
section
variable {P:Program} {n0:Nat->Prop} {w wi:World} {G Gi:Gd} {μ μi μ':Mp} {H:Heap} {F:Frm} {a:Act} {nt:Nat}
theorem pC:∀ {l r i},posOf l r=some i->l[i]?=some r
 | [],r,i,h=>by cases h
 | x::l,r,i,h=>by
  simp only[posOf]at h;cases hb:Nat.beq x r with
  | true =>
   rw[hb]at h;simp only[oC,oJ]at h;subst h
   simp_all
  | false =>
   rw[hb]at h;simp only[oD]at h;split at h
   ·rename_i j hj;simp only[oJ]at h;subst h;simpa using pC hj
   grind
theorem xJ:∀ {l} {r i:Nat},posOf l r=none->l[i]?=some r->False
 | [],r,i,_,h=>by grind
 | x::l,r,i,hn,h=>by
  simp only[posOf]at hn;cases hb:Nat.beq x r with
  | true=>grind
  | false =>
   rw[hb]at hn;split at hn
   ·grind
   ·rename_i hp;cases i with
    | zero =>
     simp_all
    | succ i=>exact xJ hp (by simpa using h)
theorem xI:∀ {l} {i j r:Nat},BJ l=true->l[i]?=some r->l[j]?=some r->i=j
 | [],i,j,r,_,h,_=>by grind
 | x::l,i,j,r,hn,h1,h2=>by
  simp only[BJ,oA]at hn;obtain⟨hp,hn⟩:=hn;have hx:posOf l x=none:=by grind
  cases i with
  | zero =>
   simp only[List.getElem?_cons_zero,oJ]at h1;subst h1;cases j with
   | zero=>rfl
   | succ j=>exact(xJ hx (by simpa using h2)).elim
  | succ i =>
   cases j with
   | zero =>
    simp only[List.getElem?_cons_zero,oJ]at h2;subst h2;exact(xJ hx (by simpa using h1)).elim
   | succ j=>exact oZ (·+1) (xI hn (by simpa using h1) (by grind))
def uP(μ:Mp) (pm:List Nat):Mp:=⟨λi=>match pm[i]? with|some r=>μ.loc r|none=>none,λi=>match pm[i]? with|some r=>μ.len r|none=>none,λi=>match pm[i]? with|some r=>μ.sh r|none=>0⟩
theorem fC {pm i r}(h:pm[i]?=some r):(uP μ pm).loc i=μ.loc r/\(uP μ pm).len i=μ.len r/\(uP μ pm).sh i=μ.sh r:=by simp[uP,h]
mutual
theorem II {pm:List Nat}:∀ (p q:PV) (v:Value),pZ pm p=some q->VR w G μ p v->VR w G (uP μ pm) q v
 | .lit u,q,v,h,hv=>by simp only[pZ,oJ]at h; subst h; rw[VR]at hv ⊢; exact hv
 | .vals ..,q,v,h,hv=>by simp only[pZ,oJ]at h; subst h; rw[VR]at hv ⊢; exact hv
 | .iptr _,q,v,h,hv=>by simp only[pZ,oJ]at h; subst h; rw[VR]at hv ⊢; exact hv
 | .tl ..,q,v,h,hv=>by simp only[pZ,oJ]at h; subst h; rw[VR]at hv ⊢; exact hv
 | .tp ..,q,v,h,hv=>by simp only[pZ,oJ]at h; subst h; rw[VR]at hv ⊢; exact hv
 | .row ..,q,v,h,hv=>by simp only[pZ,oJ]at h; subst h; rw[VR]at hv ⊢; exact hv
 | .rp ..,q,v,h,hv=>by simp only[pZ,oJ]at h; subst h; rw[VR]at hv ⊢; exact hv
 | .mp _,q,v,h,hv=>by simp only[pZ,oJ]at h; subst h; rw[VR]at hv ⊢; exact hv
 | .tm _,q,v,h,hv=>by simp only[pZ,oJ]at h; subst h; rw[VR]at hv ⊢; exact hv
 | .junk,q,v,h,hv=>by simp only[pZ,oJ]at h; subst h; rw[VR]; trivial
 | .hptr r off,q,v,h,hv=>by
  simp only[pZ]at h;split at h
  ·rename_i i hi;simp only[oJ]at h;subst h;have:=fC (μ:=μ) (pC hi);rw[VR]at hv ⊢; rw[this.1,this.2.2]; exact hv
  ·cases h
 | .hs r off l c s,q,v,h,hv=>by
  simp only[pZ]at h;split at h
  ·rename_i i hi;simp only[oJ]at h;subst h;have:=fC (μ:=μ) (pC hi);rw[VR]at hv ⊢; rw[this.1,this.2.2]; exact hv
  ·cases h
 | .own r s,q,v,h,hv=>by
  simp only[pZ]at h;split at h
  ·rename_i i hi;simp only[oJ]at h;subst h;have:=fC (μ:=μ) (pC hi);rw[VR]at hv ⊢; rw[this.1,this.2.1,this.2.2]; exact hv
  ·cases h
 | .qs r s,q,v,h,hv=>by
  simp only[pZ]at h;split at h
  ·rename_i i hi;simp only[oJ]at h;subst h;have:=fC (μ:=μ) (pC hi);rw[VR]at hv ⊢; rw[this.1,this.2.1,this.2.2]; exact hv
  ·cases h
 | .op r j off s,q,v,h,hv=>by
  simp only[pZ]at h;split at h
  ·rename_i i hi;simp only[oJ]at h;subst h;have:=fC (μ:=μ) (pC hi);rw[VR]at hv ⊢; rw[this.1,this.2.2]; exact hv
  ·cases h
 | .win r lo n s,q,v,h,hv=>by
  simp only[pZ]at h;split at h
  ·rename_i i hi;simp only[oJ]at h;subst h;have:=fC (μ:=μ) (pC hi);rw[VR]at hv ⊢; rw[this.1,this.2.1,this.2.2]; exact hv
  ·cases h
 | .agg cs,q,v,h,hv=>by
  simp only[pZ]at h;split at h
  ·rename_i qs hq;simp only[oJ]at h;subst h;rw[VR]at hv ⊢;obtain⟨vs,h1,h2⟩:=hv;exact⟨vs,h1,sQ cs qs _ hq h2⟩
  ·cases h
 | .tuple cs,q,v,h,hv=>by
  simp only[pZ]at h;split at h
  ·rename_i qs hq;simp only[oJ]at h;subst h;rw[VR]at hv ⊢;obtain⟨vs,h1,h2⟩:=hv;exact⟨vs,h1,sQ cs qs _ hq h2⟩
  ·cases h
 | .clo fn f c,q,v,h,hv=>by
  simp only[pZ]at h;split at h
  ·rename_i f' c' hf hc;simp only[oJ]at h;subst h;rw[VR]at hv ⊢;obtain⟨fs,cs,h1,h2,h3⟩:=hv;exact⟨fs,cs,h1,sQ f f' _ hf h2,sQ c c' _ hc h3⟩
  ·cases h
theorem sQ {pm:List Nat}:∀ (ps qs:List PV) (vs:List Value),pZ.renPs pm ps=some qs->VRs w G μ ps vs->VRs w G (uP μ pm) qs vs
 | [],qs,vs,h,hv=>by
  simp only[pZ.renPs,oJ]at h;subst h;rw[VRs]at hv ⊢; exact hv
 | p::ps,qs,vs,h,hv=>by
  simp only[pZ.renPs]at h;split at h
  ·rename_i q qs' hq hqs;simp only[oJ]at h;subst h;rw[VRs]at hv ⊢;obtain⟨x,xs,h1,h2,h3⟩:=hv;exact⟨x,xs,h1,II p q x hq h2,sQ ps qs' xs hqs h3⟩
  ·cases h
end
theorem DH {pm}:∀ {l H'},C0 pm H l=some H'->H'.length=l.length/\∀ (i:Nat) k',H'[i]?=some (some k')->∃ s k,l[i]?=some s/\H[s]?=some (some k)/\((k.tag.isSome=true/\k'=k)\/(k.tag=none/\∃ cs,pZ.renPs pm k.cells=some cs/\k'={ k with cells:=cs }))
 | [],H',h=>by
  simp only[C0,oJ]at h;grind
 | r::l,H',h=>by
  simp only[C0]at h;split at h
  ·rename_i k hk;split at h
   ·rename_i k1 H1 h1 h2;simp only[oJ]at h;subst h;obtain⟨e1,e2⟩:=DH h2;refine⟨by simp[e1],λi k' hi=>?_⟩;cases i with
    | zero =>
     simp only[List.getElem?_cons_zero,oJ]at hi;subst hi;refine⟨r,k,rfl,bB hk,?_⟩;cases ht:k.tag with
     | some g =>
      grind
     | none =>
      grind
    | succ i =>
     grind
   ·cases h
  ·cases h
theorem JS(hW:eA n0 G μ H w){pm}(hn:BJ pm=true){H'}(h:C0 pm H pm=some H'):eA n0 G (uP μ pm) H' w:=by
 obtain⟨hlen,fO⟩:=DH h;refine⟨?_,?_,?_,hW.lt,?_,hW.base,hW.rows.rel (λr s=>pm[r]?=some s) (λr r' s h1 h2=>xI hn h1 h2) (λr k' hr=>?_)⟩
 case refine_5 =>
  obtain⟨s,k,a1,a2,a3⟩:=fO r k' hr;refine⟨s,k,a1,a2,?_⟩;rcases a3 with ⟨_,rfl⟩|⟨_,cs,_,rfl⟩
  ·exact⟨rfl,rfl,rfl,rfl,(fC a1).1⟩
  ·exact⟨rfl,rfl,rfl,rfl,(fC a1).1⟩
 ·intro r k' b hr hb;obtain⟨s,k,a1,a2,a3⟩:=fO r k' hr;rw[(fC a1).1]at hb;obtain⟨c,c1,c2,c3,c4⟩:=hW.blk s k b a2 hb;rw[(fC a1).2.2];rcases a3 with ⟨ht,rfl⟩|⟨ht,cs,hcs,rfl⟩
  ·refine⟨c,c1,?_,c3,c4⟩;obtain⟨g,hg⟩:=Option.isSome_iff_exists.1 ht;have:=(hW.tags s k' g a2 hg).1;rw[this]at c2 ⊢;exact EA (nN _ _) c2
  ·obtain⟨vs,d1,d2⟩:=c2.values;have d3:=sQ _ _ _ hcs d1;exact⟨c,c1,aK.gF d3 d2,λhg=>by rw[c3 hg]; show k.cells.length=cs.length; rw[d1.length,d3.length],c4⟩
 ·intro r k' g hr hg;obtain⟨s,k,a1,a2,a3⟩:=fO r k' hr;rw[(fC a1).2.1];rcases a3 with ⟨ht,rfl⟩|⟨ht,cs,hcs,rfl⟩
  ·exact hW.tags s k' g a2 hg
  ·grind
 ·intro r1 r2 k1 k2 b e1 e2 f1 f2 m1 m2;obtain⟨s1,l1,a1,a2,a3⟩:=fO r1 k1 e1;obtain⟨s2,l2,b1,b2,b3⟩:=fO r2 k2 e2;rw[(fC a1).1]at m1;rw[(fC b1).1]at m2;have fz:∀ {k k':Blk},k'.frozen=false->((k.tag.isSome=true/\k'=k)\/(k.tag=none/\∃ cs,pZ.renPs pm k.cells=some cs/\k'={ k with cells:=cs }))->k.frozen=false:=by grind
  have:=hW.inj s1 s2 l1 l2 b a2 b2 (fz f1 a3) (fz f2 b3) m1 m2;subst this;exact xI hn a1 b1
 ·intro r hr;have:pm[r]?=none:=List.getElem?_eq_none (by omega);simp[uP,this]
theorem FF {pm}:∀ {l F'},LN pm F l=some F'->∀ t,iL F' t=.junk\/pZ pm (iL F t)=some (iL F' t)
 | [],F',h,t=>by
  simp only[LN,oJ]at h;subst h;exact .inl rfl
 | s::l,F',h,t=>by
  simp only[LN]at h;split at h
  ·rename_i p F1 hp hl;simp only[oJ]at h;subst h;rw[uD]
   by_cases hs:t=s
   ·grind
   ·rw[if_neg hs]; exact FF hl t
  grind
theorem CA {T pm slots F' H'}(h:compact T pm slots F H=some (F',H'))(hfl:∀ r,¬ r∈T->μi.loc r=none/\μi.len r=none)(hI:I n0 wi Gi μi nt F H a w):I n0 wi Gi μi nt F' H' a w:=by
 obtain⟨hn,h⟩:=cC h;simp only[oA]at hn;obtain⟨hn,hst⟩:=hn;have stay:∀ r,r∈T->pm[r]?=some r:=by
  intro r hr;have:=List.all_eq_true.1 hst r hr;split at this
  ·simp_all
  ·grind
 split at h
 ·rename_i H1 F1 h1 h2;obtain⟨rfl,rfl⟩:=h;obtain⟨G,μ,e,hW,hF⟩:=hI;refine⟨G,uP μ pm,?_,JS hW hn h1,hF.size,λt=>?_,hF.defers⟩
  ·exact {
    good:=e.good
    map:=λr b hr=>by
     by_cases hT:r∈T
     ·rw[(fC (stay r hT)).1]; exact e.map r b hr
     ·grind
    len:=λr b hr=>by
     by_cases hT:r∈T
     ·rw[(fC (stay r hT)).2.1]; exact e.len r b hr
     ·grind
    sh:=λr b hr=>by
     by_cases hT:r∈T
     ·rw[(fC (stay r hT)).2.2]; exact e.sh r b hr
     ·grind
    room:=e.room
    row:=e.row
    os:=e.os
    tape:=e.tape
    output:=e.output
    size:=e.size
    old:=e.old
    new:=e.new }
  ·rcases FF h2 t with h3|h3
   ·rw[h3,VR]; trivial
   ·exact II _ _ _ h3 (hF.slot t)
 ·cases h
theorem pX(hW:eA n0 G μ H w) {s:Nat} {k:Blk} {cs:List PV} (hs:H[s]?=some (some k)) (ht:k.tag=none) (hc:∀ b o,aK w G μ b o k.cells->aK w G μ b o cs/\cs.length=k.cells.length) :
  eA n0 G μ (H.set s (some { k with cells:=cs })) w:=by
 have hsl:s<H.length:=(oO.1 hs).1;have key:∀ (r:Nat) (k':Blk),(H.set s (some { k with cells:=cs }))[r]?=some (some k')->(r=s/\k'={ k with cells:=cs })\/(r≠s/\H[r]?=some (some k')):=by grind
 refine⟨?_,?_,?_,hW.lt,λr hr=>hW.top r (by simpa using hr),hW.base,hW.rows.rel (λr s=>r=s) (λr r' s h1 h2=>h1.trans h2.symm) (λr k' hr=>?_)⟩
 case refine_4 =>
  grind
 ·intro r k' b hr hb;rcases key r k' hr with ⟨rfl,rfl⟩|⟨_,hr⟩
  ·obtain⟨c,c1,c2,c3,c4⟩:=hW.blk r k b hs hb;grind
  ·exact hW.blk r k' b hr hb
 ·intro r k' g hr hg;rcases key r k' hr with ⟨rfl,rfl⟩|⟨_,hr⟩
  ·grind
  ·exact hW.tags r k' g hr hg
 ·intro r1 r2 k1 k2 b e1 e2 f1 f2 m1 m2;have old:∀ (r:Nat) (k':Blk),(H.set s (some { k with cells:=cs }))[r]?=some (some k')->k'.frozen=false->∃ k0,H[r]?=some (some k0)/\k0.frozen=false:=by grind
  obtain⟨l1,a1,a2⟩:=old r1 k1 e1 f1;obtain⟨l2,b1,b2⟩:=old r2 k2 e2 f2;exact hW.inj r1 r2 l1 l2 b a1 b1 a2 b2 m1 m2
theorem wG {s i et ty}(hI:I n0 wi Gi μi nt F H a w):I n0 wi Gi μi nt F (yA s i et ty H) a w:=by
 unfold yA;split
 ·rename_i k hk;split
  ·rename_i t' e' rest hcs;cases hb:(!k.tag.isSome)with
   | false=>exact hI
   | true =>
    have htag:k.tag=none:=by simp_all
    obtain⟨G,μ,e0,hW,hF⟩:=hI;obtain⟨e1,w1⟩:=mK hW ⟨aP ty [],et,true,false,some ⟨ty,[]⟩⟩ (on:=some 0) (λg hg=>by cases hg; exact⟨rfl,rfl⟩);have hk':=bB hk;have hsl:s<H.length:=(oO.1 hk').1;have hk2:(H++[some ⟨aP ty [],et,true,false,some ⟨ty,[]⟩⟩])[s]?=some (some k):=by rw[List.getElem?_append_left hsl]; exact hk'
    refine⟨G,_,e0.trans e1,pX w1 hk2 htag ?_,hF.mono e1.toMono⟩;intro b o hc;obtain⟨vs,d1,d2⟩:=hc.values;have d3:=d1.take i;have d4:=d1.drop i;rw[hcs,VRs]at d4;obtain⟨v,vc,e3,d5,d6⟩:=d4;obtain⟨ao,d7⟩:=zL d5;have d8:VRs w G (upd μ H.length none (some 0)) (k.cells.take i++.own H.length ty.size::rest) (vs.take i++v::vc):=VRs.append d3 (by
     refine⟨v,vc,rfl,?_,d6⟩;exact⟨0,rN ..,.inl ⟨rfl,ao,d7⟩⟩)
    rw[<- e3,List.take_append_drop]at d8;exact⟨aK.gF d8 d2,by rw[d8.length,d1.length]⟩
  ·rename_i m' c' rest hcs;cases hb:(Nat.beq m' 0&&Nat.beq c' 0&&!k.tag.isSome)with
   | false=>exact hI
   | true =>
    simp only[oA]at hb;obtain⟨⟨hm,hc⟩,hb⟩:=hb;have hm:=oE hm;have hc:=oE hc;subst hm; subst hc;have htag:k.tag=none:=by simp_all
    obtain⟨G,μ,e0,hW,hF⟩:=hI;obtain⟨e1,w1⟩:=mK hW ⟨aP ty [],et,true,false,some ⟨ty,[]⟩⟩ (on:=some 0) (λg hg=>by cases hg; exact⟨rfl,rfl⟩);have hk':=bB hk;have hsl:s<H.length:=(oO.1 hk').1;have hk2:(H++[some ⟨aP ty [],et,true,false,some ⟨ty,[]⟩⟩])[s]?=some (some k):=by rw[List.getElem?_append_left hsl]; exact hk'
    refine⟨G,_,e0.trans e1,pX w1 hk2 htag ?_,hF.mono e1.toMono⟩;intro b o hc;obtain⟨vs,d1,d2⟩:=hc.values;have d3:=d1.take i;have d4:=d1.drop i;rw[hcs,VRs]at d4;obtain⟨v,vc,e3,d5,d6⟩:=d4;have d8:VRs w G (upd μ H.length none (some 0)) (k.cells.take i++.own H.length ty.size::rest) (vs.take i++v::vc):=VRs.append d3 (by
     refine⟨v,vc,rfl,?_,d6⟩;exact⟨0,rN ..,.inl ⟨rfl,none,d5⟩⟩)
    rw[<- e3,List.take_append_drop]at d8;exact⟨aK.gF d8 d2,by rw[d8.length,d1.length]⟩
  ·exact hI
 ·exact hI
theorem aU:∀ sh F H,I n0 wi Gi μi nt F H a w->I n0 wi Gi μi nt (cV sh F H).1 (cV sh F H).2 a w
 | [],F,H,hI=>hI
 | (t,.own e ty)::r,F,H,hI=>by
  have skip:I n0 wi Gi μi nt (cV r F H).1 (cV r F H).2 a w:=aU r F H hI;unfold cV;split
  ·rename_i m c ht;cases hb:(Nat.beq m 0&&Nat.beq c 0)with
   | false=>exact skip
   | true =>
    simp only[oA]at hb;have h1:=oE hb.1;have h2:=oE hb.2;subst h1; subst h2;obtain⟨G,μ,e0,hW,hF⟩:=hI;have hs:=hF.slot t;rw[ht,VR]at hs;obtain⟨e1,w1⟩:=mK hW ⟨aP ty [],e,true,false,some ⟨ty,[]⟩⟩ (on:=some 0) (λg hg=>by cases hg; exact⟨rfl,rfl⟩);refine aU r _ _ ⟨G,_,e0.trans e1,w1,qJ.named (hF.mono e1.toMono) ?_⟩;exact⟨0,rN ..,.inl ⟨rfl,none,hs⟩⟩
  ·rename_i t' e' ht;obtain⟨G,μ,e0,hW,hF⟩:=hI;have hs:=hF.slot t;rw[ht]at hs;obtain⟨ao,hs⟩:=zL hs;obtain⟨e1,w1⟩:=mK hW ⟨aP ty [],e,true,false,some ⟨ty,[]⟩⟩ (on:=some 0) (λg hg=>by cases hg; exact⟨rfl,rfl⟩);refine aU r _ _ ⟨G,_,e0.trans e1,w1,qJ.named (hF.mono e1.toMono) ?_⟩;exact⟨0,rN ..,.inl ⟨rfl,ao,hs⟩⟩
  ·grind
 | (t,.bown e et ty)::r,F,H,hI=>by
  have skip:I n0 wi Gi μi nt (cV r F H).1 (cV r F H).2 a w:=aU r F H hI;unfold cV;split
  ·rename_i s off ht;split
   ·rename_i k hk;split
    ·rename_i m c hcs;cases hb:(Nat.beq m 0&&Nat.beq c 0&&!k.tag.isSome)with
     | false=>exact skip
     | true =>
      simp only[oC];simp only[oA,Bool.not_eq_true']at hb;have h1:=oE hb.1.1;have h2:=oE hb.1.2;subst h1; subst h2;have htag:k.tag=none:=by
       cases hq:k.tag with
       | none=>rfl
       | some g=>rw[hq]at hb; simp at hb
      obtain⟨G,μ,e0,hW,hF⟩:=hI;obtain⟨e1,w1⟩:=mK hW ⟨aP ty [],et,true,false,some ⟨ty,[]⟩⟩ (on:=some 0) (λg hg=>by cases hg; exact⟨rfl,rfl⟩);have hk':=bB hk;have hsl:s<H.length:=(oO.1 hk').1;have hk2:(H++[some ⟨aP ty [],et,true,false,some ⟨ty,[]⟩⟩])[s]?=some (some k):=by rw[List.getElem?_append_left hsl]; exact hk'
      refine aU r _ _ ⟨G,_,e0.trans e1,pX w1 hk2 htag ?_,hF.mono e1.toMono⟩;intro b o hc;rw[hcs]at hc ⊢;refine⟨?_,rfl⟩;rw[aK]at hc ⊢;obtain⟨⟨v,v1,v2⟩,v3⟩:=hc;refine⟨⟨v,v1,?_⟩,by rw[aK]; trivial⟩;have v4:v=.slice none 0 0:=by simpa only[VR]using v2
      simp only[VR];exact⟨0,rN ..,.inl ⟨rfl,none,v4⟩⟩
    ·exact skip
   ·exact skip
  ·exact skip
 | (_,.int _)::r,F,H,hI=>aU r F H hI
 | (_,.bool)::r,F,H,hI=>aU r F H hI
 | (_,.str)::r,F,H,hI=>aU r F H hI
 | (_,.list _)::r,F,H,hI=>aU r F H hI
 | (_,.agg _)::r,F,H,hI=>aU r F H hI
 | (_,.box _ _)::r,F,H,hI=>aU r F H hI
 | (_,.ptr _)::r,F,H,hI=>aU r F H hI
 | (_,.bque _ _ _)::r,F,H,hI=>aU r F H hI
 | (_,.fn _)::r,F,H,hI=>aU r F H hI
 | (_,.nil0)::r,F,H,hI=>aU r F H hI
 | (_,.val)::r,F,H,hI=>aU r F H hI
 | (_,.nilI)::r,F,H,hI=>aU r F H hI
 | (_,.clo _ _)::r,F,H,hI=>aU r F H hI
 | (_,.win _ _)::r,F,H,hI=>aU r F H hI
 | (_,.hnd _)::r,F,H,hI=>aU r F H hI
 | (_,.mpk _)::r,F,H,hI=>aU r F H hI
 | (_,.ar _ _)::r,F,H,hI=>aU r F H hI
 | (t,.bag2 e t1 et ty eu u)::r,F,H,hI=>by
  unfold cV;split
  ·exact aU r _ _ (wG (wG hI))
  ·exact aU r F H hI
 | (t,.bag e t1 et ty t2)::r,F,H,hI=>by
  have skip:I n0 wi Gi μi nt (cV r F H).1 (cV r F H).2 a w:=aU r F H hI;unfold cV;split
  ·rename_i s off ht;split
   ·rename_i k hk;split
    ·rename_i t' e' rest hcs;cases hb:(!k.tag.isSome)with
     | false=>exact skip
     | true =>
      simp only[oC];have htag:k.tag=none:=by
       cases hq:k.tag with
       | none=>rfl
       | some g=>rw[hq]at hb; simp at hb
      obtain⟨G,μ,e0,hW,hF⟩:=hI;obtain⟨e1,w1⟩:=mK hW ⟨aP ty [],et,true,false,some ⟨ty,[]⟩⟩ (on:=some 0) (λg hg=>by cases hg; exact⟨rfl,rfl⟩);have hk':=bB hk;have hsl:s<H.length:=(oO.1 hk').1;have hk2:(H++[some ⟨aP ty [],et,true,false,some ⟨ty,[]⟩⟩])[s]?=some (some k):=by rw[List.getElem?_append_left hsl]; exact hk'
      refine aU r _ _ ⟨G,_,e0.trans e1,pX w1 hk2 htag ?_,hF.mono e1.toMono⟩;intro b o hc;obtain⟨vs,d1,d2⟩:=hc.values;have d3:=d1.take t1.size;have d4:=d1.drop t1.size;rw[hcs,VRs]at d4;obtain⟨v,vc,e3,d5,d6⟩:=d4;obtain⟨ao,d7⟩:=zL d5;have d8:VRs w G (upd μ H.length none (some 0)) (k.cells.take t1.size++.own H.length ty.size::rest) (vs.take t1.size++v::vc):=VRs.append d3 (by
       rw[VRs];refine⟨v,vc,rfl,?_,d6⟩;rw[VR];exact⟨0,rN ..,.inl ⟨rfl,ao,d7⟩⟩)
      rw[<- e3,List.take_append_drop]at d8;exact⟨aK.gF d8 d2,by rw[d8.length,d1.length]⟩
    ·rename_i m' c' rest hcs;cases hb:(Nat.beq m' 0&&Nat.beq c' 0&&!k.tag.isSome)with
     | false=>exact skip
     | true =>
      simp only[oC];simp only[oA]at hb;obtain⟨⟨hm,hc⟩,hb⟩:=hb;have hm:=oE hm;have hc:=oE hc;subst hm; subst hc;have htag:k.tag=none:=by
       cases hq:k.tag with
       | none=>rfl
       | some g=>rw[hq]at hb; simp at hb
      obtain⟨G,μ,e0,hW,hF⟩:=hI;obtain⟨e1,w1⟩:=mK hW ⟨aP ty [],et,true,false,some ⟨ty,[]⟩⟩ (on:=some 0) (λg hg=>by cases hg; exact⟨rfl,rfl⟩);have hk':=bB hk;have hsl:s<H.length:=(oO.1 hk').1;have hk2:(H++[some ⟨aP ty [],et,true,false,some ⟨ty,[]⟩⟩])[s]?=some (some k):=by rw[List.getElem?_append_left hsl]; exact hk'
      refine aU r _ _ ⟨G,_,e0.trans e1,pX w1 hk2 htag ?_,hF.mono e1.toMono⟩;intro b o hc;obtain⟨vs,d1,d2⟩:=hc.values;have d3:=d1.take t1.size;have d4:=d1.drop t1.size;rw[hcs,VRs]at d4;obtain⟨v,vc,e3,d5,d6⟩:=d4;rw[VR]at d5;have d8:VRs w G (upd μ H.length none (some 0)) (k.cells.take t1.size++.own H.length ty.size::rest) (vs.take t1.size++v::vc):=VRs.append d3 (by
       rw[VRs];refine⟨v,vc,rfl,?_,d6⟩;rw[VR];exact⟨0,rN ..,.inl ⟨rfl,none,d5⟩⟩)
      rw[<- e3,List.take_append_drop]at d8;exact⟨aK.gF d8 d2,by rw[d8.length,d1.length]⟩
    ·exact skip
   ·exact skip
  ·exact skip
theorem aM:∀ sh F H,I n0 wi Gi μi nt F H a w->I n0 wi Gi μi nt (lV sh F H).1 (lV sh F H).2 a w
 | [],F,H,hI=>hI
 | (t,.box e (.list ty))::r,F,H,hI=>by
  have skip:I n0 wi Gi μi nt (lV r F H).1 (lV r F H).2 a w:=aM r F H hI;unfold lV;split
  ·rename_i s off ht;split
   ·rename_i k hk;split
    ·rename_i u sz hcs;split
     ·rename_i ku hku;split
      ·rename_i g hg;cases hb:(!k.tag.isSome&&!Nat.beq u s)with
       | false=>exact skip
       | true =>
        have htag:k.tag=none:=by simp_all
        have hne:u≠s:=λe=>by rw[e]at hb; simp at hb
        obtain⟨G,μ,e0,hW,hF⟩:=hI;have hul:u<H.length:=(oO.1 (bB hku)).1;have hk2:(H.set u (some { ku with frozen:=true }))[s]?=some (some k):=by rw[List.getElem?_set_ne hne]; exact bB hk
        have hku2:fO (H.set u (some { ku with frozen:=true })) u=some { ku with frozen:=true }:=by simp only[fO,List.getElem?_set_self hul]
        have fin:∀ {G1:Gd} {w1:World} {μ1:Mp},(∀ b,μ1.loc u=some b->G1 b)->eA n0 G1 μ1 (H.set u (some { ku with frozen:=true })) w1->eA n0 G1 μ1 ((H.set u (some { ku with frozen:=true })).set s (some { k with cells:=[uE g.t g.l none] })) w1:=by
         intro G1 w1 μ1 hGu hW1;refine pX hW1 hk2 htag λb o hc=>?_
         rw[hcs]at hc ⊢;refine⟨?_,rfl⟩;obtain⟨⟨v,v1,v2⟩,v3⟩:=hc;exact⟨⟨v,v1,(u7 hW1 v2 hku2 hg (λb h=>h) hGu).fK⟩,by rw[aK]; trivial⟩
        cases hfz:ku.frozen with
        | true =>
         have hsame:H.set u (some { ku with frozen:=true })=H:=by
          apply List.ext_getElem?;intro i
          by_cases hi:u=i
          ·subst hi;rw[List.getElem?_set_self hul,bB hku];obtain⟨k1,k2,k3,k4,k5⟩:=ku;grind
          ·grind
         refine aM r _ _ ⟨G,μ,e0,fin (λb hb=>?_) (by rw[hsame]; exact hW),hF⟩;obtain⟨_,_,_,_,h5,_⟩:=hW.blk u ku b (bB hku) hb;grind
        | false =>
         obtain⟨e1,w1⟩:=vU hW (bB hku) hfz;exact aM r _ _ ⟨_,μ,e0.trans e1,fin (λb hb=>.inr hb) w1,hF.mono e1.toMono⟩
      ·grind
     ·grind
    ·grind
   ·grind
  ·grind
 | (_,.int _)::r,F,H,hI=>aM r F H hI
 | (_,.bool)::r,F,H,hI=>aM r F H hI
 | (_,.str)::r,F,H,hI=>aM r F H hI
 | (_,.list _)::r,F,H,hI=>aM r F H hI
 | (_,.agg _)::r,F,H,hI=>aM r F H hI
 | (_,.box _ (.int _))::r,F,H,hI=>aM r F H hI
 | (_,.box _ .bool)::r,F,H,hI=>aM r F H hI
 | (_,.box _ .str)::r,F,H,hI=>aM r F H hI
 | (_,.box _ (.hnd _))::r,F,H,hI=>aM r F H hI
 | (_,.box _ (.rows _))::r,F,H,hI=>aM r F H hI
 | (_,.box _ .smap)::r,F,H,hI=>aM r F H hI
 | (_,.box _ (.prod _ _))::r,F,H,hI=>aM r F H hI
 | (_,.ptr _)::r,F,H,hI=>aM r F H hI
 | (_,.bque _ _ _)::r,F,H,hI=>aM r F H hI
 | (_,.fn _)::r,F,H,hI=>aM r F H hI
 | (_,.nil0)::r,F,H,hI=>aM r F H hI
 | (_,.val)::r,F,H,hI=>aM r F H hI
 | (_,.nilI)::r,F,H,hI=>aM r F H hI
 | (_,.clo _ _)::r,F,H,hI=>aM r F H hI
 | (_,.win _ _)::r,F,H,hI=>aM r F H hI
 | (_,.hnd _)::r,F,H,hI=>aM r F H hI
 | (_,.mpk _)::r,F,H,hI=>aM r F H hI
 | (_,.ar _ _)::r,F,H,hI=>aM r F H hI
 | (_,.own _ _)::r,F,H,hI=>aM r F H hI
 | (_,.bown _ _ _)::r,F,H,hI=>aM r F H hI
 | (_,.bag _ _ _ _ _)::r,F,H,hI=>aM r F H hI
 | (_,.bag2 _ _ _ _ _ _)::r,F,H,hI=>aM r F H hI
theorem BR {T sh x}(h:AW T sh F H=some x)(hfl:∀ r,¬ r∈T->μi.loc r=none/\μi.len r=none)(hI:I n0 wi Gi μi nt F H a w):I n0 wi Gi μi nt (JE sh x 0) (MX sh x) a w:=by
 unfold AW at h;replace hI:=mY sh F H hI;split at h;rename_i F0 H0 hd0;rw[hd0]at hI;replace hI:=aM sh F0 H0 hI;split at h;rename_i F1 H1 hd1;rw[hd1]at hI;replace hI:=aU sh F1 H1 hI;split at h;rename_i F2 H2 hd2;rw[hd2]at hI;split at h
 ·split at h
  ·rename_i F' H' ht;obtain⟨hb,h⟩:=cC h;obtain⟨G,μ,e,hW,hF⟩:=CA ht hfl hI;obtain⟨h1,h2⟩:=BW hW hF.slot sh h;have hH:∀ i:Nat,FX H'[i]? (MX sh x)[i]?:=by
    intro i;rcases oG i (GM sh)with hl|hl
    ·have:=h2 i hl;rwa[Nat.zero_add]at this
    ·have e1:=oE hb;exact .inl (by rw[List.getElem?_eq_none (by omega),List.getElem?_eq_none (by rw[FZ]; omega)])
   exact⟨G,μ,e,hW.N4 hH,hF.size,h1,hF.defers⟩
  grind
 grind
end
end Go.PM
