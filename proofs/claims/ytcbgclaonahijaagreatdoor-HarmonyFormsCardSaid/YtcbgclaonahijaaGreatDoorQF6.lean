/- Texts of one proof, joined (6). -/
import Derived.OrdersIn
import Derived.TacticsIn
import Derived.RangeFuncRecord
import Derived.Sort.LoopGhostIn
import Derived.RangeFuncSeq
import Derived.Test.YtcbgclaonahijaaGreatDoorProg
import Derived.Lib.AppendIntMem
import Derived.WalkKit
import Derived.BigCall
import Derived.BigGuard
import Derived.Lib.SmallJoins
import Derived.Test.YtcbgclaonahijaaGreatDoorQF5
set_option linter.unusedSimpArgs false
set_option linter.unusedVariables false
set_option linter.defProp false
set_option maxRecDepth 100000
noncomputable section
namespace Go.PM
open Go Go.RowKit
@[reducible] def Fr(ro:Option Nat):Fence:={ Fence.wide with round:=ro }
def KY(ds:List Deferred) (a:Act):Act:={ a with defers:=a.defers++ds }
def bSB ds a:(KY ds a).eval=a.eval:=by rfl
def aG0 ds a d v:(KY ds a).put d v=KY ds (a.put d v):=by cases d <;> rfl
def bNT {ro n P f args w R}(h:Calls P f args w R):CallsIn (Fr ro) n P f args w R :=(callsIn_wide).2 h
def bSM {ro n P row args w R}(h:Rows P row args w R):RowsIn (Fr ro) n P row args w R :=λc cs _=>let ⟨v,w',r,s⟩:=h c cs; ⟨v,w',r,stepsIn_wide.2 s⟩
section
variable {P:Program} {ro:Option Nat} {n:Nat} {ds:List Deferred} {Q Q':Exit->Act->World->Prop}
def bGK:Op->Bool| .defer _=>true| _=>false
def aPU(ops:Array Oper):Bool:=ops.toList.all λo=>!bGK o.op
def aJX {ops}(h:aPU ops=true){o}(a:o∈ops.toList):∀ c,o.op≠.defer c:=by
 intro c b;have:=List.all_eq_true.1 h o a;rw[b]at this;cases this
def bTF {o}(h:∀ c,o.op≠.defer c) ρ:o.semAt ro ρ=execOp ρ o:=by
 cases ro with
 | none=>rfl;| some l=>exact Oper.semAt_some l ρ o h
def bE1 {o:Oper}{a w K K'}(hd:∀ c,o.op≠.defer c)(g:∀ a w,K a w->K' (KY ds a) w)(k:∀ i a w,Q (.panic i) a w->Q' (.panic i) (KY ds a) w)(j:∀ a w,¬ Q .outgrown a w)(h:o.wp P a w K Q) :
  o.wpIn (Fr ro) n P (KY ds a) w K' Q':=by
 refine⟨λ_ _=>trivial,?_⟩;unfold Oper.wp at h;rw[bSB,bTF hd];generalize (execOp a.eval o).run P w=r at h ⊢;cases r with
 | ok x w' =>
  cases x with
  | value v=>show K' ((KY ds a).put o.dst v) w'; rw[aG0]; exact g _ _ h
  | skip=>show K' ((KY ds a).put o.dst undef) w'; rw[aG0]; exact g _ _ h
  | defer d =>
   have:=g _ _ h;show K' (({ KY ds a with defers:=d::(KY ds a).defers }:Act).put o.dst undef) w';have e:(({ KY ds a with defers:=d::(KY ds a).defers }:Act).put o.dst undef)=KY ds (({ a with defers:=d::a.defers }:Act).put o.dst undef):=by cases o.dst <;> rfl
   grind
  | enter f args =>
   refine⟨λh=>(by cases h),bNT (Calls.mono h ?_)⟩;rintro e b he;cases e with
   | returned v=>show K' ((KY ds a).put o.dst v) b; rw[aG0]; exact g _ _ he
   | panicked i=>grind
   | outgrown =>
    have⟨a0,w0,l⟩:=he;grind
  | row row args=>exact⟨λh=>(by cases h),bSM (Rows.mono h λv b he=>by rw[aG0]; grind)⟩
  | _=>exact h.elim
 | halt x w' =>
  cases x <;> first|exact k _ _ _ h|exact h.elim
def aX6 {ops}(b:∀ a w,¬ Q .outgrown a w)(f:∀ e a w,Q e a w->Q' e (KY ds a) w):∀ {l},(∀ o∈l,∀ c,o.op≠.defer c)->∀ {a w},wpList P ops Q l a w->wpListIn (Fr ro) n P ops Q' l (KY ds a) w
 | [],_,a,w,h=>f _ _ _ h
 | o::l,hd,a,w,h=>by
  simp only[wpList]at h;unfold wpListIn;split at h
  next hw=>
   have d:Region.wanted o (yielded ops (KY ds a).tmps)=true:=hw;rw[if_pos d];rcases h with h|⟨_,a0,w0,h0⟩
   ·exact bE1 (hd o List.mem_cons_self) (λa w i=>aX6 b f (λo g=>hd o (List.mem_cons_of_mem _ g)) i) (λ_ _ _ h=>f _ _ _ h) b h
   grind
  next hw=>have d:¬ Region.wanted o (yielded ops (KY ds a).tmps)=true:=hw;rw[if_neg d];refine⟨λ_ _=>trivial,?_⟩;rw[aG0];exact aX6 b f (λo g=>hd o (List.mem_cons_of_mem _ g)) h
def bEU {ops md}(hno:∀ a w,¬ Q .outgrown a w)(hQ:∀ e a w,Q e a w->Q' e (KY ds a) w)(hd:∀ o∈ops.toList,∀ c,o.op≠.defer c):∀ {fuel listed a w},wpAny P md ops Q fuel listed a w->wpAnyIn (Fr ro) n P md ops Q' fuel listed (KY ds a) w
 | 0,listed,a,w,h=>⟨h.1,hQ _ _ _ h.2⟩
 | fuel+1,listed,a,w,h=>by
  refine⟨λhr=>hQ _ _ _ (h.1 hr),λi hi=>?_⟩;have h2:=h.2 i hi;unfold wpOp at h2;unfold wpOpIn;split
  next hn=>rw[hn]at h2;exact bEU hno hQ hd h2
  next o ho=>
   rw[ho]at h2;simp only at h2;have hm:o∈ops.toList:=zt
   split at h2
   ·rename_i hw;have hw':Region.wanted o (yielded ops (KY ds a).tmps)=true:=hw;rw[if_pos hw'];rcases h2 with h2|⟨_,a0,w0,h0⟩
    ·exact bE1 (hd o hm) (λa w hk=>bEU hno hQ hd hk) (λ_ _ _ h=>hQ _ _ _ h) hno h2
    ·grind
   next hw=>have hw':¬ Region.wanted o (yielded ops (KY ds a).tmps)=true:=hw;rw[if_neg hw'];refine⟨λ_ _=>trivial,?_⟩;rw[aG0];exact bEU hno hQ hd h2
end
def Marks(wi w:World) (G:Gd):List Deferred->Prop| []=>True| d::ds=>(∃ b,d={ target:=.collected b,args:=#[] }/\w.heap[b]?=some (.deferred (some []))/\wi.heap.size<=b/\¬ G b/\∀ d'∈ds,d'≠d)/\Marks wi w G ds
def Marks.mem {wi w G}:∀ {ds},Marks wi w G ds->∀ d∈ds,∃ b,d={ target:=.collected b,args:=#[] }/\w.heap[b]?=some (.deferred (some []))/\wi.heap.size<=b/\¬ G b
 | [],_,d,hd=>zt
 | x::ds,h,d,hd=>by
  rcases List.mem_cons.1 hd with rfl|hd
  ·have⟨b,e,c,f,a,_⟩:=h.1;grind
  ·exact Marks.mem h.2 d hd
def Marks.to {wi w w' G G'}:∀ {ds},Marks wi w G ds->(∀ b,({ target:=.collected b,args:=#[] })∈ds->w.heap[b]?=some (.deferred (some []))->¬ G b->w'.heap[b]?=some (.deferred (some []))/\¬ G' b)->Marks wi w' G' ds
 | [],_,_=>trivial
 | x::ds,h,hs=>by
  obtain⟨⟨b,rfl,c,d,i,a⟩,g⟩:=h;have⟨f,j⟩:=hs b List.mem_cons_self c i;exact⟨⟨b,rfl,f,d,j,a⟩,Marks.to g λb e=>hs b (List.mem_cons_of_mem _ e)⟩
def IM(n0:Nat->Prop) (wi:World) (Gi:Gd) (μi:Mp) (nt:Nat) (F:Frm) (H:Heap) (a:Act) (w:World):Prop :=∃ G μ,Ext n0 wi Gi μi w G μ/\aX n0 G μ H w/\fG w G μ nt F { a with defers:=[] }/\Marks wi w G a.defers
section
variable {P:Program} {E:Env} {n0 n1:Nat->Prop} {w w' wi:World} {G G' Gi:Gd} {μ μ' μi:Mp} {H:Heap} {F:Frm} {a:Act} {nt:Nat}
def Ext.wider (h:Ext n1 w G μ w' G' μ')(hn:∀ b,n1 b->n0 b):Ext n0 w G μ w' G' μ' :=⟨h.toMono,h.os,h.tape,h.output,h.size,λb hb hnb=>h.old b hb λh1=>hnb (hn b h1),λb hb=>(h.new b hb).imp id (hn b)⟩
def aX.wider (h:aX n1 G μ H w)(hn:∀ b,n1 b->n0 b):aX n0 G μ H w :=
 ⟨λr k b hr hb=>by
  have⟨c,h1,h2,h3,h4,h5⟩:=h.blk r k b hr hb;grind,h.tags,h.inj,h.lt,h.top,λb hb=>hn b (h.base b hb),h.rows.aXW λ_ b _=>hn b⟩
def aX.less (h:aX n0 G μ H w) {S:Nat->Prop} (hS:∀ b,S b->b<w.heap.size/\(∀ c t fr,w.heap[b]?≠some (.cells c t fr))/\∀ es clk,w.heap[b]?≠some (.map es clk)):aX (λb=>n0 b/\¬ S b) G μ H w :=
 ⟨λr k b hr hb=>by
  have⟨c,h1,h2,h3,h4,h5⟩:=h.blk r k b hr hb;exact⟨c,h1,h2,h3,h4,λhf=>⟨⟨(h5 hf).1,λhs=>(hS b hs).2.1 _ _ _ h1⟩,(h5 hf).2⟩⟩,h.tags,h.inj,h.lt,h.top,λb hb=>⟨h.base b hb,λhs=>Nat.lt_irrefl _ (Nat.lt_of_lt_of_le (hS b hs).1 hb)⟩,h.rows.aXW λj b hj hn=>⟨hn,λhs=>by
   rcases h.rows.cel j b hj with ⟨c,t,fr,hc⟩|⟨es,clk,hc⟩
   ·grind
   ·exact(hS b hs).2.2 es clk hc⟩⟩
def fG.same (h:fG w G μ nt F a):fG w G μ nt F { a with defers:=[] }:=⟨h.size,h.slot,rfl⟩
def I.b09 (h:I n0 wi Gi μi nt F H a w):IM n0 wi Gi μi nt F H a w:=by
 have⟨G,μ,e,c,b⟩:=h;refine⟨G,μ,e,c,b.same,?_⟩;rw[b.defers]; trivial
def a6V {nt:Nat} {id:Nat} {ops:Array Oper} {draw:Bool} {F:Frm} {H:Heap} {α:Type} {z:α} {k:Frm->Heap->Option α} (hcl:dS P (gJ P E)) (hP:P.follows .mixedOrders=true) (hd:aPU ops=true) (h:aAL P E nt ops draw F H k=some z) :
  ∃ F' H',k F' H'=some z/\∀ {ro:Option Nat} {n:Nat} {n0 wi Gi μi} {a w} {Q:Exit->Act->World->Prop},IM n0 wi Gi μi nt F H a w->(∀ a' w',a'.defers=a.defers->IM n0 wi Gi μi nt F' H' a' w'->Q .normal a' w')->(Code.region id ops draw).wpIn (Fr ro) n P Q a w:=by
 have core:∃ F' H',k F' H'=some z/\∀ {ro:Option Nat} {n:Nat} {n0 wi Gi μi} {a w} {ds:List Deferred} {Q:Exit->Act->World->Prop},I n0 wi Gi μi nt F H a w->(∀ a' w',I n0 wi Gi μi nt F' H' a' w'->Q .normal (KY ds a') w')->(Code.region id ops draw).wpIn (Fr ro) n P Q (KY ds a) w:=by
  cases draw with
  | true =>
   have⟨F',H',h2,h3⟩:=aOC h;refine⟨F',H',h3,?_⟩;intro ro n n0 wi Gi μi a w ds Q hI hQ;refine wpIn_region_any hP (bEU (Q:=λe a' w'=>e=.normal/\I n0 wi Gi μi nt F' H' a' w') (λa w h=>by cases h.1) (λe a' w' h=>by obtain⟨rfl,h⟩:=h; exact hQ a' w' h) (λo ho=>aJX hd ho) ?_);exact aRP hcl h2 hI (λa' w' h=>⟨rfl,h⟩)
  | false =>
   unfold aAL at h;have⟨F',H',h2,h3⟩:=IU h;refine⟨F',H',h3,?_⟩;intro ro n n0 wi Gi μi a w ds Q hI hQ;refine wpIn_region_list (aX6 (Q:=λe a' w'=>e=.normal/\I n0 wi Gi μi nt F' H' a' w') (λa w h=>by cases h.1) (λe a' w' h=>by obtain⟨rfl,h⟩:=h; exact hQ a' w' h) (λo ho=>aJX hd ho) ?_);exact NT hcl ops.toList F H _ _ h2 hI (λa' w' h=>⟨rfl,h⟩)
 have⟨F',H',h1,h2⟩:=core;refine⟨F',H',h1,?_⟩;intro ro n n0 wi Gi μi a w Q hI hQ;have⟨G,μ,e,hW,hF,hm⟩:=hI;have hS:∀ b,({ target:=.collected b,args:=#[] }:Deferred)∈a.defers->b<w.heap.size/\(∀ c t fr,w.heap[b]?≠some (.cells c t fr))/\∀ es clk,w.heap[b]?≠some (.map es clk):=(by intro b hb;have⟨b',e1,e2,_⟩:=hm.mem _ hb;grind);have e0:a=KY a.defers { a with defers:=[] }:=rfl;refine h2 (n0:=λb=>n0 b/\¬ ({ target:=.collected b,args:=#[] }:Deferred)∈a.defers) (wi:=w) (Gi:=G) (μi:=μ) ⟨G,μ,Ext.refl _ _ _ _,hW.less hS,hF⟩ ?_;rintro a' w' ⟨G',μ',e',hW',hF'⟩;have hW2:aX n0 G' μ' H' w':=hW'.wider λb hb=>hb.1;have hdef:(KY a.defers a').defers=a.defers:=(by show a'.defers++a.defers=a.defers;rw[hF'.defers]; rfl);refine hQ _ _ hdef ⟨G',μ',e.trans (e'.wider λb hb=>hb.1),hW2,hF'.same,?_⟩;rw[hdef];refine hm.to λb hb h1 h2=>⟨?_,λhg=>?_⟩;rw[e'.old b (hS b hb).1 (λh=>h.2 hb)]; exact h1;rcases e'.new b hg with h|h;grind;grind
end
def aN3(T:List Nat):(l:zc)->Ex->Frm->Heap->Option (AQ l)| [],_,_,_=>none| [(e,s)],ex,F,H=>bif bLC e ex then NU T s F H else none|(e,s)::b::r,ex,F,H=>bif bLC e ex then (match NU T s F H with|some x=>some (.inl x)|none=>none) else (match aN3 T (b::r) ex F H with|some y=>some (.inr y)|none=>none)
section
variable {α:Type} (P:Program) (E:Env) (nt keep:Nat) (lt rt:Nat->Option cI) (rd:Bool) (T:List Nat)
def TP:Code->Frm->Heap->(Ex->Frm->Heap->Option α)->Option α
 | .skip,F,H,k=>k .normal F H
 | .label _,F,H,k=>k .normal F H
 | .region _ ops draw,F,H,k=>bif aPU ops then aAL P E nt ops draw F H λF H=>aSZ keep F λF=>k .normal F H else none
 | .seq a b,F,H,k=>TP a F H λex F H=>match ex with
  | .normal=>TP b F H k
  | .exit i=>k (.exit i) F H
  | .ret=>k .ret F H
 | .cond c a b,F,H,k=>match ev F c with
  | .lit (.bool t)=>bM8 F c t λF t=>bif t then TP a F H k else TP b F H k
  | _=>none
 | .block id a,F,H,k=>TP a F H λex F H=>match ex with
  | .exit i=>bif Nat.beq i id then k .normal F H else k (.exit i) F H
  | .normal=>k .normal F H
  | .ret=>k .ret F H
 | .loop a,F,H,k=>match lt (bM a)with
  | some s=>match NU T s.sh F H with
   | some x=>aB (s.run x) λz=>bNM s.exits z k
   | none=>none
  | none=>none
 | .rangeFunc _ _ _ a,F,H,k=>bif rd then none else match rt (bM a)with
  | some s=>match NU T s.sh F H with
   | some x=>aB (s.run x) λz=>bNM s.exits z k
   | none=>none
  | none=>none
 | .exit id,F,H,k=>k (.exit id) F H
 | .ret,F,H,k=>k .ret F H
 | _,_,_,_=>none
def a4E(T:List Nat) sh exits (ex:Ex)(F:Frm)(H:Heap):Option (Shape.den sh⊕AQ exits):=match ex with
 | .normal=>match NU T sh F H with
  | some y=>some (.inl y)
  | none=>none
 | .exit i=>match aN3 T exits (.exit i) F H with
  | some z=>some (.inr z)
  | none=>none
 | .ret=>match aN3 T exits .ret F H with
  | some z=>some (.inr z)
  | none=>none
def TD(a:Code) (sh:zb) (exits:zc) (x:Shape.den sh):Option (Shape.den sh⊕AQ exits) :=TP P E nt keep lt rt rd T a (KT sh x 0) (WN sh x) (a4E T sh exits)
end
def dV:Code->List Code| .seq a b=>dV a++dV b| .cond _ a b=>dV a++dV b| .block _ a=>dV a| .loop a=>[.loop a]| .rangeFunc g ps as1 a=>[.rangeFunc g ps as1 a]| _=>[]
section
variable {α:Type} {P:Program} {E:Env} {nt keep:Nat} {lt rt:Nat->Option cI} {rd:Bool} {T:List Nat}
def bJY(P:Program) (nt:Nat) (rd:Bool) (T:List Nat) (c:Code) (F:Frm) (H:Heap) (r:Ex×Frm×Heap):Prop :=∀ (ro:Option Nat) (n:Nat) (n0:Nat->Prop) (wi:World) (Gi:Gd) (μi:Mp) (a:Act) (w:World),(rd=false->ro=none)->(∀ r,¬ r∈T->μi.loc r=none/\μi.len r=none)->IM n0 wi Gi μi nt F H a w ->c.wpIn (Fr ro) n P (λe a' w'=>e=r.1.to/\IM n0 wi Gi μi nt r.2.1 r.2.2 a' w'/\(rd=true->a'.defers=a.defers)) a w
def H7(P:Program)(nt:Nat)(rd:Bool)(T:List Nat)(c:Code)(s:cI):Prop :=∀ x z,s.run x=some z->bJY P nt rd T c (KT s.sh x 0) (WN s.sh x) (R8 s.exits z)
def aKL(P:Program)(nt:Nat)(lt rt:Nat->Option cI)(rd:Bool)(T:List Nat):Code->Prop| .loop a=>∀ s,lt (bM a)=some s->H7 P nt rd T (.loop a) s| .rangeFunc g ps as1 a=>rd=false->∀ s,rt (bM a)=some s->H7 P nt rd T (.rangeFunc g ps as1 a) s| _=>True
def IM.bNR {n0 wi Gi μi F F' H a w}(h:IM n0 wi Gi μi nt F H a w)(d:∀ t,cR F' t=cR F t\/cR F' t=.junk):IM n0 wi Gi μi nt F' H a w:=by
 have⟨G,μ,e,c,b,hm⟩:=h;refine⟨G,μ,e,c,⟨b.size,λt=>?_,rfl⟩,hm⟩;rcases d t with h1|h1;rw[h1]; exact b.slot t;rw[h1,VR]; simp
def IM.same {n0:Nat->Prop} {wi:World} {Gi:Gd} {μi:Mp} {F F':Frm} {H H':Heap} {a:Act} {w:World} (hfl:∀ r,¬ r∈T->μi.loc r=none/\μi.len r=none)
  (hs:∀ {n0:Nat->Prop} {wi:World} {Gi:Gd} {μi:Mp} {a:Act},(∀ r,¬ r∈T->μi.loc r=none/\μi.len r=none)->I n0 wi Gi μi nt F H a w->I n0 wi Gi μi nt F' H' a w) (h:IM n0 wi Gi μi nt F H a w):IM n0 wi Gi μi nt F' H' a w:=by
 have⟨G,μ,e,hW,hF,hm⟩:=h;have hS:∀ b,({ target:=.collected b,args:=#[] }:Deferred)∈a.defers->b<w.heap.size/\(∀ c t fr,w.heap[b]?≠some (.cells c t fr))/\∀ es clk,w.heap[b]?≠some (.map es clk):=(by intro b hb;have⟨b',e1,e2,_⟩:=hm.mem _ hb;grind);have e0:Ext (λb=>n0 b/\¬ ({ target:=.collected b,args:=#[] }:Deferred)∈a.defers) w G μi w G μ:=⟨⟨λ_ h=>⟨h,rfl⟩,e.map,e.len,λ_ _ h=>h,λ_ _ h=>h,e.sh⟩,rfl,rfl,rfl,oM _,λ_ _ _=>rfl,λ_ h=>.inl h⟩;have⟨G',μ',e',hW',hF'⟩:=hs (n0:=λb=>n0 b/\¬ ({ target:=.collected b,args:=#[] }:Deferred)∈a.defers) (wi:=w) (Gi:=G) (μi:=μi) (a:={ a with defers:=[] }) hfl ⟨G,μ,e0,hW.less hS,hF⟩;refine⟨G',μ',?_,hW'.wider λb hb=>hb.1,hF',hm.to λb hb h1 h2=>⟨h1,λhg=>?_⟩⟩
 ·exact {
   good:=λb hb=>⟨(e'.good b (e.good b hb).1).1,(e.good b hb).2⟩
   map:=e'.map
   len:=e'.len
   sh:=e'.sh
   room:=e.room
   row:=λj b hj=>e'.row j b (e.row j b hj)
   os:=e.os
   tape:=e.tape
   output:=e.output
   size:=e.size
   old:=e.old
   new:=λb hb=>by
    rcases e'.new b hb with h|h
    ·exact e.new b h
    ·exact .inr h.1 }
 rcases e'.new b hg with h|h;grind;grind
def IM.dec {n0 wi Gi μi F H a w}(hfl:∀ r,¬ r∈T->μi.loc r=none/\μi.len r=none){sh x}(h:NU T sh F H=some x)(hI:IM n0 wi Gi μi nt F H a w):IM n0 wi Gi μi nt (KT sh x 0) (WN sh x) a w :=hI.same hfl λhfl hI=>XV h hfl hI
def aEW {ex F H}:∀ {l z},aN3 T l ex F H=some z ->
  (R8 l z).1=ex/\∃ sh,∃ x ,NU T sh F H=some x/\(R8 l z).2.1=KT sh x 0/\(R8 l z).2.2=WN sh x
 | [],z,_=>Empty.elim z
 | [(e,s)],z,h=>by
  have⟨a,h⟩:=aJ h;exact⟨a6O a,s,z,h,rfl,rfl⟩
 | (e,s)::b::r,z,h=>by
  simp only[aN3]at h;cases a:bLC e ex with
  | true =>
   rw[a]at h;simp only[oC]at h;split at h
   next x c=>simp only[oJ]at h;subst h;exact⟨a6O a,s,x,c,rfl,rfl⟩
   grind
  | false =>
   rw[a]at h;simp only[oD]at h;split at h
   next x c=>simp only[oJ]at h;subst h;exact aEW (z:=x) c
   ·cases h
def IM.aXN {n0 wi Gi μi F H a w ex}(b:∀ r,¬ r∈T->μi.loc r=none/\μi.len r=none){l z}(h:aN3 T l ex F H=some z)(c:IM n0 wi Gi μi nt F H a w) :
  (R8 l z).1=ex/\IM n0 wi Gi μi nt (R8 l z).2.1 (R8 l z).2.2 a w:=by
 have⟨d,sh,x,e,f,g⟩:=aEW h;exact⟨d,by rw[f,g]; exact c.dec b e⟩
def vG(p:dS P (gJ P E))(D:P.follows .mixedOrders=true):∀ c F H k (z:α),(∀ a∈dV c,aKL P nt lt rt rd T a) ->
  TP P E nt keep lt rt rd T c F H k=some z->∃ r ,k r.1 r.2.1 r.2.2=some z/\bJY P nt rd T c F H r
 | .skip,F,H,k,z,hl,h=>⟨(.normal,F,H),h,λ_ _ _ _ _ _ _ _ _ _ f=>wpIn_skip ⟨rfl,f,λ_=>rfl⟩⟩
 | .label l,F,H,k,z,hl,h=>⟨(.normal,F,H),h,λ_ _ _ _ _ _ _ _ _ _ f=>wpIn_label ⟨rfl,f,λ_=>rfl⟩⟩
 | .region id ops draw,F,H,k,z,hl,h=>by
  have⟨hd,h⟩:=aJ h;have⟨u,H1,m,o⟩:=a6V (id:=id) p D hd h;have⟨Q,B,C⟩:=aFU keep u λF=>k .normal F H1
  rw[B]at m;exact⟨(.normal,Q,H1),m,λ_ _ _ _ _ _ _ _ _ _ f=>o f λA w' I j=>⟨rfl,j.bNR C,λ_=>I⟩⟩
 | .seq x y,F,H,k,z,hl,h=>by
  have⟨⟨ex,u,H1⟩,m,o⟩:=vG p D x F H _ z (λa v=>hl a (by simp[dV,v])) h;cases ex with
  | normal =>
   have⟨r,B,C⟩:=vG p D y u H1 k z (λa v=>hl a (by simp[dV,v])) m;refine⟨r,B,λro n n0 wi Gi μi a w d b f=>wpIn_seq (wpIn_mono (o ro n n0 wi Gi μi a w d b f) ?_)⟩;rintro e A w' ⟨rfl,j,I⟩;refine wpIn_mono (C ro n n0 wi Gi μi A w' d b j) ?_;grind
  | exit i =>
   refine⟨(.exit i,u,H1),m,λro n n0 wi Gi μi a w d b f=>wpIn_seq (wpIn_mono (o ro n n0 wi Gi μi a w d b f) ?_)⟩;rintro e A w' ⟨rfl,j⟩;exact⟨rfl,j⟩
  | ret =>
   refine⟨(.ret,u,H1),m,λro n n0 wi Gi μi a w d b f=>wpIn_seq (wpIn_mono (o ro n n0 wi Gi μi a w d b f) ?_)⟩;rintro e A w' ⟨rfl,j⟩;exact⟨rfl,j⟩
 | .cond c x y,F,H,k,z,hl,h=>by
  simp only[TP]at h;split at h
  next t ht=>
   replace h:=aMV h ht;have J:∀ {n0 wi Gi μi a w},IM n0 wi Gi μi nt F H a w->a.eval c=.bool t:=λ{n0 wi Gi μi a w} f=>by
    have⟨G,μ,e,R,O,_⟩:=f;have J:=cT O c;rw[ht,VR]at J;rw[<- J];cases c <;> rfl
   cases t with
   | true =>
    have⟨r,B,C⟩:=vG p D x F H k z (λa v=>hl a (by simp[dV,v])) h;exact⟨r,B,λro n n0 wi Gi μi a w d b f=>wpIn_cond (J f) (C ro n n0 wi Gi μi a w d b f)⟩
   | false =>
    have⟨r,B,C⟩:=vG p D y F H k z (λa v=>hl a (by simp[dV,v])) h;exact⟨r,B,λro n n0 wi Gi μi a w d b f=>wpIn_cond (J f) (C ro n n0 wi Gi μi a w d b f)⟩
  ·cases h
 | .block id x,F,H,k,z,hl,h=>by
  simp only[TP]at h;have⟨⟨ex,u,H1⟩,m,o⟩:=vG p D x F H _ z (λa v=>hl a (by simp[dV,v])) h;cases ex with
  | normal =>
   refine⟨(.normal,u,H1),m,λro n n0 wi Gi μi a w d b f=>wpIn_block (wpIn_mono (o ro n n0 wi Gi μi a w d b f) ?_)⟩;rintro e A w' ⟨rfl,j⟩;exact⟨rfl,j⟩
  | ret =>
   refine⟨(.ret,u,H1),m,λro n n0 wi Gi μi a w d b f=>wpIn_block (wpIn_mono (o ro n n0 wi Gi μi a w d b f) ?_)⟩;rintro e A w' ⟨rfl,j⟩;exact⟨rfl,j⟩
  | exit i =>
   simp only at m;cases hi:Nat.beq i id with
   | true =>
    rw[hi]at m;have:=oE hi;subst this;refine⟨(.normal,u,H1),m,λro n n0 wi Gi μi a w d b f=>wpIn_block (wpIn_mono (o ro n n0 wi Gi μi a w d b f) ?_)⟩;rintro e A w' ⟨rfl,j⟩;simp only[Ex.to,Exit.inBlock,if_true];exact⟨trivial,j⟩
   | false =>
    rw[hi]at m;have N:¬ i=id:=λe=>by rw[e]at hi; simp at hi
    refine⟨(.exit i,u,H1),m,λro n n0 wi Gi μi a w d b f=>wpIn_block (wpIn_mono (o ro n n0 wi Gi μi a w d b f) ?_)⟩;rintro e A w' ⟨rfl,j⟩;simp only[Ex.to,Exit.inBlock,N,if_false];exact⟨trivial,j⟩
 | .loop x,F,H,k,z,hl,h=>by
  simp only[TP]at h;split at h
  next s K=>
   split at h
   next L M=>have⟨y,m,o⟩:=wA h;exact⟨R8 s.exits y,aFQ o,λro n n0 wi Gi μi a w d b f=>hl (.loop x) (by simp[dV]) s K L y m ro n n0 wi Gi μi a w d b (f.dec b M)⟩
   ·cases h
  ·cases h
 | .rangeFunc g ps as1 x,F,H,k,z,hl,h=>by
  simp only[TP]at h;cases q:rd with
  | true=>rw[q]at h; cases h
  | false =>
   rw[q]at h;simp only[oD]at h;split at h
   ·rename_i s K;split at h
    next L M=>have⟨y,m,o⟩:=wA h;refine⟨R8 s.exits y,aFQ o,λro n n0 wi Gi μi a w d b f=>?_⟩;have:=hl (.rangeFunc g ps as1 x) (by simp[dV]) q s K L y m ro n n0 wi Gi μi a w (by rw[q]; exact d) b (f.dec b M);rw[q]at this;exact this
    ·cases h
   ·cases h
 | .exit id,F,H,k,z,hl,h=>⟨(.exit id,F,H),h,λ_ _ _ _ _ _ _ _ _ _ f=>wpIn_exit ⟨rfl,f,λ_=>rfl⟩⟩
 | .scope x,F,H,k,z,hl,h=>by simp only[TP]at h; cases h
 | .ret,F,H,k,z,hl,h=>⟨(.ret,F,H),h,λ_ _ _ _ _ _ _ _ _ _ f=>wpIn_ret ⟨rfl,f,λ_=>rfl⟩⟩
 | .goto l,F,H,k,z,hl,h=>by simp only[TP]at h; cases h
 | .refuse s,F,H,k,z,hl,h=>by simp only[TP]at h; cases h
def aM2 {sh exits ex F H y}(h:a4E T sh exits ex F H=some y) :
  (∃ x,y=.inl x/\ex=.normal/\NU T sh F H=some x)\/(∃ z,y=.inr z/\ex≠.normal/\aN3 T exits ex F H=some z):=by
 cases ex with
 | normal =>
  simp only[a4E]at h;grind
 | exit i =>
  simp only[a4E]at h;grind
 | ret =>
  simp only[a4E]at h;grind
def FI(hcl:dS P (gJ P E)) (hP:P.follows .mixedOrders=true) {a:Code} {sh:zb} {exits:zc} {step:Shape.den sh->Option (Shape.den sh⊕AQ exits)} (L:Nat)
  (hl:∀ b∈dV a,aKL P nt lt rt rd T b) (hr:∀ x,TD P E nt keep lt rt rd T a sh exits x=step x):H7 P nt rd T (.loop a) ⟨sh,exits,aV step L⟩:=by
 intro x z hz ro n n0 wi Gi μi act w hro hfl hI;refine wpIn_loop_ghost (λk a w=>(∃ x,aV step k x=some z/\IM n0 wi Gi μi nt (KT sh x 0) (WN sh x) a w)/\(rd=true->a.defers=act.defers)) L ⟨⟨x,hz,hI⟩,λ_=>rfl⟩ ?_;rintro k act1 w ⟨⟨x,hz,hI⟩,hdef⟩;cases k with
 | zero=>cases hz
 | succ k =>
  simp only[aV]at hz;split at hz
  next y hs=>
   rw[<- hr]at hs;have⟨⟨ex,F',H'⟩,h1,h2⟩:=vG hcl hP a _ _ _ _ hl hs;refine wpIn_mono (h2 ro n n0 wi Gi μi act1 w hro hfl hI) ?_;rintro e a' w' ⟨rfl,hI',hd'⟩;rcases aM2 h1 with ⟨y',e1,e2,e3⟩|⟨z',e1,_,_⟩
   ·cases e1;subst e2;exact⟨k,by omega,⟨y,hz,hI'.dec hfl e3⟩,λhr=>(hd' hr).trans (hdef hr)⟩
   ·cases e1
  next y hs=>
   simp only[oJ]at hz;subst hz;rw[<- hr]at hs;have⟨⟨ex,F',H'⟩,h1,h2⟩:=vG hcl hP a _ _ _ _ hl hs;refine wpIn_mono (h2 ro n n0 wi Gi μi act1 w hro hfl hI) ?_;rintro e a' w' ⟨rfl,hI',hd'⟩;rcases aM2 h1 with ⟨y',e1,e2,e3⟩|⟨z',e1,e2,e3⟩
   ·cases e1
   ·cases e1;have⟨h3,h5⟩:=hI'.aXN hfl e3;have h6:(rd=true->a'.defers=act.defers):=λhr=>(hd' hr).trans (hdef hr)
    cases ex with
    | normal=>exact absurd rfl e2
    | exit i=>exact⟨by rw[h3],h5,h6⟩
    | ret=>exact⟨by rw[h3],h5,h6⟩
  ·cases hz
end
def aPO:Kd->Nat->List Nat| .own _ _,n|.box _ _,n|.bown _ _ _,n|.bque _ _ _,n|.bag _ _ _ _ _,n|.bag2 _ _ _ _ _ _,n=>[n]| .win j _,_=>[j]| _,_=>[]
def TH:zb->Nat->List Nat| [],_=>[]|(_,k)::r,n=>aPO k n++TH r (n+k.pos)
structure Stp (S:Nat->Prop) (B A:World):Prop where
 keep:∀ b,b<B.heap.size->¬ S b->A.heap[b]?=B.heap[b]?
 room:∀ b n,Room B b n->Room A b n
 os:A.os=B.os
 tape:A.tape=B.tape
 output:A.output=B.output
 size:B.heap.size<=A.heap.size
def Stp.trans {S A B C}(h:Stp S A B)(k:Stp S B C):Stp S A C :=⟨λb a c=>(k.keep b (Nat.lt_of_lt_of_le a h.size) c).trans (h.keep b a c),λb n d=>k.room b n (h.room b n d),k.os.trans h.os,k.tape.trans h.tape,k.output.trans h.output,oR h.size k.size⟩
def aOQ(P:Program) (gf:FuncId) (ts:List Ty) (ks:List Kd) (f:TZ ts->Option (List (aM ks))):Prop :=∀ x all,f x=some all->∀ (m l:Nat) (W:World) (G:Nat->Prop) (vs:List Value),Lt W G->VRs W (Gd.of G) aH (aOU ts x) vs ->∀ (J Jx:List (aM ks)->(Nat->Prop)->(Nat->Prop)->World->Prop),(∀ pre e post T X B T' X' A us Gx m',all=pre++e::post->J pre T X B->Stp X B A->(∀ b,T' b->(T b\/B.heap.size<=b)/\b<A.heap.size)->(∀ b,X' b->T' b/\(X b\/B.heap.size<=b)) ->(∀ b,Gx b->(G b\/T' b)/\¬ X' b)->VRs A (Gd.of Gx) aH (lF ks e) us ->YieldAt Fence.wide m' P l us.toArray A λen C=>((∀ b,b<A.heap.size->G b\/T' b->C.heap[b]?=A.heap[b]?)/\(∀ b n,Room A b n->Room C b n)/\A.heap.size<=C.heap.size)/\((en=.returned (.bool true)/\J (pre++[e]) T' X' C)\/(en=.returned (.bool false)/\Jx (pre++[e]) T' X' C))) ->J [] (λ_=>False) (λ_=>False) W ->CallsIn Fence.wide m P gf ((#[.func (.yield l) #[] #[]]:Array Value)++vs.toArray) W λen C=>(∃ v,en=.returned v)/\∃ T X B,Stp X B C/\(J all T X B\/∃ pre,Jx pre T X B)
def I6 {σ τ ε:Type} (step:σ->ε->Option (σ⊕τ)) (fin:σ->Option τ):List ε->σ->Option τ| [],y=>fin y| e::es,y=>match step y e with| some (.inl y')=>I6 step fin es y'| some (.inr z)=>some z| none=>none
def bJG:List Nat->List PV->Frm->Frm| t::ts,p::ps,F=>bJG ts ps ((t,p)::F)| _,_,F=>F
def bZ0(sh:zb) (exits:zc) (F0:Frm) (ex:Ex) (_:Frm) (H:Heap):Option (Shape.den sh⊕AQ exits):=a4E [] sh exits ex F0 H
def aST(P:Program)(E:Env)(nt keep:Nat)(lt rt:Nat->Option cI)(ps:List Nat)(assign body:Code) ks sh exits (y:Shape.den sh)(e:aM ks):Option (Shape.den sh⊕AQ exits) :=bif Nat.beq ps.length ks.length&&ps.all (λt=>Nat.blt t nt) then TP P E nt keep lt rt true (TH sh 0) assign (bJG ps (lF ks e) (KT sh y 0)) (WN sh y) λex F H=>match ex with| .normal=>TP P E nt keep lt rt true (TH sh 0) body F H (bZ0 sh exits (KT sh y 0))| _=>none else none
def bN2 sh exits (y:Shape.den sh):Option (AQ exits):=aN3 [] exits .normal (KT sh y 0) (WN sh y)
def a2H(sh:zb) (exits:zc) {ε:Type} (all:Shape.den sh->Option (List ε)) (step:Shape.den sh->ε->Option (Shape.den sh⊕AQ exits)) (x:Shape.den sh):Option (AQ exits) :=match all x with| some l=>I6 step (bN2 sh exits) l x| none=>none
def a8H(gf:FuncId) (ts:List Ty) (sh:zb) (g:Operand) (x:Shape.den sh):Option (TZ ts):=bif ts.all Ty.plain then bEY gf ts (ev (KT sh x 0) g) else none
section
variable {P:Program} {n0:Nat->Prop} {w wi:World} {G Gi:Gd} {μ μi:Mp} {H:Heap} {F:Frm} {a:Act} {nt:Nat}
def VZ {l:Nat} {o o':Obj} (g:w.heap[l]?=some o) (j:(∀ c t a,o≠.cells c t a)/\∀ es d,o≠.map es d) (hG:¬ G l):Mono w G μ (w.putObj l o') G μ :=
 ⟨λb f=>⟨f,World.putObj_heap_other (by rintro rfl; exact hG f)⟩,λ_ _ h=>h,λ_ _ h=>h,λb n ⟨cs,t,a,e,i⟩=>⟨cs,t,a,by
  rw[World.putObj_heap_other]
  ·exact e
  ·rintro rfl;rw[g]at e;exact j.1 cs t a (oB e),i⟩,λ_ _ h=>h,λ_ _ _=>rfl⟩
def aJ4(a:aX n0 G μ H w){l o o'}(p:w.heap[l]?=some o)(u:(∀ c t n,o≠.cells c t n)/\∀ es d,o≠.map es d)(hG:¬ G l):aX n0 G μ H (w.putObj l o'):=by
 have m:=VZ (μ:=μ) (o':=o') p u hG;refine⟨?_,a.tags,a.inj,a.lt.step m.good λb g=>by rw[World.putObj_size]; exact a.lt b g,a.top,λb g=>a.base b (by simp_all),a.rows.step m.aH R (λ_=>rfl) (λj b v=>⟨?_,id,λr k f h i=>⟨r,k,f,h,i⟩⟩) (λr k _ _ f _ _=>⟨k,f,rfl,rfl,rfl,rfl⟩)⟩
 case refine_2 =>
  rw[World.putObj_heap_other];rcases a.rows.cel j _ v with ⟨c,t,n,hc⟩|⟨es,d,hc⟩
  ·grind
  grind
 intro r k b q g;have⟨c,f,h,i,s⟩:=a.blk r k b q g;have e:(w.putObj l o').heap[b]?=w.heap[b]?:=by
  rw[World.putObj_heap_other];grind
 exact⟨c,e.trans f,aT.mono m e _ _ h,i,s⟩
def aOW {l o o'}(f:w.heap[l]?=some o)(g:(∀ c t h,o≠.cells c t h)/\∀ es a,o≠.map es a)(hG:¬ G l)(hn:n0 l):Ext n0 w G μ (w.putObj l o') G μ :=
 {toMono:=VZ f g hG
  os:=rfl
  tape:=rfl
  output:=rfl
  size:=R
  old:=λb d e=>World.putObj_heap_other zt
  new:=λb d=>.inl d }
def bPC {T X T' Gx G1:Nat->Prop} {A B:World} (hW:aX (λb=>n0 b/\¬ T b) G μ H B) (hn:∀ b,T b->n0 b) (hTX:∀ b,X b->T b) (hGX:∀ b,G b->¬ X b) (hG1:∀ b,G1 b->G b) (st:Stp X B A) (hT:∀ b,T' b->(T b\/B.heap.size<=b)/\b<A.heap.size) (hx:∀ b,Gx b->G1 b\/T' b) :
  Ext n0 B G μ A (G.or Gx) μ:={
 good:=λb hb=>⟨.inl hb,st.keep b (hW.lt b hb) (hGX b hb)⟩
 map:=λ_ _ h=>h
 len:=λ_ _ h=>h
 room:=st.room
 row:=λ_ _ h=>h
 os:=st.os
 tape:=st.tape
 output:=st.output
 size:=st.size
 old:=λb hb hnb=>st.keep b hb λhs=>hnb (hn b (hTX b hs))
 new:=λb hb=>by
  rcases hb with hb|hb
  ·grind
  ·rcases hx b hb with h|h
   ·grind
   ·rcases(hT b h).1 with h|h
    ·grind
    ·exact .inr (hW.base b h).1 }
def bKA {T X T' Gx G1:Nat->Prop}{A B}(hW:aX (λb=>n0 b/\¬ T b) G μ H B)(hTX:∀ b,X b->T b)(hGX:∀ b,G b->¬ X b)(hG1:∀ b,G1 b->G b)(st:Stp X B A)(hT:∀ b,T' b->(T b\/B.heap.size<=b)/\b<A.heap.size)(hx:∀ b,Gx b->G1 b\/T' b) :
  aX (λb=>n0 b/\¬ T' b) (G.or Gx) μ H A:=by
 have m:Mono B G μ A (G.or Gx) μ:=⟨λb hb=>⟨.inl hb,st.keep b (hW.lt b hb) (hGX b hb)⟩,λ_ _ h=>h,λ_ _ h=>h,st.room,λ_ _ h=>h,λ_ _ _=>rfl⟩;refine⟨?_,hW.tags,hW.inj,?_,hW.top,λb hb=>⟨(hW.base b (oR st.size hb)).1,λhs=>Nat.lt_irrefl _ (Nat.lt_of_lt_of_le (hT b hs).2 hb)⟩,?_⟩
 case refine_3 =>
  have nT:∀ j b,G.row j=some b->¬ T' b:=λj b hj hs=>by
   have⟨a1,a2,_⟩:=hW.rows.sep j b hj;grind
  refine(hW.rows.aXW (n1:=λb=>n0 b/\¬ T' b) λj b hj hn=>⟨hn.1,nT j b hj⟩).step m.aH st.size (λ_=>rfl) (λj b hj=>⟨?_,?_,λr k h1 h2 h3=>⟨r,k,h1,h2,h3⟩⟩) (λr k _ _ h1 _ _=>⟨k,h1,rfl,rfl,rfl,rfl⟩)
  ·have⟨a1,a2,_⟩:=hW.rows.sep j b hj;exact st.keep b a1 λhx=>a2.2 (hTX b hx)
  ·rintro(h|h)
   ·exact h
   ·grind
 ·intro r k b hr hb;have⟨c,h1,h2,h3,h4,h5⟩:=hW.blk r k b hr hb;have hlt:=hW.vB hr hb;have hns:¬ X b:=zt;have e:=st.keep b hlt hns;have nT:k.frozen=false->¬ T' b:=λhf hs=>zt
  refine⟨c,e.trans h1,aT.mono m e _ _ h2,h3,λhf=>.inl (h4 hf),λhf=>⟨⟨(h5 hf).1.1,nT hf⟩,?_⟩⟩;rintro(h|h);grind;grind
 refine hW.lt.step m.good ?_;rintro b (hb|hb);exact Nat.lt_of_lt_of_le (hW.lt b hb) st.size;rcases hx b hb with h|h;exact Nat.lt_of_lt_of_le (hW.lt b (hG1 b h)) st.size;grind
def bDT:∀ {ps qs us F tmps},ps.length=qs.length->(∀ t∈ps,t<nt)->VRs w G μ qs us->fG w G μ nt F { tmps:=tmps,defers:=[] } ->
  fG w G μ nt (bJG ps qs F) { tmps:=(ps.zip us).foldl (λt (p,v)=>t.setIfInBounds p v) tmps,defers:=[] }
 | [],[],us,F,tmps,_,_,hv,hF=>by exact hF
 | t::ts,q::qs,us,F,tmps,hl,hb,hv,hF=>by
  obtain⟨v,vs,rfl,c,b⟩:=hv;simp only[bJG];exact bDT zt (λs a=>hb s (List.mem_cons_of_mem _ a)) b (hF.cons (hb t List.mem_cons_self) c)
 | [],_::_,us,F,tmps,hl,_,_,_=>zt
 | _::_,[],us,F,tmps,hl,_,_,_=>zt
end
def TF(μ:Mp) (T:List Nat):Mp:=⟨λr=>if r∈T then μ.loc r else none,λr=>if r∈T then μ.len r else none,μ.sh⟩
section
variable {P:Program} {n0:Nat->Prop} {w w' wi:World} {G G' Gi:Gd} {μ μ' μi:Mp} {H:Heap} {F:Frm} {a:Act} {nt:Nat}
def SH {T r}(h:r∈T):(TF μ T).loc r=μ.loc r/\(TF μ T).len r=μ.len r/\(TF μ T).sh r=μ.sh r:=by simp[TF,h]
def aO8 {T}:∀ r,¬ r∈T->(TF μ T).loc r=none/\(TF μ T).len r=none:=λr h=>by simp[TF,h]
def aXA T:Ext n0 w G (TF μ T) w G μ:={
 good:=λ_ h=>⟨h,rfl⟩
 map:=λr b a=>by
  by_cases h:r∈T
  ·rw[(SH h).1]at a; grind
  ·rw[(aO8 r h).1]at a; grind
 len:=λr b a=>by
  by_cases h:r∈T
  ·rw[(SH h).2.1]at a; omega
  ·rw[(aO8 r h).2]at a; grind
 room:=λ_ _ h=>h
 row:=λ_ _ h=>h
 os:=rfl
 tape:=rfl
 output:=rfl
 size:=oM _
 old:=λ_ _ _=>rfl
 new:=λ_ h=>.inl h }
def aYB:∀ ts x,eM.noRefs (aOU ts x)=true| [],_=>rfl| t::r,(x,xs)=>by simp only[aOU,eM.noRefs,eM,aYB r xs,Bool.and_self]
def bRO {T}:∀ k x n {v},(∀ r,r∈aPO k n->r∈T)->VR w G μ (OB k x n) v->VR w G (TF μ T) (OB k x n) v
 | .int _,x,n,v,_,h=>by simp only[OB]at h ⊢; rw[VR]at h ⊢; exact h
 | .bool,x,n,v,_,h=>by simp only[OB]at h ⊢; rw[VR]at h ⊢; exact h
 | .str,x,n,v,_,h=>by simp only[OB]at h ⊢; rw[VR]at h ⊢; exact h
 | .list t,x,n,v,_,h=>(IV (OB (.list t) x n) v rfl h).bF
 | .agg t,x,n,v,_,h=>(IV (OB (.agg t) x n) v (by simp only[OB,eM]; exact aF7 t x) h).bF
 | .own e t,x,n,v,hT,h=>by
  have:=SH (μ:=μ) (hT n (by simp[aPO]));simp only[OB]at h ⊢;rw[VR]at h ⊢; rw[this.1,this.2.1,this.2.2]; exact h
 | .box e t,x,n,v,hT,h=>by
  have:=SH (μ:=μ) (hT n (by simp[aPO]));simp only[OB]at h ⊢;rw[VR]at h ⊢; rw[this.1,this.2.2]; exact h
 | .bown e et t,x,n,v,hT,h=>by
  have:=SH (μ:=μ) (hT n (by simp[aPO]));simp only[OB]at h ⊢;rw[VR]at h ⊢; rw[this.1,this.2.2]; exact h
 | .bque e et t,x,n,v,hT,h=>by
  have:=SH (μ:=μ) (hT n (by simp[aPO]));simp only[OB]at h ⊢;rw[VR]at h ⊢; rw[this.1,this.2.2]; exact h
 | .bag e t1 et t t2,x,n,v,hT,h=>by
  have:=SH (μ:=μ) (hT n (by simp[aPO]));simp only[OB]at h ⊢;rw[VR]at h ⊢; rw[this.1,this.2.2]; exact h
 | .bag2 e t1 et t eu u,x,n,v,hT,h=>by
  have:=SH (μ:=μ) (hT n (by simp[aPO]));simp only[OB]at h ⊢;rw[VR]at h ⊢; rw[this.1,this.2.2]; exact h
 | .ptr t,x,n,v,_,h=>(IV (OB (.ptr t) x n) v rfl h).bF
 | .fn g,x,n,v,_,h=>by simp only[OB]at h ⊢; rw[VR]at h ⊢; exact h
 | .nil0,x,n,v,_,h=>by simp only[OB]at h ⊢; rw[VR]at h ⊢; exact h
 | .val,x,n,v,_,h=>by simp only[OB]at h ⊢; rw[VR]at h ⊢; exact h
 | .hnd sz,x,n,v,_,h=>(IV (OB (.hnd sz) x n) v rfl h).bF
 | .mpk j,x,n,v,_,h=>(IV (OB (.mpk j) x n) v rfl h).bF
 | .ar e t,x,n,v,_,h=>by simp only[OB]; rw[VR]; trivial
 | .nilI,x,n,v,_,h=>by simp only[OB]at h ⊢; rw[VR]at h ⊢; exact h
 | .clo g ts,x,n,v,_,h=>(IV (OB (.clo g ts) x n) v (by simp only[OB,eM,eM.noRefs,aYB ts x,Bool.and_self]) h).bF
 | .win j sz,x,n,v,hT,h=>by
  have:=SH (μ:=μ) (hT j (by simp[aPO]));simp only[OB]at h ⊢;rw[VR]at h ⊢; rw[this.1,this.2.1,this.2.2]; exact h
def bDF {T}:∀ sh x n {t v},(∀ r,r∈TH sh n->r∈T)->VR w G μ (cR (KT sh x n) t) v->VR w G (TF μ T) (cR (KT sh x n) t) v
 | [],_,_,t,v,_,h=>by simp only[KT,cR]; rw[VR]; trivial
 | (s,k)::r,(x,xs),n,t,v,hT,h=>by
  simp only[KT]at h ⊢;rw[eY]at h ⊢
  by_cases a:t=s
  ·rw[if_pos a]at h ⊢;exact bRO k x n (λr b=>hT r (by simp only[TH]; grind)) h
  ·rw[if_neg a]at h ⊢;exact bDF r xs (n+k.pos) (λr b=>hT r (by simp only[TH]; grind)) h
def a3W(c:aX n0 G μ H w) (o:Obj):Ext n0 w G μ (w.alloc o) G μ/\aX n0 G μ H (w.alloc o):=by
 have e:Ext n0 w G μ (w.alloc o) G μ:={
  good:=λb a=>⟨a,Below.heap_alloc _ _ _ (c.lt b a)⟩
  map:=λ_ _ h=>h
  len:=λ_ _ h=>h
  room:=λb n m=>by
   have⟨cs,t,f,d,g⟩:=m;exact⟨cs,t,f,by rw[Below.heap_alloc _ _ _ (gN d)]; exact d,g⟩
  row:=λ_ _ h=>h
  os:=rfl
  tape:=rfl
  output:=rfl
  size:=R
  old:=λb a _=>Below.heap_alloc _ _ _ a
  new:=λb a=>.inl a }
 exact⟨e,c.keep e ⟨λ_=>rfl,λj b l=>⟨Below.heap_alloc _ _ _ (c.rows.sep j b l).1,id⟩⟩ (λr k b i a=>⟨Below.heap_alloc _ _ _ (c.vB i a),id⟩) λb a=>Nat.lt_of_lt_of_le (c.lt b a) e.size⟩
def Ext.plain (h:Ext n0 w G μ w' G' μ'):Ext n0 w G aH w' G' aH :={good:=h.good,map:=λ_ _ h=>(by cases h),len:=λ_ _ h=>(by cases h),room:=h.room,row:=h.row,os:=h.os,tape:=h.tape,output:=h.output,size:=h.size,old:=h.old,new:=h.new }
def Ext.back (c:∀ r,μi.loc r=none/\μi.len r=none)(h:Ext n0 w G aH w' G' aH):Ext n0 w G μi w' G' μ' :={good:=h.good,map:=λr b a=>zt,len:=λr b a=>zt,sh:=λr b a=>zt,room:=h.room,row:=h.row,os:=h.os,tape:=h.tape,output:=h.output,size:=h.size,old:=h.old,new:=h.new }
def Ex.code:Ex->Code| .normal=>.skip| .ret=>.ret| .exit i=>.exit i
structure Btw (n0:Nat->Prop) (wi:World) (Gi:Gd) (μi:Mp) (nt:Nat) (a:Act) (G0:Gd) (N L D:Nat) (F:Frm) (H:Heap) (T X:Nat->Prop) (B:World) (rec:Obj) (G:Gd) (μ:Mp):Prop where
 ext:Ext n0 wi Gi μi B G μ
 winv:aX (λb=>n0 b/\¬ T b) G μ H B
 finv:fG B G μ nt F { a with defers:=[] }
 base:∀ b,G0 b->G b
 good:∀ b,G b->¬ X b
 sub:∀ b,X b->T b
 seq:∀ b,T b->n0 b/\N<=b
 size:N<=B.heap.size
 notL:¬ G L
 notD:¬ G D
 atL:B.heap[L]?=some rec
 atD:B.heap[D]?=some (.deferred (some []))
 marks:Marks wi B G a.defers
def bSS {a ts c v}(h:VR w G aH (.clo (.func a) [] (aOU ts c)) v):∃ cs ,v=.func (.func a) #[] cs/\VRs w G aH (aOU ts c) cs.toList:=by
 have⟨d,cs,e,b,f⟩:=h;rw[VRs]at b;simp_all
def aR2:∀ l x,(lF l x).length=l.length| [],_=>rfl| k::r,(x,xs)=>by simp only[lF,List.length_cons,aR2 r xs]
set_option maxHeartbeats 2000000 in
def bV7 {E:Env} {keep:Nat} {lt rt:Nat->Option cI} (hcl:dS P (gJ P E)) (hP:P.follows .mixedOrders=true) {g:Operand} {ps:Array Tmp} {as1 body:Code} {gf:FuncId} {ts:List Ty} {ks:List Kd} {f:TZ ts->Option (List (aM ks))}
  (hit:aOQ P gf ts ks f) (hgf:∀ args w,(callFunc gf args).run P w=.ok (.enter gf args) w)
  {sh:zb} {exits:zc} {step:Shape.den sh->aM ks->Option (Shape.den sh⊕AQ exits)} {all:Shape.den sh->Option (List (aM ks))}
  (has:∀ b∈dV as1,aKL P nt lt rt true (TH sh 0) b) (hbd:∀ b∈dV body,aKL P nt lt rt true (TH sh 0) b)
  (hsq:∀ x l,all x=some l->∃ c,a8H gf ts sh g x=some c/\f c=some l)
  (hr:∀ y e,aST P E nt keep lt rt ps.toList as1 body ks sh exits y e=step y e) :
  H7 P nt false [] (.rangeFunc g ps as1 body) ⟨sh,exits,a2H sh exits all step⟩:=by
 intro x z hz ro n n0 wi Gi μi a w hro hfl0 hI;have hfl:∀ r,μi.loc r=none/\μi.len r=none:=λr=>hfl0 r R
 have hro:=hro rfl;subst hro;show (Code.rangeFunc g ps as1 body).wpIn Fence.wide n P _ a w;dsimp only at hz hI ⊢;unfold a2H at hz;obtain⟨lst,hall⟩:∃ lst,all x=some lst:=by
  cases h:all x with
  | none=>rw[h]at hz; cases hz
  | some l=>exact⟨l,rfl⟩
 rw[hall]at hz;dsimp only at hz;obtain⟨c,hc1,hc2⟩:=hsq x lst hall;obtain⟨G,μ,e,hW,hF,hm⟩:=hI;have hgv:VR w G μ (ev (KT sh x 0) g) (a.eval g):=by
  have:=cT hF g;have e1:({ a with defers:=[] }:Act).eval g=a.eval g:=by cases g <;> rfl
  rwa[e1]at this
 obtain⟨hpl0,hc1⟩:=aJ hc1;obtain⟨lb,hg,hvs⟩:=bSS (aES hc1 hgv);refine wpIn_rangeFunc ?_;intro fn _;obtain⟨rec,hrec⟩:∃ rec:LoopState->Option Code->Loop,rec=λst pe=>{ state:=st,pending:=pe,fn,tmps:=a.tmps,params:=ps,assign:=as1,body,defers:=w.heap.size }:=⟨_,rfl⟩
 obtain⟨W1,hW1⟩:∃ W1,(w.alloc (.deferred (some []))).alloc (.loop (rec .ready none))=W1:=⟨_,rfl⟩;obtain⟨L,hLe⟩:∃ L,w.heap.size+1=L:=⟨_,rfl⟩;obtain⟨D,hDe⟩:∃ D,w.heap.size=D:=⟨_,rfl⟩;have hs1:W1.heap.size=w.heap.size+2:=by rw[<- hW1]; simp
 have hL1:W1.heap[L]?=some (.loop (rec .ready none)):=by rw[<- hW1,<- hLe]; have:=World.alloc_heap_new (w.alloc (.deferred (some []))) (.loop (rec .ready none)); rwa[World.size_alloc]at this
 have hD1:W1.heap[D]?=some (.deferred (some [])):=by rw[<- hW1,<- hDe]; exact(Below.heap_alloc _ _ _ R).trans (World.alloc_heap_new w _)
 obtain⟨a1,a2⟩:=a3W (n0:=n0) hW (.deferred (some []));obtain⟨b1,b2⟩:=a3W (n0:=n0) a2 (.loop (rec .ready none));rw[hW1]at b1 b2;have eW1:Ext n0 wi Gi μi W1 G μ:=(e.trans a1).trans b1;have hvs1:VRs W1 G aH (aOU ts c) lb.toList:=VRs.mono (a1.toMono.trans b1.toMono).aH _ _ hvs;have hGL:¬ G L:=λh=>by have:=hW.lt L h; omega
 have hGD:¬ G D:=λh=>by have:=hW.lt D h; omega
 have hn0L:n0 L:=hW.base L Z;have hn0D:n0 D:=hW.base D Z;have marks1:Marks wi W1 G a.defers:=hm.to λb hb h1 h2=>⟨by rw[<- hW1,Below.heap_alloc _ _ _ (by have:=gN h1; simp; omega),Below.heap_alloc _ _ _ (gN h1)]; exact h1,h2⟩
 have markN:∀ b,({ target:=.collected b,args:=#[] }:Deferred)∈a.defers->b<w.heap.size:=by
  intro b hb;obtain⟨b',e1,e2,_⟩:=hm.mem _ hb;have:b=b':=by injection e1 with e1 _; injection e1
  subst this;exact gN e2
 -- the states between the rounds
 let J:List (aM ks)->(Nat->Prop)->(Nat->Prop)->World->Prop:=λpre T X B=>∃ y,I6 step (bN2 sh exits) (lst.drop pre.length) y=some z/\∃ G' μ',Btw n0 wi Gi μi nt a G W1.heap.size L D (KT sh y 0) (WN sh y) T X B (.loop (rec .ready none)) G' μ'
 let Jx:List (aM ks)->(Nat->Prop)->(Nat->Prop)->World->Prop:=λpre T X B=>(R8 exits z).1≠.normal/\∃ G' μ',Btw n0 wi Gi μi nt a G W1.heap.size L D (R8 exits z).2.1 (R8 exits z).2.2 T X B (.loop (rec .done (some (R8 exits z).1.code))) G' μ'
 refine⟨L,[{ target:=.collected D,args:=#[] }],W1,{ target:=.fn (.func gf) lb,args:=#[.func (.yield L) #[] #[]] },W1,gf,#[.func (.yield L) #[] #[]]++lb,W1,?_,?_,λ_ _=>trivial,?_,λh=>(by cases h),?_⟩
 ·rw[<- hW1,hrec,<- hLe,<- hDe]; exact run_enterLoop_outer _ _ _ _ _
 ·simp only[resolve,hg];simp[go_sem]
 ·simp[invoke,go_sem,hgf]
 ·have hcall:=hit c lst hc2 (n-1) L W1 G.ok lb.toList b2.lt (CC (G:=G) (G':=Gd.of G.ok) (λb h=>h) _ _ _ (aWS ts c hpl0) hvs1) J Jx ?round ?start
  ·rw[Array.toArray_toList]at hcall;refine hcall.mono ?_;rintro en C ⟨⟨v,rfl⟩,T,X,B,st,hJ⟩;have hstep:∀ {F':Frm} {H':Heap} {st':LoopState} {pe:Option Code} {G':Gd} {μ':Mp},Btw n0 wi Gi μi nt a G W1.heap.size L D F' H' T X B (.loop (rec st' pe)) G' μ' ->
     C.heap[L]?=some (.loop (rec st' pe))/\∀ o,IM n0 wi Gi μi nt F' H' { a with defers:={ target:=.collected D,args:=#[] }::a.defers } (C.putObj L o):=by
    intro F' H' st' pe G' μ' bt;have nS:∀ b,b<W1.heap.size->¬ X b:=λb hb hs=>Nat.lt_irrefl _ (Nat.lt_of_lt_of_le hb (bt.seq b (bt.sub b hs)).2)
    have hLC:C.heap[L]?=some (.loop (rec st' pe)):=(st.keep L (gN bt.atL) (nS L Z)).trans bt.atL;have hDC:C.heap[D]?=some (.deferred (some [])):=(st.keep D (gN bt.atD) (nS D Z)).trans bt.atD;refine⟨hLC,λo=>?_⟩;have x1:=bPC (T':=λ_=>False) (Gx:=λ_=>False) bt.winv (λb hb=>(bt.seq b hb).1) bt.sub bt.good bt.base st (λb hb=>hb.elim) (λb hb=>hb.elim);have x2:=(bKA (T':=λ_=>False) (Gx:=λ_=>False) bt.winv bt.sub bt.good bt.base st (λb hb=>hb.elim) (λb hb=>hb.elim)).wider (n0:=n0) λb hb=>hb.1
    have nL:¬ (G' L\/False):=λh=>h.elim bt.notL id
    have nD:¬ (G' D\/False):=λh=>h.elim bt.notD id
    have x3:=aJ4 (o':=o) x2 hLC ⟨λ_ _ _ h=>(by cases h),λ_ _ h=>(by cases h)⟩ nL;have x4:=aOW (G:=G'.or λ_=>False) (n0:=n0) (μ:=μ') (o':=o) hLC ⟨λ_ _ _ h=>(by cases h),λ_ _ h=>(by cases h)⟩ nL hn0L;refine⟨G'.or λ_=>False,μ',(bt.ext.trans x1).trans x4,x3,bt.finv.mono (x1.toMono.trans x4.toMono),⟨D,rfl,?_,?_,nD,?_⟩,?_⟩
    ·rw[World.putObj_heap_other Z]; exact hDC
    ·have:=e.size; omega
    ·intro d' hd' he;subst he;have:=markN _ hd';omega
    ·refine bt.marks.to λb hb h1 h2=>⟨?_,λh=>h.elim h2 id⟩
     have hbw:=markN b hb;rw[World.putObj_heap_other Z,st.keep b (gN h1) (nS b Z)];exact h1
   rcases hJ with ⟨y,hy,G',μ',bt⟩|⟨pre,hne,G',μ',bt⟩
   ·obtain⟨h1,h2⟩:=hstep bt;rw[List.drop_length]at hy;simp only[I6]at hy;have hel:=run_endLoop (P:=P) h1 (by rw[hrec]; simp);have k:=λo=>(h2 o).aXN hfl0 hy
    have hpn:(rec .ready none).pending=none:=by rw[hrec]
    rw[hpn]at hel;exact⟨none,_,hel,by rw[(k (.deferred none)).1]; rfl,(k _).2,λh=>by cases h⟩
   ·obtain⟨h1,h2⟩:=hstep bt;have hel:=run_endLoop (P:=P) h1 (by rw[hrec]; simp);have hpn:(rec .done (some (R8 exits z).1.code)).pending=some (R8 exits z).1.code:=by rw[hrec]
    rw[hpn]at hel;refine⟨some (R8 exits z).1.code,_,hel,?_⟩;dsimp only;clear hel hpn h1 bt;generalize R8 exits z=zz at hne h2 ⊢;obtain⟨ex,F',H'⟩:=zz;cases ex with
    | normal=>exact absurd rfl hne
    | ret=>exact wpIn_ret ⟨rfl,h2 _,λh=>by cases h⟩
    | exit i=>exact wpIn_exit ⟨rfl,h2 _,λh=>by cases h⟩
  case start =>
   refine⟨x,by simpa using hz,G,μ,eW1,b2.wider λb hb=>⟨hb,id⟩,hF.mono (a1.toMono.trans b1.toMono),λb h=>h,λb _ h=>h,λb h=>h.elim,λb h=>h.elim,oM _,hGL,hGD,hL1,hD1,marks1⟩
  case round =>
   rintro pre el post T X B T' X' A us Gx m' hlst ⟨y,hy,G',μ',bt⟩ st hT' hX' hGx hus;have hdrop:lst.drop pre.length=el::post:=by rw[hlst]; simp
   have hdrop2:lst.drop (pre++[el]).length=post:=by rw[hlst]; simp
   rw[hdrop]at hy;simp only[I6]at hy;obtain⟨v,hv⟩:∃ v,step y el=some v:=by
    cases h:step y el with
    | none=>rw[h]at hy; cases hy
    | some v=>exact⟨v,rfl⟩
   have hrg:=hr y el;rw[hv]at hrg;unfold aST at hrg;obtain⟨hck,hrg⟩:=aJ hrg;simp only[oA,List.all_eq_true]at hck;have hpl:=oE hck.1;have hpt:∀ t∈ps.toList,t<nt:=λt ht=>gE (hck.2 t ht)
   -- the world in which the element comes
   have nT:∀ b,b<W1.heap.size->¬ T b:=λb hb hs=>Nat.lt_irrefl _ (Nat.lt_of_lt_of_le hb (bt.seq b hs).2)
   have nS:∀ b,b<W1.heap.size->¬ X b:=λb hb hs=>nT b hb (bt.sub b hs)
   have hLB:=gN bt.atL;have hDB:=gN bt.atD;have hLA:A.heap[L]?=some (.loop (rec .ready none)):=(st.keep L hLB (nS L Z)).trans bt.atL;have hDA:A.heap[D]?=some (.deferred (some [])):=(st.keep D hDB (nS D Z)).trans bt.atD;have x1:=bPC bt.winv (λb hb=>(bt.seq b hb).1) bt.sub bt.good bt.base st hT' (λb hb=>(hGx b hb).1);have x2:=bKA bt.winv bt.sub bt.good bt.base st hT' (λb hb=>(hGx b hb).1)
   have nS':∀ b,b<B.heap.size->¬ T b->¬ T' b:=by
    intro b hb hs h;rcases(hT' b h).1 with h'|h'
    ·exact hs h'
    ·omega
   have nG2:∀ b,b<B.heap.size->¬ T b->¬ G' b->¬ (G' b\/Gx b):=by
    rintro b hb ht hg (h|h)
    ·exact hg h
    ·rcases(hGx b h).1 with h'|h'
     ·exact hg (bt.base b h')
     ·exact nS' b hb ht h'
   have nL2:=nG2 L hLB (nT L Z) bt.notL;have nD2:=nG2 D hDB (nT D Z) bt.notD;have marksA:Marks wi A (G'.or Gx) a.defers:=bt.marks.to λb hb h1 h2=>⟨by rw[st.keep b (gN h1) (nS b (by have:=markN b hb; omega))]; exact h1,nG2 b (gN h1) (nT b (by have:=markN b hb; omega)) h2⟩
   obtain⟨G2,hG2⟩:∃ G2,G2=G'.or Gx:=⟨_,rfl⟩;rw[<- hG2]at x1 x2 marksA;have nL2:¬ G2 L:=by rw[hG2]; exact nL2
   have nD2:¬ G2 D:=by rw[hG2]; exact nD2
   have hxS:∀ b,(b=L\/b=D\/({ target:=.collected b,args:=#[] }:Deferred)∈a.defers)->b<A.heap.size/\(∀ c t fr,A.heap[b]?≠some (.cells c t fr))/\∀ es clk,A.heap[b]?≠some (.map es clk):=by
    rintro b (rfl|rfl|hb)
    ·exact⟨gN hLA,λc t fr h=>(by rw[hLA]at h; cases h),λ_ _ h=>(by rw[hLA]at h; cases h)⟩
    ·exact⟨gN hDA,λc t fr h=>(by rw[hDA]at h; cases h),λ_ _ h=>(by rw[hDA]at h; cases h)⟩
    ·obtain⟨b',e1,e2,_⟩:=marksA.mem _ hb;have:b=b':=by injection e1 with e1 _; injection e1
     subst this;exact⟨gN e2,λc t fr h=>(by rw[e2]at h; cases h),λ_ _ h=>(by rw[e2]at h; cases h)⟩
   have x3:=x2.less hxS;obtain⟨n1,hn1⟩:∃ n1:Nat->Prop,n1=λb=>(n0 b/\¬ T' b)/\¬ (b=L\/b=D\/({ target:=.collected b,args:=#[] }:Deferred)∈a.defers):=⟨_,rfl⟩
   rw[<- hn1]at x3;have n1n0:∀ b,n1 b->n0 b:=λb h=>by rw[hn1]at h; exact h.1.1
   have n1S:∀ b,n1 b->¬ T' b:=λb h=>by rw[hn1]at h; exact h.1.2
   have n1L:¬ n1 L:=λh=>by rw[hn1]at h; exact h.2 (.inl rfl)
   have n1D:¬ n1 D:=λh=>by rw[hn1]at h; exact h.2 (.inr (.inl rfl))
   have n1M:∀ b,({ target:=.collected b,args:=#[] }:Deferred)∈a.defers->¬ n1 b:=λb hb h=>by rw[hn1]at h; exact h.2 (.inr (.inr hb))
   have hFA:fG A G2 μ' nt (KT sh y 0) { a with defers:=[] }:=bt.finv.mono x1.toMono;have husA:VRs A G2 μ' (lF ks el) us:=VRs.mono (⟨λb hb=>⟨by rw[hG2]; exact .inr hb,rfl⟩,λ_ _ h=>(by cases h),λ_ _ h=>(by cases h),λ_ _ h=>h,λ_ _ h=>(by cases h),λ_ _ h=>(by cases h)⟩:Mono A (Gd.of Gx) aH A G2 μ') _ _ hus;have hlen:us.length=ps.size:=by rw[<- husA.length,aR2,<- hpl,Array.length_toList]
   have hyield:=run_yield (P:=P) (args:=us.toArray) hLA (by rw[hrec]; simpa using hlen);have hfold:(ps.zip us.toArray).foldl (λtmps (t,a)=>tmps.setIfInBounds t a) a.tmps=(ps.toList.zip us).foldl (λt (p,v)=>t.setIfInBounds p v) a.tmps:=by rw[<- Array.foldl_toList,Array.toList_zip]
   rw[hrec]at hyield;dsimp only at hyield;rw[hfold]at hyield;refine⟨fn,_,as1,body,hyield,roundIn_of_wpIn trivial ?_⟩
   -- the assignment
   have hI0:IM n1 A G2 (TF μ' (TH sh 0)) nt (bJG ps.toList (lF ks el) (KT sh y 0)) (WN sh y) { tmps:=(ps.toList.zip us).foldl (λt (p,v)=>t.setIfInBounds p v) a.tmps,defers:=[] } A :=
    ⟨G2,μ',aXA _,x3,bDT (by rw[aR2]; exact hpl) hpt husA hFA,trivial⟩
   obtain⟨⟨ex1,F1,H1⟩,hk1,hrun1⟩:=vG hcl hP as1 _ _ _ _ has hrg;dsimp only at hk1;cases ex1 with
   | ret=>cases hk1
   | exit i=>cases hk1
   | normal =>
   dsimp only at hk1;obtain⟨⟨ex2,F2,H2⟩,hk2,hrun2⟩:=vG hcl hP body _ _ _ _ hbd hk1;show as1.wpIn (Fr (some L)) m' P _ _ A;refine wpIn_mono (hrun1 (some L) m' n1 A G2 _ _ A (λh=>by cases h) (λr h=>aO8 r h) hI0) ?_;rintro e1 act1 A1 ⟨rfl,⟨G3,μ3,y1,y2,y3,y4⟩,hd1⟩;have hd1:act1.defers=[]:=hd1 rfl;have nL3:¬ G3 L:=λh=>(y1.new L h).elim nL2 n1L
   have hL1':A1.heap[L]?=some (.loop (rec .ready none)):=(y1.old L (gN hLA) n1L).trans hLA;refine⟨_,run_beginRound hL1' (by rw[hrec]),?_⟩;obtain⟨A2,hA2⟩:∃ A2,A1.putObj L (.loop { rec .ready none with state:=.busy })=A2:=⟨_,rfl⟩;rw[hA2];have p1:Mono A1 G3 μ3 A2 G3 μ3:=by rw[<- hA2]; exact VZ hL1' ⟨λ_ _ _ h=>(by cases h),λ_ _ h=>(by cases h)⟩ nL3
   have p2:aX n1 G3 μ3 H1 A2:=by rw[<- hA2]; exact aJ4 y2 hL1' ⟨λ_ _ _ h=>(by cases h),λ_ _ h=>(by cases h)⟩ nL3
   have hL2':A2.heap[L]?=some (.loop { rec .ready none with state:=.busy }):=by rw[<- hA2]; exact World.putObj_heap_same (gN hL1')
   have e12:Ext n0 A1 G3 μ3 A2 G3 μ3:=by rw[<- hA2]; exact aOW hL1' ⟨λ_ _ _ h=>(by cases h),λ_ _ h=>(by cases h)⟩ nL3 hn0L
   have hI2:IM n1 A2 G3 (TF μ' (TH sh 0)) nt F1 H1 act1 A2 :=
    ⟨G3,μ3,{ aXA (n0:=n1) (w:=A2) (G:=G3) (μ:=μ') []with
     map:=y1.map
     len:=y1.len
     sh:=y1.sh
     good:=λb hb=>⟨hb,rfl⟩
     room:=λ_ _ h=>h
     new:=λb hb=>.inl hb },p2,y3.mono p1,by rw[hd1]; trivial⟩
   show body.wpIn (Fr (some L)) m' P _ act1 A2;refine wpIn_mono (hrun2 (some L) m' n1 A2 G3 _ act1 A2 (λh=>by cases h) (λr h=>aO8 r h) hI2) ?_;rintro e2 act2 A3 ⟨rfl,⟨G4,μ4,z1,z2,z3,z4⟩,hd2⟩;have nL4:¬ G4 L:=λh=>(z1.new L h).elim nL3 n1L
   have hL3':A3.heap[L]?=some (.loop { rec .ready none with state:=.busy }):=(z1.old L (gN hL2') n1L).trans hL2';have hdn:act2.defers=[]:=(hd2 rfl).trans hd1
   -- back with the caller
   have hFend:fG A3 G4 μ4 nt (KT sh y 0) { a with defers:=[] }:=by
    refine⟨hFA.size,λt=>?_,rfl⟩;have v0:=bDF (T:=TH sh 0) sh y 0 (λr h=>h) (hFA.slot t);have v1:=VR.mono (⟨y1.good,λ_ _ h=>h,λ_ _ h=>h,y1.room,y1.row,λ_ _ _=>rfl⟩:Mono A G2 (TF μ' (TH sh 0)) A1 G3 (TF μ' (TH sh 0))) _ _ v0;have v2:=VR.mono (⟨p1.good,λ_ _ h=>h,λ_ _ h=>h,p1.room,p1.row,λ_ _ _=>rfl⟩:Mono A1 G3 (TF μ' (TH sh 0)) A2 G3 (TF μ' (TH sh 0))) _ _ v1;exact VR.mono z1.toMono _ _ v2
   have back:∀ (o:Obj) (F5:Frm) (H5:Heap),(∀ {n0:Nat->Prop} {wi:World} {Gi:Gd} {μi:Mp} {a:Act} {w:World},(∀ r,¬ r∈([]:List Nat)->μi.loc r=none/\μi.len r=none)->IM n0 wi Gi μi nt (KT sh y 0) H2 a w->IM n0 wi Gi μi nt F5 H5 a w) ->
     ∃ G5 μ5,Btw n0 wi Gi μi nt a G W1.heap.size L D F5 H5 T' X' (A3.putObj L o) o G5 μ5:=by
    intro o F5 H5 hdec;have q1:=aJ4 (o':=o) z2 hL3' ⟨λ_ _ _ h=>(by cases h),λ_ _ h=>(by cases h)⟩ nL4;have q2:=VZ (μ:=μ4) (o':=o) hL3' ⟨λ_ _ _ h=>(by cases h),λ_ _ h=>(by cases h)⟩ nL4;have q3:=aOW (n0:=n0) (μ:=μ4) (o':=o) hL3' ⟨λ_ _ _ h=>(by cases h),λ_ _ h=>(by cases h)⟩ nL4 hn0L;have hIe:IM n1 (A3.putObj L o) G4 aH nt (KT sh y 0) H2 { a with defers:=[] } (A3.putObj L o) :=
     ⟨G4,μ4,{ aXA (n0:=n1) (w:=A3.putObj L o) (G:=G4) (μ:=μ4) []with
      map:=λ_ _ h=>by cases h
      len:=λ_ _ h=>by cases h
      sh:=λ_ _ h=>by cases h
      good:=λb hb=>⟨hb,rfl⟩
      room:=λ_ _ h=>h
      new:=λb hb=>.inl hb },q1,hFend.mono q2,trivial⟩
    obtain⟨G5,μ5,r1,r2,r3,_⟩:=hdec (λ_ _=>⟨rfl,rfl⟩) hIe;have g45:∀ b,G5 b->G2 b\/n1 b:=λb h=>by
     rcases r1.new b h with h|h
     ·rcases z1.new b h with h|h
      ·exact y1.new b h
      ·exact .inr h
     ·exact .inr h
    have mk:∀ b,({ target:=.collected b,args:=#[] }:Deferred)∈a.defers->A.heap[b]?=some (.deferred (some []))->(A3.putObj L o).heap[b]?=some (.deferred (some [])):=by
     intro b hb h1;have hbw:=markN b hb;have k1:=(y1.old b (gN h1) (n1M b hb)).trans h1;have k2:A2.heap[b]?=some (.deferred (some [])):=by rw[<- hA2,World.putObj_heap_other Z]; exact k1
     have k3:=(z1.old b (gN k2) (n1M b hb)).trans k2;rw[World.putObj_heap_other Z]; exact k3
    refine⟨G5,μ5,?_,r2.wider λb hb=>⟨n1n0 b hb,n1S b hb⟩,r3,?_,?_,?_,?_,?_,?_,?_,?_,?_,?_⟩
    ·have t1:=((bt.ext.plain.trans x1.plain).trans (y1.wider n1n0).plain).trans e12.plain;exact Ext.back hfl (((t1.trans (z1.wider n1n0).plain).trans q3.plain).trans (r1.wider n1n0).plain)
    ·intro b hb;have h2:G2 b:=by rw[hG2]; exact .inl (bt.base b hb)
     exact(r1.good b (z1.good b (y1.good b h2).1).1).1
    ·intro b hb hs;rcases g45 b hb with h|h
     ·rw[hG2]at h;rcases h with h|h
      ·rcases(hX' b hs).2 with h'|h'
       ·exact bt.good b h h'
       ·exact Nat.lt_irrefl _ (Nat.lt_of_lt_of_le (bt.winv.lt b h) h')
      ·exact(hGx b h).2 hs
     ·exact n1S b h (hX' b hs).1
    ·exact λb hs=>(hX' b hs).1
    ·intro b hs;rcases(hT' b hs).1 with h|h
     ·exact bt.seq b h
     ·exact⟨(bt.winv.base b h).1,oR bt.size h⟩
    ·have s1:=bt.size;have s2:=st.size;have s3:=y1.size;have s4:=e12.size;have s5:=z1.size;rw[World.putObj_size];omega
    ·exact λh=>(g45 L h).elim nL2 n1L
    ·exact λh=>(g45 D h).elim nD2 n1D
    ·exact World.putObj_heap_same (gN hL3')
    ·have k1:=(y1.old D (gN hDA) n1D).trans hDA;have k2:A2.heap[D]?=some (.deferred (some [])):=by rw[<- hA2,World.putObj_heap_other Z]; exact k1
     have k3:=(z1.old D (gN k2) n1D).trans k2;rw[World.putObj_heap_other Z]; exact k3
    ·refine marksA.to λb hb h1 h2=>⟨mk b hb h1,λhg=>?_⟩
     exact(g45 b hg).elim h2 (n1M b hb)
   have frame:∀ (o:Obj) (b:Nat),b<A.heap.size->G b\/T' b->(A3.putObj L o).heap[b]?=A.heap[b]?:=by
    intro o b hb h;have hbL:b≠L:=by
     rintro rfl;rcases h with h|h
     ·exact hGL h
     ·exact nS' b hLB (nT b Z) h
    have k1:A1.heap[b]?=A.heap[b]?/\(G3 b\/T' b):=by
     rcases h with h|h
     ·have:=y1.good b (by rw[hG2]; exact .inl (bt.base b h));exact⟨this.2,.inl this.1⟩
     ·exact⟨y1.old b hb λhn=>n1S b hn h,.inr h⟩
    have k2:A2.heap[b]?=A.heap[b]?:=by rw[<- hA2,World.putObj_heap_other hbL]; exact k1.1
    have k3:A3.heap[b]?=A2.heap[b]?:=by
     rcases k1.2 with h|h
     ·exact(z1.good b h).2
     ·refine z1.old b ?_ λhn=>n1S b hn h
      have s3:=y1.size;have s4:=e12.size;omega
    rw[World.putObj_heap_other hbL,k3,k2]
   have hroom:∀ (o:Obj) (b n:Nat),Room A b n->Room (A3.putObj L o) b n:=λo b n h =>
    (VZ (μ:=μ4) (o':=o) hL3' ⟨λ_ _ _ h=>(by cases h),λ_ _ h=>(by cases h)⟩ nL4).room b n (z1.room b n (p1.room b n (y1.room b n h)))
   have hsz:∀ o,A.heap.size<=(A3.putObj L o).heap.size:=by
    intro o;have s3:=y1.size;have s4:=e12.size;have s5:=z1.size;rw[World.putObj_size]; omega
   rw[hv]at hy;unfold bZ0 at hk2;dsimp only at hk2;rcases aM2 hk2 with ⟨x',rfl,e2,e3⟩|⟨z',rfl,e2,e3⟩
   ·subst e2;dsimp only at hy;refine⟨_,_,run_endRound none hL3',⟨frame _,hroom _,hsz _⟩,.inl ⟨rfl,⟨x',by rw[hdrop2]; exact hy,?_⟩⟩⟩;have:=back (.loop (rec .ready none)) (KT sh x' 0) (WN sh x') (λh hI=>hI.dec h e3);rw[hrec]at this ⊢;exact this
   ·dsimp only at hy;have hzz:z'=z:=oB hy;subst hzz;obtain⟨o1,_⟩:=aEW e3;have hb:=back (.loop (rec .done (some ex2.code))) (R8 exits z').2.1 (R8 exits z').2.2 (λh hI=>(hI.aXN h e3).2);rw[hrec]at hb;cases ex2 with
    | normal=>exact absurd rfl e2
    | ret =>
     refine⟨_,_,run_endRound (some .ret) hL3',⟨frame _,hroom _,hsz _⟩,.inr ⟨rfl,by rw[o1]; exact e2,?_⟩⟩;rw[o1,hrec];exact hb
    | exit i =>
     refine⟨_,_,run_endRound (some (.exit i)) hL3',⟨frame _,hroom _,hsz _⟩,.inr ⟨rfl,by rw[o1]; exact e2,?_⟩⟩;rw[o1,hrec];exact hb
end
section
variable {P:Program} {n0:Nat->Prop} {w w' wi:World} {G G' Gi:Gd} {μ μ' μi:Mp} {H:Heap} {F:Frm} {nt n:Nat}
def MZ {fn tmps R}(g:∀ b,wi.heap.size<=b->n0 b)(a:∀ w',IM n0 wi Gi μi nt F H { tmps:=tmps,defers:=[] } w'->LeavesIn Fence.wide n P fn tmps R [] .returning w') :
  ∀ ds w,IM n0 wi Gi μi nt F H { tmps:=tmps,defers:=ds } w->LeavesInM Fence.wide n P fn tmps R ds .returning w
 | [],w,h=>a w h
 | d::ds,w,h=>by
  obtain⟨G,μ,e,i,l,⟨b,rfl,c,j,f,q⟩,hm⟩:=h;refine⟨by simp,.inl ⟨b,_,rfl,run_takeDeferred c,MZ g a ds _ ⟨G,μ,e.trans (aOW c ⟨λ_ _ _ h=>(by cases h),λ_ _ h=>zt⟩ f (g b j)),aJ4 i c ⟨λ_ _ _ h=>zt,λ_ _ h=>zt⟩ f,l.mono (VZ c ⟨λ_ _ _ h=>(by cases h),λ_ _ h=>(by cases h)⟩ f),?_⟩⟩⟩;refine hm.to λo k p m=>⟨?_,m⟩
  rw[World.putObj_heap_other]
  ·omega
  grind
def a0L(P:Program)(E:Env)(fn:Func)(keep:Nat)(lt rt:Nat->Option cI)(c:Code) args rets (x:aM args):Option (aM rets) :=bif Nat.ble (lF args x).length fn.ntmps then TP P E fn.ntmps keep lt rt false [] c (start keep 0 (lF args x)) [] (bK2 P fn.results.toList rets) else none
def aJK {E} (J:WV P) (T:dN P E) {g:Nat} {fn} (H:P.funcs[g]?=some fn) {c} (L:fn.body=some c) {keep lt rt args rets f}
  (N:∀ a∈dV c,aKL P fn.ntmps lt rt false [] a) (m:∀ x,a0L P E fn keep lt rt c args rets x=f x):WA P g args rets f:=by
 intro x y u;rw[<- m]at u;have⟨hlen,u⟩:=aJ u;have⟨⟨ex,F',H'⟩,d,R⟩:=vG T.callee J.mixed c _ _ _ _ N u;obtain⟨vs,q,hex,l,v,hd⟩:∃ vs q,(ex=.normal\/ex=.ret)/\yG P F' H' fn.results.toList=some vs/\bFH H' (pI vs)=some q/\bFX rets q=some y:=by
  unfold bK2 at d;split at d
  ·cases d
  next C=>
   split at d
   ·rename_i vs l;split at d
    ·rename_i q v;refine⟨vs,q,?_,l,v,d⟩;cases ex with
     | normal=>exact .inl rfl
     | ret=>exact .inr rfl
     | exit i=>exact absurd rfl (C i)
    ·cases d
   ·cases d
 have k:∀ {n0 G μ w us},aX n0 G μ [] w->VRs w G μ (lF args x) us->DI P n0 w G μ g us.toArray (pI vs) H':=by
  intro n0 G μ w us t D;refine⟨enters H (J.names g fn H) (by rw[L]; rfl) _ _,(callsIn_wide (n:=0)).1 (callsIn_of_wp_marks H L trivial ?_)⟩;have Q:I n0 w G μ fn.ntmps (start keep 0 (lF args x)) [] ⟨us.toArray++Array.replicate (fn.ntmps-us.toArray.size) undef,[]⟩ w:=⟨G,μ,Ext.refl _ _ _ _,t,E6 (by simpa using D) (oL hlen)⟩;refine wpIn_mono (R none 0 n0 w G μ _ w (λ_=>rfl) (λr _=>t.top r (Nat.zero_le _)) Q.b09) ?_
  rintro e ⟨B,ds⟩ w' ⟨rfl,p,_⟩;have h:∀ w',IM n0 w G μ fn.ntmps F' H' { tmps:=B,defers:=[] } w'->LeavesIn Fence.wide 0 P fn B (λe w'=>∃ v' j μ'',e=.returned v'/\Ext n0 w G μ w' j μ''/\aX n0 j μ'' H' w'/\VR w' j μ'' (pI vs) v') [] .returning w':=by
   rintro w' ⟨G',μ',O,o,F,_⟩;have⟨ws,K,A⟩:=uB (P:=P) o F l;have s:(results fn B).run P w'=.ok (if V:ws.toArray.size=1 then ws.toArray[0] else .tuple ws.toArray) w':=by
    rw[J0,Array.mapM_eq_mapM_toList]
    simp_all
   exact⟨_,s,_,G',μ',rfl,O,o,xE A⟩
  rcases hex with rfl|rfl;exact MZ (λb m=>t.base b m) h ds w' p;exact MZ (λb m=>t.base b m) h ds w' p
 have hp:=XH k (OL v).1 (OL v).2;intro w G us z D;have⟨K,A⟩:=hp w G us z D;refine⟨K,A.mono ?_⟩;rintro e w' ⟨v',G',rfl,S,M,U⟩;exact⟨v',G',rfl,S,M,aOH hd U⟩
def bMN(P:Program) (nt:Nat) (lt rt:Nat->Option cI) (rd:Bool) (T:List Nat):List Code->Prop| []=>True| a::r=>aKL P nt lt rt rd T a/\bMN P nt lt rt rd T r
def a96 {lt rt rd T}:∀ {l},bMN P nt lt rt rd T l->∀ a∈l,aKL P nt lt rt rd T a
 | [],_,a,ha=>zt
 | b::r,h,a,ha=>by
  rcases List.mem_cons.1 ha with rfl|ha
  ·exact h.1
  ·exact a96 h.2 a ha
def nK {lt rt rd T c l}(b:dV c=l)(h:bMN P nt lt rt rd T l):∀ a∈dV c,aKL P nt lt rt rd T a:=by rw[b]; exact a96 h
def E7 {lt rt rd T a i s0}(d:bM a=i)(b:lt i=some s0)(h:H7 P nt rd T (.loop a) s0):aKL P nt lt rt rd T (.loop a):=by
 intro s c;grind
def bQ1 {lt rt g ps as1 a i s0}(d:bM a=i)(b:rt i=some s0)(h:H7 P nt false [] (.rangeFunc g ps as1 a) s0):aKL P nt lt rt false [] (.rangeFunc g ps as1 a):=by
 intro _ s c;grind
def QF(c:Code) (i:Nat):Code:=(dV c).getD i .skip
def inLoop:Code->Code| .loop a=>a| .rangeFunc _ _ _ a=>a| _=>.skip
def II:Code->Code| .rangeFunc _ _ as1 _=>as1| _=>.skip
def aNR:Code->Operand| .rangeFunc g _ _ _=>g| _=>.const undef
def a1W:Code->Array Tmp| .rangeFunc _ ps _ _=>ps| _=>#[]
def aF1 {lt rt r i s0}(b:r=.rangeFunc (aNR r) (a1W r) (II r) (inLoop r))(c:bM (inLoop r)=i)(a:rt i=some s0)(h:H7 P nt false [] r s0):aKL P nt lt rt false [] r:=by
 rw[b]at h ⊢;exact bQ1 c a h
def aNV {E keep lt rt} (k:dN P E) (h:WV P) {r} (n:r=.rangeFunc (aNR r) (a1W r) (II r) (inLoop r)) {a:Nat} {fn c ts ks f}
  (i:P.funcs[a]?=some fn) (o:fn.body=some c) (hit:aOQ P a ts ks f)
  {sh exits step} {cap:Shape.den sh->TZ ts}
  (has:dV (II r)=[]) (d:∀ b∈dV (inLoop r),aKL P nt lt rt true (TH sh 0) b)
  (g:∀ x,a8H a ts sh (aNR r) x=some (cap x))
  (m:∀ y e,aST P E nt keep lt rt (a1W r).toList (II r) (inLoop r) ks sh exits y e=step y e) :
  H7 P nt false [] r ⟨sh,exits,a2H sh exits (λx=>f (cap x)) step⟩:=by
 have:=bV7 k.callee h.mixed hit (λargs w=>enters i (h.names a fn i) zt args w) zt d (λx l j=>⟨cap x,g x,j⟩) m;grind
end
def JJ:Code->Nat| .region _ ops _=>aRT ops.toList ops.toList 0 0| .seq a b=>JJ a ||| JJ b| .cond c a b=>bWM c ||| JJ a ||| JJ b| .block _ a=>JJ a| .loop a=>JJ a| .scope a=>JJ a| .rangeFunc g _ as1 a=>bWM g ||| JJ as1 ||| JJ a| _=>0
def xD(fn:Func):Nat:=match fn.body with| some c=>aKB fn.results.toList (JJ c)| none=>0
end Go.PM
namespace Go.Proofs
open Go Go.RowKit Go.Sort Go.Lib
set_option maxHeartbeats 6400000
def Tryz.aUX (u:Nat)(hu64:u<18446744073709551616)(w:World)(htab:Lib.TabIs Tryz.prog w "internal/strconv.uint64pow10" .u64 Lib.pow10Tab) :
  Calls Tryz.prog 308 #[.int .u64 u,.int .i64 10] w λe w'=>e=.returned (.string ⟨(Lib.decDigits u).toArray⟩)/\∃ k os,w'=grow (w.drewN k) os:=by
 by_cases hs:u<100
 ·go_enter Tryz.func308,Tryz.ntmps308
  have hwr:IntKind.i64.wrap (u:Int)=(u:Int):=by rw[IntKind.wrap_i64]; omega
  go_wp2_with (go_at_call 297; refine(Tryz.internal_strconv_small u hs _).mono ?_; rintro e w' ⟨rfl,rfl⟩);go_ret;exact⟨rfl,0,#[],by simp[World.drewN_zero]⟩
 ·have hu1:1<=u:=Z
  have hnd20:Lib.nDigits u<=20:=by have:=Lib.numDigits_eq u hu1 hu64; split at this <;> omega
  have hal:Tryz.prog.arrayLen 370=24:=(by simp[Program.arrayLen,Tryz.underlying370])
  have hsl:∀ W,(Instr.sliceAt 370 (.pointer (some ⟨w.heap.size,0,none⟩)) none (some (.int .i64 (Lib.nDigits u:Int))) none).run Tryz.prog W=.ok (.slice (some ⟨w.heap.size,0,none⟩) (Lib.nDigits u) 24) W:=λW=>by
   rw[run_sliceAt_array_h W 370 ⟨w.heap.size,0,none⟩ (by simp[Program.arrayLen,Program.elem,Tryz.underlying370]) .i64 (Lib.nDigits u:Int) Z (by rw[hal]; omega)]
   go_simp
  have hH0:=Lib.holds_zero0 w 370 (Lib.nDigits u) Z;have hfmt:=Tryz.internal_strconv_formatBase10 w.heap.size 0 24 u (Array.replicate (Lib.nDigits u) 0) (w.alloc (.cells Lib.zeros24 370)) hH0 (by rw[Array.size_replicate]; exact Lib.lt_pow_nDigits u) hu64 (by rw[Array.size_replicate]; omega);rw[Array.size_replicate]at hfmt;have HH0:=Lib.hid hH0;clear hH0 hal;go_enter Tryz.func308,Tryz.ntmps308
  go_wp2_with (first
   | (go_at_call 298; refine(Tryz.internal_strconv_numDigits u hu1 hu64 _ (Lib.tabIs_alloc htab _)).mono ?_; rintro e w' ⟨rfl,rfl⟩))
  go_at_call 299
  refine hfmt.mono ?_;rintro e w' ⟨rfl,k,v',dk,rfl,hF⟩;have hcv:(convert 234 9 (.slice (some ⟨w.heap.size,0,none⟩) (Lib.nDigits u) 24)).run Tryz.prog ((putRow (λ(b:UInt8)=>Value.int .u8 (b.toNat:Int)) (w.alloc (.cells Lib.zeros24 370)) w.heap.size 0 dk).drewN k)=.ok (.string ⟨(Lib.decDigits u).toArray⟩) ((putRow (λ(b:UInt8)=>Value.int .u8 (b.toNat:Int)) (w.alloc (.cells Lib.zeros24 370)) w.heap.size 0 dk).drewN k):=by
   have h:=run_convert_bytes_back (P:=Tryz.prog) ((putRow (λ(b:UInt8)=>Value.int .u8 (b.toNat:Int)) (w.alloc (.cells Lib.zeros24 370)) w.heap.size 0 dk).drewN k) 234 9 5 ⟨w.heap.size,0,none⟩ 24 (Lib.decDigits u) Tryz.underlying234 Tryz.underlying5 Tryz.underlying9 (λj hj=>by
    rw[Lib.row_is_numeral hF j hj,Lib.add_plain,World.cell?_drewN];exact cell?_putRow (λ(b:UInt8)=>Value.int .u8 (b.toNat:Int)) _ w.heap.size 0 _ dk HH0.out (by rw[hF.size,Array.size_replicate]) j (by rw[hF.size]; rw[Lib.decDigits_length]at hj; exact hj))
   rw[Lib.decDigits_length]at h;exact h
  go_wp2;go_ret;have⟨os,eo⟩:=Lib.fin_at w (.cells Lib.zeros24 370) dk k 0;exact⟨rfl,k,os,eo⟩
def Tryz.aQL (u:Nat)(hu64:u<18446744073709551616)(w:World)(htab:Lib.TabIs Tryz.prog w "internal/strconv.uint64pow10" .u64 Lib.pow10Tab) :
  Calls Tryz.prog 288 #[.int .u64 u,.int .i64 10] w λe w'=>e=.returned (.string ⟨(Lib.decDigits u).toArray⟩)/\∃ k os,w'=grow (w.drewN k) os:=by
 go_enter Tryz.func288,Tryz.ntmps288;go_wp2_with (go_at_call 308; refine(Tryz.aUX u hu64 _ htab).mono ?_; rintro e w' ⟨rfl,k,os,rfl⟩);go_ret;exact⟨rfl,k,os,rfl⟩
end Go.Proofs
namespace Go.PM
open Go Go.RowKit Go.Proofs Tryz
def bPZ {w:World}{G:Nat->Prop}(h:Lt w G):Lib.TabIs Tryz.prog w "internal/strconv.uint64pow10" .u64 Lib.pow10Tab:=by
 have hm:(2,bPJ .u64 [1,10,100,1000,10000,100000,1000000,10000000,100000000,1000000000,10000000000,100000000000,1000000000000,10000000000000,100000000000000,1000000000000000,10000000000000000,100000000000000000,1000000000000000000,10000000000000000000])∈bS8:=by simp[bS8]
 obtain⟨-,t,b,ht⟩:=h.tab _ hm;have a:Tryz.prog.globalNamed "internal/strconv.uint64pow10"=some 2:=Y
 unfold Lib.TabIs World.var?;rw[a];simp only[Option.bind_some];rw[ht];rfl
def bK3 {w G}(hG:∀ b,G b->b<w.heap.size) k os:Ext (RL w) w (Gd.of G) aH (Sort.grow (w.drewN k) os) (Gd.of G) aH :=
 have a :=λb a=>Lib.heap_grow_old w k os b a
 {good:=λb h=>⟨h,a b (hG b h)⟩
  row:=λ_ _ h=>h
  map:=λ_ _ h=>Z
  len:=λ_ _ h=>zt
  room:=λb n ⟨c,t,e,f,d⟩=>⟨c,t,e,by grind,d⟩
  os:=rfl
  tape:=rfl
  output:=rfl
  size:=R
  old:=λb h _=>a b h
  new:=λb h=>.inl h }
def a08 {w w' G}(hG:∀ b,G b->b<w.heap.size)(h:Below w.heap.size w w'):Ext (RL w) w (Gd.of G) aH w' (Gd.of G) aH :=
 {good:=λb hb=>⟨hb,h.block b (hG b hb)⟩
  row:=λ_ _ h=>h
  map:=λ_ _ h=>zt
  len:=λ_ _ h=>zt
  room:=λb n ⟨c,t,fr,h1,h2⟩=>⟨c,t,fr,by rw[h.block b (gN h1)]; omega,h2⟩
  os:=h.os
  tape:=h.tape
  output:=h.output
  size:=h.size
  old:=λb hb _=>h.block b hb
  new:=λb hb=>.inl hb }
def aT2 {w G}(hG:∀ b,G b->b<w.heap.size) e t:Ext (RL w) w (Gd.of G) aH (Lib.bytesWorld w e t) (Gd.of G) aH :=a08 hG (Joins.below_bytesWorld _ w e t (oM _))
def aB6:Nat->Nat->List UInt8->List UInt8| 0,_,acc=>acc| f+1,u,acc=>bif Nat.blt u 10 then UInt8.ofNat (48+u)::acc else aB6 f (u/10) (UInt8.ofNat (48+u%10)::acc)
def a98:∀ f u acc,u<10^(f+1)->aB6 (f+1) u acc=Lib.decDigits u++acc
 | f,u,acc,h=>by
  rw[Lib.decDigits]
  by_cases a:u<10
  ·rw[dif_pos a,aB6];have:Nat.blt u 10=true:=by simp_all
   grind
  ·rw[dif_neg a,aB6];have:Nat.blt u 10=false:=by rw[cF]; simpa using a
   rw[this,oD];cases f with
   | zero=>omega
   | succ f =>
    rw[a98 f (u/10) _ zt];simp
def IP:Int->ByteArray| .ofNat u=>⟨(aB6 20 u []).toArray⟩| .negSucc u=>⟨(45::aB6 20 (u+1) []).toArray⟩
def a7L {n}(h:n.natAbs<10^20):IP n=⟨(Lib.itoa n).toArray⟩:=by
 cases n with
 | ofNat u =>
  have a:¬ (Int.ofNat u<0):=R
  unfold Lib.itoa;show (⟨(aB6 (19+1) u []).toArray⟩:ByteArray)=⟨(Lib.decDigits u).toArray⟩;rw[a98 19 u [] h,List.append_nil]
 | negSucc u =>
  have a :=Int.negSucc_lt_zero u;unfold Lib.itoa;rw[if_pos a];show (⟨(45::aB6 (19+1) (u+1) []).toArray⟩:ByteArray)=⟨(45::Lib.decDigits (u+1)).toArray⟩;rw[a98 19 (u+1) [] h,List.append_nil]
abbrev za{α:Type}(c:Bool)(x:Option α):Option α:=bif c then x else none
def EE:zo [zd] [.str]:=λ(n,())=>za (!(ltI n (-9223372036854775808))&&!(ltI 9223372036854775807 n))<|some (IP n,())
def UA(x:aM [.str]):oK [zd,.nilI]:=match x with|(s,())=>za (Nat.ble s.size 18)<|(match Lib.atoi s.data.toList with| some n=>some (n,(),())| none=>none)
def aJ6(x:aM [.str,zd,zd]):oK [zd,.nilI]:=match x with|(s,b,c,())=>za (Nat.ble s.size 1000000000&&(eqI b 10&&eqI c 64))<|(match Lib.parseIntB 64 s.data.toList with| .ok n=>some (n,(),())| _=>none)
def FF(x:aM [.str,zd,zd]):oK [.int .u64,.nilI]:=match x with|(s,b,c,())=>za (Nat.ble s.size 1000000000&&(eqI b 10&&eqI c 64))<|(match Lib.parseUintB 64 s.data.toList with| .ok n=>some ((n:Int),(),())| _=>none)
def C4:zo [.int .u64,zd] [.str]:=λ(n,b,())=>za (!(ltI n 0)&&(ltI n 18446744073709551616&&eqI b 10))<|some (IP n,())
def bXW {w G u vs}(h:VRs w G aH [.lit u] vs.toList):vs=#[u]:=by
 have⟨v,us,b,c,a⟩:=h;rw[VRs]at a;rw[VR]at c;grind
def b3E {w G u1 u2 vs}(h:VRs w G aH [.lit u1,.lit u2] vs.toList):vs=#[u1,u2]:=by
 have⟨v,us,d,b,c⟩:=h;have⟨v2,g,a,e,f⟩:=c;rw[VRs]at f;rw[VR]at b e;grind
def b1O {w G u1 u2 u3 vs}(h:VRs w G aH [.lit u1,.lit u2,.lit u3] vs.toList):vs=#[u1,u2,u3]:=by
 have⟨v,us,f,d,e⟩:=h;have⟨v2,l,b,g,k⟩:=e;have⟨v3,i,a,c,j⟩:=k;rw[VRs]at j;rw[VR]at d g c;grind
def aRE {w G} k n:VR w G aH (.tuple [.lit (.int k n),.lit .nilIface]) (.tuple #[.int k n,.nilIface]):=by
 refine⟨_,rfl,?_⟩;refine⟨_,_,rfl,by rfl,?_⟩;exact⟨_,_,rfl,by rfl,by rfl⟩
def bHE {w G} s:VR w G aH (.lit (.string s)) (.string s):=by rfl
def bAZ:WA Tryz.prog 161 _ _ EE:=by
 rintro⟨n,⟨⟩⟩ y h w G vs hG hv;unfold EE at h;have⟨hb,h⟩:=aJ h;simp only[oA,Bool.not_eq_true',aF,decide_eq_false_iff_not]at hb;obtain rfl:=oB h;obtain rfl:=bXW hv;refine⟨enters func161 Y Y _ _,(Tryz.strconv_Itoa n Z Z w (bPZ hG)).mono ?_⟩;rintro e w' ⟨rfl,k,os,rfl⟩;rw[<- a7L Z];have he:=bK3 hG.lt k os;exact⟨_,G,rfl,he,λb hb=>Nat.lt_of_lt_of_le (hG b hb) he.size,bHE _⟩
def a68:WA Tryz.prog 251 _ _ UA:=by
 rintro⟨s,⟨⟩⟩ y h w G vs hG hv;unfold UA at h;have⟨hb,h4⟩:=aJ h;clear h;have hl:=oL hb;split at h4;rename_i n hn;obtain rfl:=oB h4;obtain rfl:=bXW hv;refine⟨enters func251 Y Y _ _,(Tryz.strconv_Atoi s n hl hn w).mono ?_⟩;rintro e w' ⟨rfl,t,rfl⟩;have he:=aT2 hG.lt 5 t;exact⟨_,G,rfl,he,λb hb=>Nat.lt_of_lt_of_le (hG b hb) he.size,aRE _ n⟩;cases h4
def bMJ:WA Tryz.prog 150 _ _ aJ6:=by
 rintro⟨s,b,c,⟨⟩⟩ y h w G vs hG hv;unfold aJ6 at h;have⟨hb,h4⟩:=aJ h;clear h;simp only[oA,bN,decide_eq_true_eq]at hb;obtain⟨hb1,rfl,rfl⟩:=hb;have hl:=oL hb1;split at h4;rename_i n hn;obtain rfl:=oB h4;obtain rfl:=b1O hv;refine⟨enters func150 Y Y _ _,(Tryz.strconv_ParseInt_10_at64_ok s Z n hn w).mono ?_⟩;rintro e w' ⟨rfl,hw⟩;rcases hw with rfl|⟨t,rfl⟩;exact⟨_,G,rfl,Ext.refl _ _ _ _,hG.lt,aRE _ n⟩;have he:=aT2 hG.lt 5 t;exact⟨_,G,rfl,he,λb hb=>Nat.lt_of_lt_of_le (hG b hb) he.size,aRE _ n⟩;cases h4
def aUO:WA Tryz.prog 307 _ _ FF:=by
 rintro⟨s,b,c,⟨⟩⟩ y h w G vs hG hv;unfold FF at h;have⟨hb,h4⟩:=aJ h;clear h;simp only[oA,bN,decide_eq_true_eq]at hb;obtain⟨hb1,rfl,rfl⟩:=hb;have hl:=oL hb1;split at h4;rename_i n hn;obtain rfl:=oB h4;obtain rfl:=b1O hv;refine⟨enters func307 Y Y _ _,(Tryz.strconv_ParseUint_10_at64_ok s Z n hn w).mono ?_⟩;rintro e w' ⟨rfl,hw⟩;rcases hw with rfl|rfl;exact⟨_,G,rfl,Ext.refl _ _ _ _,hG.lt,aRE _ n⟩;have he:=aT2 hG.lt 5 s;exact⟨_,G,rfl,he,λb hb=>Nat.lt_of_lt_of_le (hG b hb) he.size,aRE _ n⟩;cases h4
def aS1:WA Tryz.prog 288 _ _ C4:=by
 rintro⟨n,b,⟨⟩⟩ y h w G vs hG hv;unfold C4 at h;have⟨hb,h4⟩:=aJ h;clear h;simp only[oA,Bool.not_eq_true',aF,bN,decide_eq_true_eq,decide_eq_false_iff_not]at hb;obtain⟨hb1,hb2,rfl⟩:=hb;obtain rfl:=oB h4;obtain rfl:=b3E hv;obtain⟨u,hu⟩:∃ u:Nat,(n:Int)=(u:Int):=⟨Int.toNat n,(Int.toNat_of_nonneg (Int.not_lt.1 hb1)).symm⟩;subst hu;refine⟨enters func288 Y Y _ _,(Tryz.aQL u (Int.ofNat_lt.1 hb2) w (bPZ hG)).mono ?_⟩
 rintro e w' ⟨rfl,k,os,rfl⟩;have hi:(⟨(Lib.decDigits u).toArray⟩:ByteArray)=IP (u:Int):=by
  have h1:u<10^20:=Nat.lt_trans (Int.ofNat_lt.1 hb2) O;rw[a7L (by simpa using h1),Lib.itoa_nonneg]
 rw[hi];have he:=bK3 hG.lt k os;exact⟨_,G,rfl,he,λb hb=>Nat.lt_of_lt_of_le (hG b hb) he.size,bHE _⟩
abbrev bBR:Ent:=⟨161,_,_,EE⟩
def aNL:Ent.OK Tryz.prog bBR:=bAZ
abbrev bA7:Ent:=⟨251,_,_,UA⟩
def a2F:Ent.OK Tryz.prog bA7:=a68
abbrev aWE:Ent:=⟨307,_,_,FF⟩
def aQI:Ent.OK Tryz.prog aWE:=aUO
abbrev aU1:Ent:=⟨288,_,_,C4⟩
def aPB:Ent.OK Tryz.prog aU1:=aS1
set_option maxHeartbeats 4000000
def bXJ(s:ByteArray)(hl:s.size<=1000000000)(v:Int)(h:Lib.parseIntB 64 s.data.toList=.ok v)(w:World) :
  Calls Tryz.prog 103 #[.string s] w λe w'=>e=.returned (.tuple #[.int .i64 v,.bool true])/\(w'=w\/∃ t,w'=Lib.bytesWorld w 5 t):=by
 go_enter func103,ntmps103;go_wp2_with (go_at_call 150; refine(Tryz.strconv_ParseInt_10_at64_ok s Z v h _).mono ?_; rintro e w' ⟨rfl,hw⟩);all_goals refine bodyPost_ret (results_tmp2 rfl _ _ _) rfl ?_
 exact⟨rfl,hw⟩
def bJQ(s:ByteArray)(hl:s.size<=1000000000)(h:Lib.parseIntB 64 s.data.toList=.range)(ev:Value)(w:World)(hv:w.cell? ⟨1,0,none⟩=some ev)(hev:ev=.nilIface\/∃ te pe,ev=.iface te pe) :
  Calls Tryz.prog 103 #[.string s] w λe w'=>e=.returned (.tuple #[.int .i64 0,.bool false])/\Below w.heap.size w w':=by
 go_enter func103,ntmps103;go_wp2_with (go_at_call 150; refine(Tryz.strconv_ParseInt_10_at64_range s Z h ev _ hv hev).mono ?_; rintro e w' ⟨N,rfl,hN1,hN2,hB⟩);all_goals refine bodyPost_ret (results_tmp2 rfl _ _ _) rfl ?_
 exact⟨rfl,hB⟩
def bXQ {w:World}{G:Nat->Prop}(h:Lt w G):∃ b a,w.cell? ⟨1,0,none⟩=some (.iface b a):=by
 have hm:(1,aYK)∈bS8:=by simp[bS8]
 obtain⟨-,b,a,t,c,ht⟩:=h.tab _ hm;refine⟨b,a,?_⟩;simp only[World.cell?];rw[ht];rfl
def a9T {w G} k n b:VR w G aH (.tuple [.lit (.int k n),.lit (.bool b)]) (.tuple #[.int k n,.bool b]):=by
 refine⟨_,rfl,?_⟩;refine⟨_,_,rfl,by rfl,?_⟩;exact⟨_,_,rfl,by rfl,by rfl⟩
def IF(x:aM [.str]):oK [zd,.bool]:=match x with|(s,())=>bif Nat.ble s.size 1000000000 then (match Lib.parseIntB 64 s.data.toList with| .ok n=>some (n,true,())| .range=>some (0,false,())| _=>none) else none
def bBK:WA Tryz.prog 103 _ _ IF:=by
 rintro⟨s,⟨⟩⟩ y h w G vs hG hv;unfold IF at h;have⟨hb,h4⟩:=aJ h;clear h;have hl:=oL hb;split at h4;rename_i n hn;obtain rfl:=oB h4;obtain rfl:=bXW hv;refine⟨enters func103 Y Y _ _,(bXJ s hl n hn w).mono ?_⟩;rintro e w' ⟨rfl,hw⟩;rcases hw with rfl|⟨t,rfl⟩;exact⟨_,G,rfl,Ext.refl _ _ _ _,hG.lt,a9T _ n true⟩;have he:=aT2 hG.lt 5 t;exact⟨_,G,rfl,he,λb hb=>Nat.lt_of_lt_of_le (hG b hb) he.size,a9T _ n true⟩;rename_i hn;obtain rfl:=oB h4;obtain rfl:=bXW hv;have⟨te,pe,hc⟩:=bXQ hG;refine⟨enters func103 Y Y _ _,(bJQ s hl hn _ w hc (.inr ⟨te,pe,rfl⟩)).mono ?_⟩;rintro e w' ⟨rfl,hB⟩;have he:=a08 hG hB;exact⟨_,G,rfl,he,λb hb=>Nat.lt_of_lt_of_le (hG b hb) he.size,a9T _ 0 false⟩;cases h4
abbrev a0J:Ent:=⟨103,_,_,IF⟩
def aDL:Ent.OK Tryz.prog a0J:=bBK
abbrev arB(ae:TypeId) (t:Ty) (A:List (List t.den)):Blk:=⟨aI (.rows t) A,ae,false,false,some ⟨.rows t,A⟩⟩
abbrev owB(e:TypeId)(t:Ty)(l:List t.den):Blk:=⟨aI t l,e,true,false,some ⟨t,l⟩⟩
abbrev OwA:=Option (Nat×Blk)
def aJ5:OwA->Heap->Heap| none,H=>H| some (r,_),H=>H.set r none
def aB9:OwA->Heap| none=>[]| some (_,k)=>[some k]
def b15(μ:Mp):OwA->Option Nat| none=>none| some (r,_)=>μ.loc r
def b3F(μ:Mp):OwA->Option Nat| none=>none| some (r,_)=>μ.len r
def shA(μ:Mp):OwA->Nat| none=>0| some (r,_)=>μ.sh r
def wrA(w:World) (G:Gd) (μ:Mp) (ow:OwA):Nat->Prop:=λb=>w.heap.size<=b\/b15 μ ow=some b\/∃ j,G.row j=some b
def mpA(μ:Mp) (ow:OwA) (n:Nat):Mp:=⟨λq=>if q<(aB9 ow).length then b15 μ ow else none,λq=>if q<(aB9 ow).length then b3F μ ow else if q=(aB9 ow).length then some n else none,λq=>if q<(aB9 ow).length then shA μ ow else 0⟩
structure bQT (H:Heap) (ow:OwA):Prop where
 at_:∀ r k,ow=some (r,k)->H[r]?=some (some k)/\k.grown=true/\k.frozen=false/\k.tag.isSome=true
section
variable {P:Program} {n0:Nat->Prop} {w w':World} {G G1 G2:Gd} {μ μ2:Mp} {H H':Heap} {ae:TypeId} {t:Ty} {A B:List (List t.den)}
def bR5 {ow s k}(h:(aJ5 ow H)[s]?=some (some k)):H[s]?=some (some k)/\∀ r k',ow=some (r,k')->s≠r:=by
 cases ow with
 | none=>exact⟨h,λr k' e=>by grind⟩
 | some p =>
  have⟨b,a⟩:=zI h;grind
def bGC {ow}:(aJ5 ow H).length=H.length:=by
 cases ow with
 | none=>rfl;| some p=>simp[aJ5]
def b1B(a:aX n0 G μ H w) {ow:OwA} (d:bQT H ow):∀ b,wrA w G μ ow b->n0 b:=by
 rintro b (h|h|⟨j,h⟩);exact a.base b h
 ·cases ow with
  | none=>cases h
  | some p =>
   have⟨r,k⟩:=p;have⟨c,_,e,_⟩:=d.at_ r k rfl;have⟨_,_,_,_,_,f⟩:=a.blk r k b c h;grind
 exact(a.rows.sep j b h).2.1
def bR1(a:aX n0 G μ H w) {ow:OwA} (m:bQT H ow) {s:Nat} {k:Blk} {b:Nat} (d:H[s]?=some (some k)) (e:∀ r k',ow=some (r,k')->s≠r) (c:μ.loc s=some b):¬ wrA w G μ ow b:=by
 rintro(h|h|⟨j,h⟩);exact Nat.not_lt.2 h (a.vB d c)
 ·cases ow with
  | none=>cases h
  | some p =>
   have⟨r,k'⟩:=p;have⟨g,_,l,_⟩:=m.at_ r k' rfl;cases f:k.frozen with
   | false=>exact e r k' rfl (a.inj s r k k' b d g f l c h)
   | true =>
    have⟨_,_,_,_,i,_⟩:=a.blk s k b d c;have⟨_,_,_,_,_,n⟩:=a.blk r k' b g h;grind
 ·have⟨_,_,a3,a4⟩:=a.rows.sep j b h;cases f:k.frozen with
  | false=>exact a4 s k d f c
  | true =>
   have⟨_,_,_,_,i,_⟩:=a.blk s k b d c;grind
def aXO(l:aX n0 G μ H w) {ow:OwA} (m:bQT H ow) {ra:Nat} (h:H[ra]?=some (some (arB ae t A))) :
  aX (wrA w G μ ow) G (mpA μ ow A.length) (aB9 ow++[some (arB ae t A)]) w:=by
 have key:∀ (s:Nat) (k:Blk),(aB9 ow++[some (arB ae t A)])[s]?=some (some k)->(s<(aB9 ow).length/\∃ r,ow=some (r,k)/\s=0)\/(s=(aB9 ow).length/\k=arB ae t A):=by
  intro s k e;rcases aTD (H:=aB9 ow) s k e with ⟨a,f⟩|⟨a,f⟩;grind
  ·left;refine⟨a,?_⟩;cases ow with
   | none=>simp[aB9]at a
   | some p =>
    have⟨r,k'⟩:=p;simp only[aB9,List.length_cons,List.length_nil]at a;have:s=0:=Z
    subst this;simp only[aB9,List.getElem?_cons_zero,oJ]at f;grind
 refine⟨?_,?_,?_,l.lt,?_,λb i=>.inl i,?_⟩;intro s k b e i;rcases key s k e with ⟨a,r,rfl,rfl⟩|⟨a,rfl⟩;have i:μ.loc r=some b:=(by have:(mpA μ (some (r,k)) A.length).loc 0=μ.loc r:=rfl;grind);have⟨d,n,D,B⟩:=m.at_ r k rfl;have⟨c,u,a2,a3,a4,a5⟩:=l.blk r k b d i;refine⟨c,u,?_,a3,a4,λy=>⟨.inr (.inl i),(a5 y).2⟩⟩;have⟨g,o⟩:=Option.isSome_iff_exists.1 B;rw[(l.tags r k g d o).1]at a2 ⊢;exact xZ (lB _ _) a2;subst a;simp only[mpA,Nat.lt_irrefl,if_false]at i;cases i;intro s k g e o;rcases key s k e with ⟨a,r,rfl,rfl⟩|⟨a,rfl⟩;have⟨d,_⟩:=m.at_ r k rfl;have⟨u,a2⟩:=l.tags r k g d o;exact⟨u,a2⟩;cases o;subst a;refine⟨rfl,?_⟩;simp only[mpA,Nat.lt_irrefl,if_false,if_true];intro s1 s2 z v b a f f1 f2 m1 m2;rcases key s1 z a with ⟨p1,r1,e1,rfl⟩|⟨p1,rfl⟩;rcases key s2 v f with ⟨p2,r2,e2,rfl⟩|⟨p2,rfl⟩;rfl;subst p2;simp only[mpA,Nat.lt_irrefl,if_false]at m2;cases m2;subst p1;simp only[mpA,Nat.lt_irrefl,if_false]at m1;cases m1;intro s e;rw[oH]at e;simp only[List.length_cons,List.length_nil]at e;have a:¬ s<(aB9 ow).length:=Z;have f:¬ s=(aB9 ow).length:=Z;simp only[mpA,a,f,if_false,and_self]
 ·refine(l.rows.rel (λs x=>(s<(aB9 ow).length/\∃ r k,ow=some (r,k)/\x=r)\/(s=(aB9 ow).length/\x=ra)) ?_ ?_).aXW λj b C _=>.inr (.inr ⟨j,C⟩)
  ·rintro s s2 q (⟨a,r,k,h3,h4⟩|⟨a,h3⟩) (⟨f,r2,v,h5,h6⟩|⟨f,h5⟩)
   ·have:(aB9 ow).length<=1:=by rw[h3]; simp[aB9]
    omega
   exfalso;have⟨d,n,_⟩:=m.at_ r k h3;rw[<- h4,h5,h]at d;cases d;cases n;exfalso;have⟨d,n,_⟩:=m.at_ r2 v h5;rw[<- h6,h3,h]at d;cases d;cases n;rw[a,f]
  intro s k' e;rcases key s k' e with ⟨a,r,rfl,rfl⟩|⟨a,rfl⟩;exact⟨r,k',.inl ⟨a,r,k',rfl,rfl⟩,(m.at_ r k' rfl).1,rfl,rfl,rfl,rfl,rfl⟩;refine⟨ra,_,.inr ⟨a,rfl⟩,h,rfl,rfl,rfl,rfl,?_⟩;subst a;simp only[mpA,Nat.lt_irrefl,if_false];exact(l.rows.arn ra _ t A h rfl rfl).1.symm
abbrev OsA:=Option (Nat×Blk×Blk)
def bMB:OsA->Heap| none=>[]| some (_,_,k)=>[some k]
def bXU(μ:Mp):OsA->Option Nat| none=>none| some (r,_,_)=>μ.loc r
def shS(μ:Mp):OsA->Nat| none=>0| some (r,_,_)=>μ.sh r
def bXC:OsA->Option Nat| none=>none| some (_,_,k)=>match k.tag with| some g=>some g.l.length| none=>none
structure b0F (H:Heap) (os:OsA):Prop where
 at_:∀ r k k',os=some (r,k,k')->H[r]?=some (some k)/\k'.grown=true/\k.frozen=false/\k'.frozen=false/\k'.ty=k.ty/\∃ g n,k'.tag=some g/\k'.cells=aI g.t g.l/\k'.cells=k.cells.take n
def BO(μ μ2:Mp) (N n:Nat) (os:OsA):Mp:=⟨λq=>if q<N then μ.loc q else if q=N+1 then bXU μ2 os else none,λq=>if q<N then μ.len q else if q=N then some n else if q=N+1 then bXC os else none,λq=>if q<N then μ.sh q else if q=N+1 then shS μ2 os else 0⟩
def a6B(D:aX n0 G μ H w) {ow:OwA} (ho:bQT H ow) {ra:Nat} (U:H[ra]?=some (some (arB ae t A))) (z:Ext (wrA w G μ ow) w G aH w' G1 μ2) (u:aX (wrA w G μ ow) G1 μ2 H' w')
  {rb:Nat} (hrb:H'[rb]?=some (some (arB ae t B))) {os:OsA} (n:b0F H' os) (e:∀ j,G2.row j=G1.row j) (F:∀ b,G1 b->G2 b)
  (M:∀ b,G2 b->G1 b\/∃ s k,H'[s]?=some (some k)/\k.frozen=false/\μ2.loc s=some b/\∀ r k' I,os=some (r,k',I)->s≠r) :
  Ext n0 w G μ w' G2 (BO μ μ2 H.length B.length os)/\aX n0 G2 (BO μ μ2 H.length B.length os) (((aJ5 ow H).set ra none)++(some (arB ae t B)::bMB os)) w':=by
 have K:=b1B D ho;have hblk:∀ s k b,H'[s]?=some (some k)->k.frozen=false->μ2.loc s=some b->wrA w G μ ow b:=λs k b f C d=>by
  have⟨_,_,_,_,_,h6⟩:=u.blk s k b f d;grind
 have W:∀ b,G2 b->G b\/wrA w G μ ow b:=λb d=>by
  rcases M b d with h|⟨s,k,a,l,q,_⟩
  ·exact z.new b h
  ·grind
 have V:Lt w' G2.ok:=u.lt.step (λb d=>⟨F b d,rfl⟩) λb d=>by
  rcases M b d with h|⟨s,k,a,_,q,_⟩
  ·exact u.lt b h
  ·exact u.vB a q
 have e2:Ext n0 w G μ w' G2 (BO μ μ2 H.length B.length os):={
  good:=λb d=>⟨F b (z.good b d).1,(z.good b d).2⟩
  map:=λr b J=>by
   have:r<H.length:=by
    rcases oG r H.length with h|h
    ·exact h
    ·rw[(D.top r h).1]at J; cases J
   simp only[BO,this,if_true]; exact J
  len:=λr b J=>by
   have:r<H.length:=by
    rcases oG r H.length with h|h
    ·exact h
    ·rw[(D.top r h).2]at J; cases J
   simp only[BO,this,if_true]; exact J
  sh:=λr b J=>by
   have:r<H.length:=by
    rcases oG r H.length with h|h
    ·exact h
    ·rw[(D.top r h).1]at J; cases J
   simp only[BO,this,if_true]
  room:=z.room
  row:=λj b v=>by rw[e]; exact z.row j b v
  os:=z.os
  tape:=z.tape
  output:=z.output
  size:=z.size
  old:=λb d hn=>z.old b d λh=>hn (K b h)
  new:=λb d=>(W b d).imp id (K b) }
 have hlen:((aJ5 ow H).set ra none).length=H.length:=(by rw[List.length_set,bGC])
 have key:∀ (s:Nat) (k:Blk),(((aJ5 ow H).set ra none)++(some (arB ae t B)::bMB os))[s]?=some (some k) ->
   (s<H.length/\s≠ra/\H[s]?=some (some k)/\∀ r k',ow=some (r,k')->s≠r)\/(s=H.length/\k=arB ae t B)\/(s=H.length+1/\∃ r k0,os=some (r,k0,k)):=by
  intro s k f;rcases oG s H.length with E|E
  ·rw[List.getElem?_append_left (by rw[hlen]; exact E)]at f;have⟨a,l⟩:=zI f;have⟨q,O⟩:=bR5 a;exact .inl ⟨E,l,q,O⟩
  ·rw[List.getElem?_append_right (by rw[hlen]; exact E),hlen]at f;rcases Nat.eq_zero_or_pos (s-H.length)with h0|h0
   ·rw[h0]at f;simp only[List.getElem?_cons_zero,oJ]at f;exact .inr (.inl ⟨by omega,f.symm⟩)
   ·obtain⟨m,hm⟩:∃ m,s-H.length=m+1:=⟨s-H.length-1,by omega⟩;rw[hm,List.getElem?_cons_succ]at f;cases os with
    | none=>simp[bMB]at f
    | some p =>
     have⟨r,k0,k'⟩:=p;cases m with
     | zero =>
      simp only[bMB,List.getElem?_cons_zero,oJ]at f;subst f;exact .inr (.inr ⟨by omega,r,k0,rfl⟩)
     | succ m=>simp[bMB]at f
 have P:∀ s,s<H.length->(BO μ μ2 H.length B.length os).loc s=μ.loc s/\(BO μ μ2 H.length B.length os).len s=μ.len s/\(BO μ μ2 H.length B.length os).sh s=μ.sh s:=λs f=>by simp[BO,f]
 have N:(BO μ μ2 H.length B.length os).loc H.length=none/\(BO μ μ2 H.length B.length os).len H.length=some B.length:=(by simp[BO]);have R:(BO μ μ2 H.length B.length os).loc (H.length+1)=bXU μ2 os/\(BO μ μ2 H.length B.length os).len (H.length+1)=bXC os:=(by have a:¬ H.length+1<H.length:=zN;have l:¬ H.length+1=H.length:=zN;simp only[BO,a,l,if_false,if_true,and_self]);have l3:(BO μ μ2 H.length B.length os).sh (H.length+1)=shS μ2 os:=(by have a:¬ H.length+1<H.length:=zN;simp only[BO,a,if_false,if_true])
 have hold:∀ s k b,H[s]?=some (some k)->(∀ r k',ow=some (r,k')->s≠r)->μ.loc s=some b->w'.heap[b]?=w.heap[b]?/\¬ wrA w G μ ow b:=λs k b a l q=>by
  have O:=bR1 D ho a l q;exact⟨z.old b (D.vB a q) O,O⟩
 refine⟨e2,?_,?_,?_,V,?_,λb d=>D.base b (oR z.size d),?_⟩;intro s k b f d;rcases key s k f with ⟨a,l,q,O⟩|⟨a,rfl⟩|⟨a,r,k0,l⟩;rw[(P s a).1]at d;have⟨c,X,a2,a3,a4,a5⟩:=D.blk s k b q d;have⟨g1,g2⟩:=hold s k b q O d;rw[(P s a).2.2];refine⟨c,g1.trans X,aT.mono e2.toMono g1 _ _ a2,a3,λC=>F b (z.good b (a4 C)).1,λC=>⟨(a5 C).1,λo=>?_⟩⟩;rcases W b o with h|h;exact(a5 C).2 h;exact g2 h;subst a;rw[N.1]at d; cases d;subst a; subst l;rw[R.1]at d;have⟨y,S,Q,Y,q5,g,nc,q6,Z,q8⟩:=n.at_ r k0 k rfl;have⟨c,X,a2,a3,a4,a5⟩:=u.blk r k0 b y d;rw[l3];refine⟨c,by rw[q5]; exact X,?_,(λC=>by rw[S]at C; cases C),(λC=>by rw[Y]at C; cases C),λC=>⟨K b (a5 Q).1,λo=>?_⟩⟩;replace a2:=a2.take nc;rw[<- q8,Z]at a2;rw[Z];have⟨us,u1,u2⟩:=a2.values;have m12:Mono w' G1 aH w' G2 (BO μ μ2 H.length B.length (some (r,k0,k))):=⟨λb d=>⟨F b d,rfl⟩,λ_ _ h=>(by cases h),λ_ _ h=>(by cases h),λ_ _ h=>h,λj b v=>by rw[e]; exact v,λ_ _ h=>(by cases h)⟩;exact aT.vK (VRs.mono m12 _ _ (cZ _ _ (lB _ _) u1)) u2;rcases M b o with h|⟨s2,I,z1,z2,z3,z4⟩;exact(a5 Q).2 h;exact z4 r k0 k rfl (u.inj s2 r I k0 b z1 y z2 Q z3 d);intro s k g f o;rcases key s k f with ⟨a,l,q,O⟩|⟨a,rfl⟩|⟨a,r,k0,l⟩;rw[(P s a).2.1];exact D.tags s k g q o;cases o;subst a;exact⟨rfl,N.2⟩;subst a; subst l;rw[R.2];have⟨_,_,_,_,_,g',_,q6,Z,_⟩:=n.at_ r k0 k rfl;rw[o]at q6;cases q6;exact⟨Z,by simp only[bXC,o]⟩;intro s1 s2 T I b a l f1 f2 m1 m2;rcases key s1 T a with ⟨p1,p2,p3,p4⟩|⟨p1,rfl⟩|⟨p1,r,k0,p2⟩;rw[(P s1 p1).1]at m1;rcases key s2 I l with ⟨y,S,Q,Y⟩|⟨y,rfl⟩|⟨y,r2,k02,S⟩;rw[(P s2 y).1]at m2;exact D.inj s1 s2 T I b p3 Q f1 f2 m1 m2;subst y; rw[N.1]at m2; cases m2;subst y; subst S;rw[R.1]at m2;exact absurd (hblk r2 k02 b (n.at_ r2 k02 I rfl).1 (n.at_ r2 k02 I rfl).2.2.1 m2) (hold s1 T b p3 p4 m1).2;subst p1; rw[N.1]at m1; cases m1;subst p1; subst p2;rw[R.1]at m1;rcases key s2 I l with ⟨y,S,Q,Y⟩|⟨y,rfl⟩|⟨y,r2,k02,S⟩;rw[(P s2 y).1]at m2;exact absurd (hblk r k0 b (n.at_ r k0 T rfl).1 (n.at_ r k0 T rfl).2.2.1 m1) (hold s2 I b Q Y m2).2;subst y; rw[N.1]at m2; cases m2;exact y.symm
 ·intro s f;rw[oH,hlen,List.length_cons]at f;have a:¬ s<H.length:=zN;have l:¬ s=H.length:=zN;by_cases q:s=H.length+1
  ·cases os with
   | none=>rw[q]; exact R
   | some p =>
    have⟨r,k0,T⟩:=p;simp only[bMB,List.length_cons,List.length_nil]at f;omega
  simp[BO,a,l,q]
 have L:=u.rows;refine⟨λi j b a l=>L.inj i j b (by rw[<- e]; exact a) (by rw[<- e]; exact l),?_,?_,?_,?_⟩;intro j b v;rw[e]at v;have⟨X,a2,a3,a4⟩:=L.sep j b v;refine⟨X,K b a2,λo=>?_,λs k f C E=>?_⟩;rcases M b o with h|⟨s,k,z1,z2,z3,_⟩;exact a3 h;exact a4 s k z1 z2 z3;rcases key s k f with ⟨p1,p2,p3,p4⟩|⟨p1,rfl⟩|⟨p1,r,k0,p2⟩;rw[(P s p1).1]at E;exact(hold s k b p3 p4 E).2 a2;subst p1; rw[N.1]at E; cases E;subst p1; subst p2;rw[R.1]at E;exact a4 r k0 (n.at_ r k0 k rfl).1 (n.at_ r k0 k rfl).2.2.1 E;intro j b v;rw[e]at v;exact L.cel j b v;intro s k t1 x f o ht;rcases key s k f with ⟨p1,p2,p3,p4⟩|⟨p1,rfl⟩|⟨p1,r,k0,p2⟩;exact absurd (D.rows.one s ra k _ t1 x t A p3 o ht U rfl rfl) p2;cases ht;subst p1;have⟨_,a2,a3⟩:=L.arn rb _ t B hrb rfl rfl;refine⟨N.1,λj v=>by rw[e]; exact a2 j v,λj row v=>?_⟩;rcases a3 j row v with h|⟨b,z1,z2⟩;exact .inl h;have m12:Mono w' G1 aH w' G2 aH:=⟨λb d=>⟨F b d,rfl⟩,λ_ _ h=>h,λ_ _ h=>h,λ_ _ h=>h,λj b v=>by rw[e]; exact v,λ_ _ _=>rfl⟩;exact .inr ⟨b,by rw[e]; exact z1,z2.mono m12 rfl⟩;subst p2;rw[(n.at_ r k0 k rfl).2.1]at o; cases o;have only:∀ (s:Nat) (k:Blk) (t1:Ty) (x:List (List t1.den)),(((aJ5 ow H).set ra none)++(some (arB ae t B)::bMB os))[s]?=some (some k)->k.grown=false->k.tag=some ⟨.rows t1,x⟩->s=H.length:=(by intro s k t1 x f o ht;rcases key s k f with ⟨p1,p2,p3,p4⟩|⟨p1,_⟩|⟨p1,r,k0,p2⟩;exact absurd (D.rows.one s ra k _ t1 x t A p3 o ht U rfl rfl) p2;exact p1;subst p2;rw[(n.at_ r k0 k rfl).2.1]at o; cases o);intro r s k k' t1 x t2 l2' a g1 t1' l g2 t2';rw[only r k t1 x a g1 t1',only s k' t2 l2' l g2 t2']
end
def a0N:∀ ts x,eM.noRefs (aOU ts x)=true| [],_=>rfl| t::r,(x,xs)=>by simp only[aOU,eM.noRefs,eM,a0N r xs,Bool.and_self]
def bJ6:∀ k x r,aU8 (k::r)=true->eM (OB k x 0)=true/\aU8 r=true
 | .int _,_,_,h=>⟨rfl,h⟩
 | .bool,_,_,h=>⟨rfl,h⟩
 | .str,_,_,h=>⟨rfl,h⟩
 | .list _,_,_,h=>⟨rfl,h⟩
 | .agg t,x,_,h=>⟨aF7 t x,h⟩
 | .own _ _,_,_,h=>by cases h
 | .box _ _,_,_,h=>by cases h
 | .win _ _,_,_,h=>by cases h
 | .bown _ _ _,_,_,h=>by cases h
 | .bque _ _ _,_,_,h=>by cases h
 | .bag _ _ _ _ _,_,_,h=>by cases h
 | .bag2 _ _ _ _ _ _,_,_,h=>by simp only[aU8]at h; grind
 | .ar _ _,_,_,h=>by cases h
 | .hnd _,_,_,h=>⟨rfl,h⟩
 | .mpk _,_,_,h=>⟨rfl,h⟩
 | .ptr t,x,_,h=>⟨rfl,h⟩
 | .fn _,_,_,h=>⟨rfl,h⟩
 | .nil0,_,_,h=>⟨rfl,h⟩
 | .val,_,_,h=>⟨rfl,h⟩
 | .nilI,_,_,h=>⟨rfl,h⟩
 | .clo _ ts,x,_,h=>⟨by simp only[OB,eM,eM.noRefs,a0N ts x,Bool.and_self],h⟩
def aE5:∀ l x,aU8 l=true->eM.noRefs (lF l x)=true
 | [],_,_=>rfl
 | k::r,(x,xs),h=>by
  have⟨b,a⟩:=bJ6 k x r h;simp only[lF,eM.noRefs,b,aE5 r xs a,Bool.and_self]
inductive Tk where
 | none
 | own (e:TypeId) (t:Ty)
@[reducible] def Tk.den:Tk->Type| .none=>Unit| .own _ t=>List t.den
def Tk.pv:Tk->Nat->List PV| .none,_=>[]| .own _ t,r=>[.own r t.size]
def Tk.ow:(k:Tk)->k.den->Nat->OwA| .none,_,_=>Option.none| .own e t,l,r=>some (r,owB e t l)
inductive An where
 | data (l:List Kd)
 | own (e:TypeId) (t:Ty)
 | str (t1:Ty) (e:TypeId) (t:Ty) (t2:Ty)
@[reducible] def An.den:An->Type| .data l=>aM l| .own _ t=>List t.den| .str t1 _ t t2=>t1.den×List t.den×t2.den
def An.pv:(a:An)->a.den->Nat->PV| .data l,y,_=>aLV l y| .own _ t,_,n=>.own n t.size| .str t1 _ t t2,y,n=>.tuple [.agg (enc t1 y.1++.own n t.size::enc t2 y.2.2),.lit (.bool true)]
def An.hp:(a:An)->a.den->Heap| .data _,_=>[]| .own e t,l=>[some (owB e t l)]| .str _ e t _,y=>[some (owB e t y.2.1)]
def Z6(P:Program) (g:FuncId) (ae:TypeId) (t:Ty) (tk:Tk) (args:List Kd) (an:An) (f:tk.den->aM args->List (List t.den)->Option (an.den×List (List t.den))):Prop :=∀ l x A y B,f l x A=some (y,B)->∀ {n0 G μ H w us ra r},aX n0 G μ H w->H[ra]?=some (some (arB ae t A))->bQT H (tk.ow l r)->VRs w G μ (tk.pv r++lF args x) us ->DI P n0 w G μ g us.toArray (an.pv y (H.length+1)) (((aJ5 (tk.ow l r) H).set ra none)++(some (arB ae t B)::an.hp y))
def bR7(ae:TypeId) (t:Ty) (H:Heap):Option (Nat×List (List t.den)):=match aT7 0 H with
 | some (r,k)=>match k.tag with
  | some g=>match KZ g.t (.rows t) g.l with
   | some l=>bif Nat.beq k.ty ae&&!k.frozen then some (r,l) else none
   | none=>none
  | none=>none
 | none=>none
def b1L(e:TypeId)(t:Ty)(H:Heap):PV->Option (List t.den)| .own r sz=>RI e t (.own r sz) H r| .win r lo n sz=>bif Nat.beq lo 0 then match RI e t (.own r sz) H r with| some l=>some (l.take n)| none=>none else none| _=>none
def zqe1 (t1 : Ty) (e : TypeId) (t : Ty) (t2 : Ty) (H : Heap) : PV → Option (t1.den × List t.den × t2.den)
  | .tuple [.agg cs, .lit (.bool true)] => match cs.drop t1.size with
    | .own r sz :: rest => match RI e t (.own r sz) H r with
      | some l => match inl false (H.set r none) depth (.agg (cs.take t1.size ++ rest)) with
        | some (.agg ds) => match dec (.prod t1 t2) ds with
          | some x => some (x.1, l, x.2)
          | none => none
        | _ => none
      | none => none
    | _ => none
  | _ => none
def bNQ:(an:An)->PV->Heap->Option an.den
 | .data l,q,H=>match inl false H depth q with
  | some q'=>bFX l q'
  | none=>none
 | .own e t,q,H=>b1L e t H q
 | .str t1 e t t2,q,H=>zqe1 t1 e t t2 H q
def bYP(P:Program)(rs:List ResultVar)(ae:TypeId)(t:Ty)(an:An)(ex:Ex)(F:Frm)(H:Heap):Option (an.den×List (List t.den)):=match ex with
 | .exit _=>none
 | _=>match yG P F H rs with
  | some vs=>match bR7 ae t H with
   | some B=>match bNQ an (pI vs) H with
    | some y=>some (y,B.2)
    | none=>none
   | none=>none
  | none=>none
def SQ(P:Program)(E:Env)(fn:Func)(keep:Nat)(lt:Nat->Option cI)(c:Code)(ae:TypeId)(t:Ty)(tk:Tk) args (an:An)(l:tk.den)(x:aM args)(A:List (List t.den)):Option (an.den×List (List t.den)) :=bif Nat.ble (tk.pv 0++lF args x).length fn.ntmps then C1 P E fn.ntmps keep lt c (start keep 0 (tk.pv 0++lF args x)) (aB9 (tk.ow l 0)++[some (arB ae t A)]) (bYP P fn.results.toList ae t an) else none
section
variable {P:Program} {n0:Nat->Prop} {w w':World} {G G1 G2:Gd} {μ μ2:Mp} {H H':Heap} {ae:TypeId} {t:Ty} {A B:List (List t.den)}
def aWX(b:aX n0 G μ H w){p}(h:bR7 ae t H=some p):H[p.1]?=some (some (arB ae t p.2)):=by
 unfold bR7 at h;split at h;rename_i r k f;have⟨d,o⟩:=aSG f;split at h;rename_i g i;split at h;rename_i l j;have⟨a,h⟩:=aJ h;simp only[oA]at a;simp only[oJ]at h;subst h;have c:=oE a.1;have ht:=(b.tags r k g d i).1;have e:=bJ5 j;have⟨s,u,n,q,m⟩:=k;grind;grind;grind;grind
def bAR(f:aX n0 G μ H w) {e:TypeId} {u:Ty} {p:PV} {l:List u.den} {v:Value} (h:b1L e u H p=some l) (t:VR w G μ p v) :
  ∃ r a,b0F H (some (r,owB e u a,owB e u l))/\∀ G2 μ3 n,μ3.loc n=μ.loc r->μ3.len n=some l.length->μ3.sh n=μ.sh r->VR w G2 μ3 (.own n u.size) v:=by
 have key:∀ (a:List u.den) (r m:Nat),H[r]?=some (some (owB e u a))->b0F H (some (r,owB e u a,owB e u (a.take m))):=λa r m y=>⟨λC k k' he=>by
  cases he;exact⟨y,rfl,rfl,rfl,rfl,⟨u,a.take m⟩,m*u.size,rfl,rfl,(yV u m a).symm⟩⟩
 unfold b1L at h;split at h;rename_i r sz;have⟨i,d⟩:=uZ f h;cases i;refine⟨r,l,by have:=key l r l.length d; rwa[List.take_length]at this,λG2 μ3 n x j o=>?_⟩;have⟨m,g,a2⟩:=t;have:=(f.tags r _ _ d rfl).2;rw[this]at g;cases g;refine⟨_,j,?_⟩;grind;rename_i r lo n sz;have⟨q,h⟩:=aJ h;have q:=oE q;subst q;split at h;rename_i a s;obtain rfl:=oB h;have⟨i,d⟩:=uZ f s;cases i;refine⟨r,a,key a r n d,λG2 μ3 m x j o=>?_⟩;have⟨b,c,B,g,a2,a3,a4,a5,A,z⟩:=t;have:=(f.tags r _ _ d rfl).2;rw[this]at a5;cases a5;refine⟨n,by rw[j,List.length_take]; change 0+n<=a.length at A; congr 1; omega,.inr ⟨b,c,by rw[x]; exact g,by rw[a2,o,Nat.zero_mul]; rfl,a3,?_,by rw[o]; exact z.2⟩⟩;grind;cases h;cases h
def bQ8 {α:Type 1}{b x}{y:α}(h:(bif b then x else none)=some y):b=true/\x=some y:=zt
theorem zqe2 (hW : aX n0 G μ H w) {t1 t2 u : Ty} {e : TypeId} {q : PV} {y : t1.den × List u.den × t2.den} {v : Value} (h : zqe1 t1 e u t2 H q = some y) (hv : VR w G μ q v) :
    ∃ r, b0F H (some (r, owB e u y.2.1, owB e u y.2.1)) ∧ ∀ G2 : Gd, (∀ j b, G.row j = some b → G2.row j = some b) → (∀ b, G b → G2 b) → (∀ s k b, H[s]? = some (some k) → k.frozen = false → s ≠ r → μ.loc s = some b → G2 b) →
      ∀ μ3 n, μ3.loc n = μ.loc r → μ3.len n = some y.2.1.length → μ3.sh n = μ.sh r → VR w G2 μ3 ((An.str t1 e u t2).pv y n) v := by
  unfold zqe1 at h
  split at h
  · rename_i cs
    split at h
    · rename_i r sz rest hd
      split at h
      · rename_i l hl
        split at h
        · rename_i ds hds
          split at h
          · rename_i x hx
            obtain rfl := Option.some.inj h
            obtain ⟨h1, h2⟩ := uZ hW hl
            cases h1
            refine ⟨r, ⟨fun r' k k' he => by
              cases he
              exact ⟨h2, rfl, rfl, rfl, rfl, ⟨u, l⟩, l.length * u.size, rfl, rfl, by have := (yV u l.length l).symm; rwa [List.take_length] at this⟩⟩, fun G2 hR hG hB μ3 n q1 q2 q3 => ?_⟩
            show VR w G2 μ3 (.tuple [.agg (enc t1 x.1 ++ .own n u.size :: enc t2 x.2), .lit (.bool true)]) v
            rw [VR] at hv ⊢
            obtain ⟨vs, e1, e2⟩ := hv
            refine ⟨vs, e1, ?_⟩
            rw [VRs] at e2 ⊢
            obtain ⟨v1, vs1, g1, g2, g3⟩ := e2
            refine ⟨v1, vs1, g1, ?_, ?_⟩
            · rw [VR] at g2 ⊢
              obtain ⟨us, f1, f2⟩ := g2
              refine ⟨us, f1, ?_⟩
              have p1 := f2.take t1.size
              have p2 := f2.drop t1.size
              rw [hd, VRs] at p2
              obtain ⟨vo, vr, k1, k2, k3⟩ := p2
              have hag : VR w G μ (.agg (cs.take t1.size ++ rest)) (.agg (us.toList.take t1.size ++ vr).toArray) := by
                rw [VR]
                exact ⟨_, rfl, by simpa using VRs.append p1 k3⟩
              have hq := ZP (wB hW r) hR hG (fun s k1 b hs _ hb => by
                obtain ⟨hs, hne⟩ := zI hs
                cases hf : k1.frozen with
                | true =>
                  obtain ⟨_, _, _, _, g5, _⟩ := hW.blk s k1 b hs hb
                  exact hG b (g5 hf)
                | false => exact hB s k1 b hs hf hne hb) depth _ _ _ hds hag
              rw [VR] at hq
              obtain ⟨us2, f3, f4⟩ := hq
              obtain rfl : (us.toList.take t1.size ++ vr).toArray = us2 := by injection f3
              have p3 := JN (.prod t1 t2) _ ds x _ hx f4
              rw [show enc (.prod t1 t2) x = enc t1 x.1 ++ enc t2 x.2 from rfl] at p3
              have hlen : (us.toList.take t1.size).length = t1.size := by
                have a1 := f2.length
                have a2 := congrArg List.length hd
                simp only [List.length_drop, List.length_cons] at a2
                rw [List.length_take]
                omega
              have p4 := p3.take t1.size
              have p5 := p3.drop t1.size
              rw [List.take_left' (FA t1 x.1), List.take_left' hlen] at p4
              rw [List.drop_left' (FA t1 x.1), List.drop_left' hlen] at p5
              rw [← List.take_append_drop t1.size us.toList, k1]
              refine VRs.append p4.bF ?_
              rw [VRs]
              refine ⟨vo, vr, rfl, ?_, p5.bF⟩
              obtain ⟨m, a1, a2⟩ := k2
              have := (hW.tags r _ _ h2 rfl).2
              rw [this] at a1
              cases a1
              refine ⟨_, q2, ?_⟩
              grind
            · rw [VRs] at g3 ⊢
              obtain ⟨b, bs, f1, f2, f3⟩ := g3
              rw [VR] at f2
              rw [VRs] at f3
              exact ⟨b, bs, f1, by rw [VR]; exact f2, by rw [VRs]; exact f3⟩
          · cases h
        · cases h
      · cases h
    · cases h
  · cases h

def I7 {E:Env} (hP:WV P) (hE:dN P E) {g:Nat} {fn:Func} (hg:P.funcs[g]?=some fn) {c:Code} (hc:fn.body=some c) {keep:Nat} {lt:Nat->Option cI} {ae:TypeId} {t:Ty} {m:Tk} {args:List Kd} {p:An} {f:m.den->aM args->List (List t.den)->Option (p.den×List (List t.den))}
  (hd:aU8 args=true) (hl:∀ a∈bA c,∀ s,lt (bM a)=some s->cJ P fn.ntmps a s) (d:∀ l x A,SQ P E fn keep lt c ae t m args p l x A=f l x A):Z6 P g ae t m args p f:=by
 intro l x A y B S n0 G μ H w us ra r W D ho T;rw[<- d]at S;have⟨hlen,S⟩:=aJ S;have⟨⟨ex,F',H'⟩,j,h2⟩:=sZ hE.callee hP.mixed c _ _ _ _ hl S;obtain⟨vs,F,hex,J,V,K,rfl⟩:∃ vs F,(ex=.normal\/ex=.ret)/\yG P F' H' fn.results.toList=some vs/\bR7 ae t H'=some F/\bNQ p (pI vs) H'=some y/\F.2=B:=by
  unfold bYP at j;split at j
  ·cases j
  next hne=>
   split at j
   ·rename_i vs J;split at j
    ·rename_i F V;split at j
     ·rename_i y' X;simp only[oJ,oP]at j;obtain⟨rfl,j⟩:=j;refine⟨vs,F,?_,J,V,X,j⟩;cases ex with
      | normal=>exact .inl rfl
      | ret=>exact .inr rfl
      | exit i=>exact absurd rfl (hne i)
     ·cases j
    ·cases j
   ·cases j
 have z:VRs w G (mpA μ (m.ow l r) A.length) (m.pv 0++lF args x) us:=by
  have hn:=aE5 args x hd;cases m with
  | none=>exact VRs.bF (cZ _ _ hn T)
  | own e u =>
   change VRs w G μ (.own r u.size::lF args x) us at T;change VRs w G _ (.own 0 u.size::lF args x) us;rw[VRs]at T ⊢;obtain⟨v,us',rfl,q1,q2⟩:=T;refine⟨v,us',rfl,?_,VRs.bF (cZ _ _ hn q2)⟩;rw[VR]at q1 ⊢;exact q1
 have M:aB9 (m.ow l 0)=aB9 (m.ow l r):=by cases m <;> rfl
 have O:=aXO W ho D;rw[<- M]at O;have e0:Ext (wrA w G μ (m.ow l r)) w G aH w G (mpA μ (m.ow l r) A.length) :=
  ⟨⟨λb d=>⟨d,rfl⟩,λ_ _ h=>(by cases h),λ_ _ h=>(by cases h),λ_ _ h=>h,λ_ _ h=>h,λ_ _ h=>(by cases h)⟩,rfl,rfl,rfl,oM _,λ_ _ _=>rfl,λ_ h=>.inl h⟩
 refine⟨enters hg (hP.names g fn hg) (by rw[hc]; rfl) _ _,calls_of_wp hg hc ?_⟩;have hI:I (wrA w G μ (m.ow l r)) w G aH fn.ntmps (start keep 0 (m.pv 0++lF args x)) (aB9 (m.ow l 0)++[some (arB ae t A)]) ⟨us.toArray++Array.replicate (fn.ntmps-us.toArray.size) undef,[]⟩ w :=
  ⟨G,_,e0,O,E6 (by simpa using z) (oL hlen)⟩
 refine wp_mono (h2 _ w G aH _ w (λr=>⟨rfl,rfl⟩) hI) ?_;rintro e1 U w' ⟨rfl,G1,μ1,ee,n,Q⟩;have⟨ws,h3,h4⟩:=uB (P:=P) n Q J;have N:(results fn U.tmps).run P w'=.ok (if hh:ws.toArray.size=1 then ws.toArray[0] else .tuple ws.toArray) w':=by
  rw[J0,Array.mapM_eq_mapM_toList];simp only[Sem.run_bind,Sem.run_map,h3,Result.andThen_ok,Sem.run_pure]
 have L:=aWX n V;obtain⟨G2,μ3,b1,b2,b3⟩:∃ G2 μ3,Ext n0 w G μ w' G2 μ3/\aX n0 G2 μ3 (((aJ5 (m.ow l r) H).set ra none)++(some (arB ae t F.2)::p.hp y)) w'/\VR w' G2 μ3 (p.pv y (H.length+1)) (if hh:ws.toArray.size=1 then ws.toArray[0] else .tuple ws.toArray):=by
  have R:=xE h4;cases p with
  | data rets =>
   simp only[bNQ]at K;split at K
   ·rename_i q hq';have d:=a6B (G2:=⟨λb=>G1 b\/∃ s k,H'[s]?=some (some k)/\k.frozen=false/\μ1.loc s=some b,G1.row⟩) W ho D ee n L (os:=none) ⟨λ_ _ _ h=>by cases h⟩ (λ_=>rfl) (λb d=>.inl d) (λb d=>by
     rcases d with h|⟨s,k,z1,z2,z3⟩
     ·exact .inl h
     ·exact .inr ⟨s,k,z1,z2,z3,λ_ _ _ h=>by cases h⟩)
    refine⟨_,_,d.1,d.2,?_⟩;have:=ZP (G':=⟨λb=>G1 b\/∃ s k,H'[s]?=some (some k)/\k.frozen=false/\μ1.loc s=some b,G1.row⟩) n (λ_ _ h=>h) (λb d=>.inl d) (λs Y b hs _ d=>by
     have⟨_,_,_,_,g5,_⟩:=n.blk s Y b hs d;cases hf:Y.frozen with
     | true=>exact .inl (g5 hf)
     | false=>exact .inr ⟨s,Y,hs,hf,d⟩) depth _ q _ hq' R
    exact(aOH K this).bF
   ·cases K
  | own e u =>
   simp only[bNQ]at K;have⟨r1,l0,hos,Z⟩:=bAR n K R;have d:=a6B (G2:=G1) W ho D ee n L hos (λ_=>rfl) (λb d=>d) (λb d=>.inl d);refine⟨_,_,d.1,d.2,Z _ _ _ ?_ ?_ ?_⟩
   ·have j:¬ H.length+1<H.length:=zN
    simp[BO,j,bXU]
   ·have j:¬ H.length+1<H.length:=zN
    simp[BO,j,bXC]
   ·have j:¬ H.length+1<H.length:=zN
    simp[BO,j,shS]
  | str t1 e u t2=>
   simp only[bNQ]at K;have⟨r1,hos,hvv⟩:=zqe2 n K R;have d:=a6B (G2:=⟨λb=>G1 b\/∃ s k,H'[s]?=some (some k)/\k.frozen=false/\μ1.loc s=some b/\s≠r1,G1.row⟩) W ho D ee n L hos (λ_=>rfl) (λb d=>.inl d) (λb d=>by
     rcases d with h|⟨s,k,z1,z2,z3,z4⟩
     ·exact .inl h
     ·exact .inr ⟨s,k,z1,z2,z3,λ_ _ _ h=>by cases h; exact z4⟩)
   refine⟨_,_,d.1,d.2,hvv ⟨λb=>G1 b\/∃ s k,H'[s]?=some (some k)/\k.frozen=false/\μ1.loc s=some b/\s≠r1,G1.row⟩ (λ_ _ h=>h) (λb d=>.inl d) (λs k b z1 z2 z3 z4=>.inr ⟨s,k,z1,z2,z4,z3⟩) _ _ ?_ ?_ ?_⟩
   ·have j:¬ H.length+1<H.length:=zN
    simp[BO,j,bXU]
   ·have j:¬ H.length+1<H.length:=zN
    simp[BO,j,bXC]
   ·have j:¬ H.length+1<H.length:=zN
    simp[BO,j,shS]
 have o:U.defers=[]/\∃ v,(results fn U.tmps).run P w'=.ok v w'/\(∃ v' C μ'',Ending.returned v=.returned v'/\Ext n0 w G μ w' C μ''/\aX n0 C μ'' (((aJ5 (m.ow l r) H).set ra none)++(some (arB ae t F.2)::p.hp y)) w'/\VR w' C μ'' (p.pv y (H.length+1)) v') :=
  ⟨Q.defers,_,N,_,G2,μ3,rfl,b1,b2,b3⟩
 rcases hex with rfl|rfl;exact o;exact o
def a3G(P:Program) (E:Env) (fn:Func) (keep:Nat) (lt:Nat->Option cI) (c:Code) (ae:TypeId) (t:Ty) (args rets:List Kd) (x:aM args):Option (aM rets) :=bif Nat.ble (lF args x).length fn.ntmps then C1 P E fn.ntmps keep lt c (start keep 0 (lF args x)) [some (arB ae t [])] (bK2 P fn.results.toList rets) else none
def bAO {E} (U:WV P) (hE:dN P E) {g:Nat} {fn} (K:P.funcs[g]?=some fn) {c} (X:fn.body=some c) {keep lt ae t args rets f}
  (Y:∀ a∈bA c,∀ s,lt (bM a)=some s->cJ P fn.ntmps a s) (d:∀ x,a3G P E fn keep lt c ae t args rets x=f x):WA P g args rets f:=by
 intro x y L;rw[<- d]at L;have⟨hlen,L⟩:=aJ L;have⟨⟨ex,F',H'⟩,n,R⟩:=sZ hE.callee U.mixed c _ _ _ _ Y L;obtain⟨vs,q,hex,z,T,hd⟩:∃ vs q,(ex=.normal\/ex=.ret)/\yG P F' H' fn.results.toList=some vs/\bFH H' (pI vs)=some q/\bFX rets q=some y:=by
  unfold bK2 at n;split at n
  ·cases n
  next S=>
   split at n
   ·rename_i vs z;split at n
    ·rename_i q T;refine⟨vs,q,?_,z,T,n⟩;cases ex with
     | normal=>exact .inl rfl
     | ret=>exact .inr rfl
     | exit i=>exact absurd rfl (S i)
    ·cases n
   ·cases n
 have⟨N,O⟩:=OL T;intro w G us Q hv;have p:∀ (s:Nat) (V:Blk),([some (arB ae t [])]:Heap)[s]?=some (some V)->s=0/\V=arB ae t []:=zt;have Z:aX (RL w) (Gd.of G) ⟨λ_=>none,λr=>if r=0 then some 0 else none,λ_=>0⟩ [some (arB ae t [])] w:=(by refine⟨(λr k b h d=>by cases d),(λr k g h K=>?_),(λr s k l b h _ _ _ d=>by cases d),Q,(λr A=>⟨rfl,?_⟩),λ_ h=>h,⟨(λ_ _ _ h=>by cases h),(λ_ _ h=>by cases h),(λ_ _ h=>by cases h),(λr k u l h hgr ht=>?_),(λr s k k' u l u' l' n g1 t1 R g2 t2=>by rw[(p r k n).1,(p s k' R).1])⟩⟩;obtain⟨rfl,rfl⟩:=p r k h;cases K;grind;grind;obtain⟨rfl,rfl⟩:=p r k h;cases ht;exact⟨rfl,λ_ _=>rfl,λj row hj=>by simp at hj⟩)
 have e0:Ext (RL w) w (Gd.of G) aH w (Gd.of G) ⟨λ_=>none,λr=>if r=0 then some 0 else none,λ_=>0⟩ :=
  ⟨⟨λb d=>⟨d,rfl⟩,λ_ _ h=>(by cases h),λ_ _ h=>(by cases h),λ_ _ h=>h,λ_ _ h=>h,λ_ _ h=>(by cases h)⟩,rfl,rfl,rfl,oM _,λ_ _ _=>rfl,λ_ h=>.inl h⟩
 refine⟨enters K (U.names g fn K) (by rw[X]; rfl) _ _,calls_of_wp K X ?_⟩;have hI:I (RL w) w (Gd.of G) aH fn.ntmps (start keep 0 (lF args x)) [some (arB ae t [])] ⟨us++Array.replicate (fn.ntmps-us.size) undef,[]⟩ w:=⟨Gd.of G,_,e0,Z,E6 hv.bF (oL hlen)⟩;refine wp_mono (R _ w (Gd.of G) aH _ w (λr=>⟨rfl,rfl⟩) hI) ?_;rintro e M w' ⟨rfl,G1,μ1,o,B,J⟩;have⟨ws,h3,h4⟩:=uB (P:=P) B J z;have F:(results fn M.tmps).run P w'=.ok (if hh:ws.toArray.size=1 then ws.toArray[0] else .tuple ws.toArray) w':=by
  rw[J0,Array.mapM_eq_mapM_toList];simp only[Sem.run_bind,Sem.run_map,h3,Result.andThen_ok,Sem.run_pure]
 have C:=XU (G:=⟨λb=>G1 b\/∃ r k,H'[r]?=some (some k)/\μ1.loc r=some b,G1.row⟩) (G':=Gd.of λb=>G1 b\/∃ r k,H'[r]?=some (some k)/\μ1.loc r=some b) (λb h=>h) _ _ _ O
   (ZP (G':=⟨λb=>G1 b\/∃ r k,H'[r]?=some (some k)/\μ1.loc r=some b,G1.row⟩) B (λ_ _ h=>h) (λb d=>.inl d) (λr k b A _ d=>.inr ⟨r,k,A,d⟩) depth _ q _ N (xE h4))
 have H:Ext (RL w) w (Gd.of G) aH w' (Gd.of λb=>G1 b\/∃ r k,H'[r]?=some (some k)/\μ1.loc r=some b) aH:={
  good:=λb d=>⟨.inl (o.good b d).1,(o.good b d).2⟩
  map:=λ_ _ h=>h
  len:=λ_ _ h=>h
  room:=o.room
  row:=λ_ _ h=>h
  os:=o.os
  tape:=o.tape
  output:=o.output
  size:=o.size
  old:=o.old
  new:=λb d=>by
   rcases d with d|⟨r,k,A,d⟩
   ·exact o.new b d
   ·have⟨c,_,_,_,g5,g6⟩:=B.blk r k b A d;cases W:k.frozen with
    | true=>exact o.new b (g5 W)
    | false=>exact .inr (g6 W).1 }
 have D:∀ b,(G1 b\/∃ r k,H'[r]?=some (some k)/\μ1.loc r=some b)->b<w'.heap.size:=(by rintro b (d|⟨r,k,A,d⟩);exact B.lt b d;exact B.vB A d)
 have m:M.defers=[]/\∃ v,(results fn M.tmps).run P w'=.ok v w'/\(∃ v' G',Ending.returned v=.returned v'/\Ext (RL w) w (Gd.of G) aH w' (Gd.of G') aH/\(∀ b,G' b->b<w'.heap.size)/\VR w' (Gd.of G') aH (aLV rets y) v') :=
  ⟨J.defers,_,F,_,_,rfl,H,D,aOH hd C⟩
 rcases hex with rfl|rfl;exact m;exact m
def bH4(e:TypeId)(t:Ty)(H:Heap):List PV->Option (List t.den×Nat×List PV)
 | .own r sz::ps=>match RI e t (.own r sz) H r with
  | some l=>some (l,r,ps)
  | none=>none
 | _=>none
def Tk.dec:(tk:Tk)->List PV->Heap->Option (tk.den×Nat×List PV)| .none,qs,_=>some ((),0,qs)| .own e t,qs,H=>bH4 e t H qs
def aQ6(b:aX n0 G μ H w){e u qs l r ps}(h:bH4 e u H qs=some (l,r,ps)):H[r]?=some (some (owB e u l))/\qs=.own r u.size::ps:=by
 unfold bH4 at h;split at h;split at h;rename_i c a;have⟨g1,g2⟩:=uZ b a;grind;grind;grind
def Tk.bQR (b:aX n0 G μ H w){a:Tk}{qs l r ps}(h:a.dec qs H=some (l,r,ps)):bQT H (a.ow l r)/\qs=a.pv r++ps:=by
 cases a with
 | none =>
  obtain⟨_,_,rfl⟩:=h;exact⟨⟨λ_ _ h=>by cases h⟩,rfl⟩
 | own e u =>
  have⟨d,c⟩:=aQ6 b h;refine⟨⟨λf k he=>?_⟩,c⟩;cases he;grind
def arH(ae:TypeId) (t:Ty) (tk:Tk) (args:List Kd) (an:An) (f:tk.den->aM args->List (List t.den)->Option (an.den×List (List t.den))) (qs:List PV) (H:Heap):Option aV3:=match tk.dec qs H with
 | some (l,r,ps)=>match bR7 ae t H with
  | some (ra,A)=>match a8P args ps with
   | some x=>bif eM.noRefs ps then some ⟨an.den×List (List t.den),f l x A,λy=>(an.pv y.1 (H.length+1),((aJ5 (tk.ow l r) H).set ra none)++(some (arB ae t y.2)::an.hp y.1))⟩ else none
   | none=>none
  | none=>none
 | none=>none
def QD {g tk args an f}(m:Z6 P g ae t tk args an f) :
  ∀ qs H r,arH ae t tk args an f qs H=some r->∀ y,r.val=some y->∀ {n0 G μ w vs},aX n0 G μ H w->VRs w G μ qs vs->DI P n0 w G μ g vs.toArray (r.out y).1 (r.out y).2:=by
 intro qs H B h y n n0 G μ w vs a d;unfold arH at h;split at h
 next l r ps o=>
  split at h
  next ra A k=>
   split at h
   ·rename_i x c;have⟨i,h⟩:=bQ8 h;simp only[oJ]at h;subst h;obtain⟨z,rfl⟩:=Tk.bQR a o;have b:VRs w G μ (tk.pv r++lF args x) vs:=by
     cases tk with
     | none=>exact(T4 args c (cZ _ _ i d)).bF
     | own e u =>
      obtain⟨v,us,rfl,s,p⟩:=d;exact⟨v,us,rfl,s,(T4 args c (cZ _ _ i p)).bF⟩
    have⟨j,q⟩:=y;exact m l x A j q n a (aWX a k) z b
   grind
  grind
 grind
end
def forced(ops:Array Oper) (s:Nat):Bool:=(List.range ops.size).all λj=>Nat.blt j s||Nat.beq (Nat.land ((qO ops).getD j 0) (2^j-1)) (2^j-1)
def a81(l:List Oper):Bool:=(List.range l.length).all λi=>match l[i]? with
 | some o=>match o.guard with
  | some (g,_)=>Nat.blt g i
  | none=>true
 | none=>true
def a6E(ops:Array Oper)(s:Nat):Bool:=aGY (qO ops) 0 ops.toList&&forced ops s&&a81 ops.toList&&aPU ops&&Nat.ble s ops.size
section
variable {P:Program} {ops:Array Oper} {s:Nat}
def a7H(h:forced ops s=true){j b}(d:j<ops.size)(f:s<=j)(i:b<j):((qO ops).getD j 0).testBit b=true:=by
 have:=List.all_eq_true.1 h j (List.mem_range.2 d);rw[Bool.or_eq_true]at this;rcases this with h1|h1;have:=gE h1; omega;have g:=oE h1;have a:(Nat.land ((qO ops).getD j 0) (2^j-1)).testBit b=(2^j-1).testBit b:=zt;have c:(2^j-1).testBit b=true:=zt;rw[c]at a;have e:((qO ops).getD j 0 &&& (2^j-1)).testBit b=true:=a;grind
def aTF(hm:aGY (qO ops) 0 ops.toList=true){i o}(a:ops[i]?=some o):(qO ops).getD i 0=aYR (qO ops) o.after.toList/\∀ e∈o.after,Region.binds .any e=true->e.on<i:=by
 have:=a15 hm (by simpa using a);grind
def a4P(hm:aGY (qO ops) 0 ops.toList=true) {listed:Array Bool} (h:aL4 (qO ops) (λi=>listed.getD i false)) {i:Nat} (hi:i∈Region.ready .any ops listed) :
  i<ops.size/\listed.getD i true=false/\∀ b,((qO ops).getD i 0).testBit b=true->listed.getD b false=true:=by
 have⟨f,o,d,g⟩:=mem_ready.1 hi;refine⟨(Array.getElem?_eq_some_iff.1 d).1,by simpa using f,λb a=>?_⟩;rw[(aTF hm d).1]at a;rcases aE2 _ _ a with h3|⟨e,h3,h4,h5⟩;grind;have c:=g e (Array.mem_toList_iff.1 h3) h4;rcases h5 with rfl|h5;exact c;exact h e.on c b h5
def bYQ(hm:aGY (qO ops) 0 ops.toList=true):∀ i b,i<ops.size->((qO ops).getD i 0).testBit b=true->b<i:=by
 intro i;induction i using Nat.strongRecOn with
 | _ i f =>
  intro b hi c;obtain⟨o,d⟩:∃ o,ops[i]?=some o:=⟨ops[i],Array.getElem?_eq_getElem hi⟩;have a:=aTF hm d;rw[a.1]at c;rcases aE2 _ _ c with h3|⟨e,h3,h4,h5⟩
  ·grind
  grind
variable {ro:Option Nat} {n:Nat} {Q:Exit->Act->World->Prop}
def bI0(hm:aGY (qO ops) 0 ops.toList=true) (v:forced ops s=true):∀ (k j:Nat) (L:Array Bool) (a:Act) (w:World),j+k=ops.size->s<=j->L.size=ops.size->(∀ i,i<ops.size->L.getD i false=decide (i<j)) ->
  wpListIn (Fr ro) n P ops Q (ops.toList.drop j) a w->wpAnyIn (Fr ro) n P .any ops Q k L a w
 | 0,j,L,a,w,hk,hs,hsz,hL,h=>by
  have hd:ops.toList.drop j=[]:=List.drop_of_length_le (by simp; omega);rw[hd]at h;refine⟨?_,h⟩
  by_cases m:Region.ready .any ops L=[]
  ·exact m
  ·have⟨i,hi⟩:=List.exists_mem_of_ne_nil _ m;have⟨f,o,p,_⟩:=mem_ready.1 hi;grind
 | k+1,j,L,a,w,hk,hs,hsz,hL,h=>by
  have u:j<ops.size:=Z
  have t:aL4 (qO ops) (λi=>L.getD i false):=by
   intro i hi b r;replace hi:L.getD i false=true:=hi;have d:i<ops.size:=zt
   have f:=hL i d;rw[hi]at f;have l:=of_decide_eq_true f.symm;have y:=bYQ hm i b d r;grind
  have c:∀ i∈Region.ready .any ops L,i=j:=by
   intro i hi;have⟨f,l,y⟩:=a4P hm t hi;have A:¬ i<j:=λg=>zt
   rcases oG j i with hji|hji
   ·exfalso;have z:=y j (a7H v f Z hji);grind
   ·omega
  obtain⟨o,p⟩:∃ o,ops[j]?=some o:=⟨ops[j],Array.getElem?_eq_getElem u⟩;have hd:ops.toList.drop j=o::ops.toList.drop (j+1):=by
   rw[List.drop_eq_getElem_cons (by simpa using u)];grind
  rw[hd]at h;unfold wpListIn at h;have x:∀ a w,wpListIn (Fr ro) n P ops Q (ops.toList.drop (j+1)) a w->wpAnyIn (Fr ro) n P .any ops Q k (L.setIfInBounds j true) a w:=λa w h=>by
   refine bI0 hm v k (j+1) _ a w Z Z (by simpa using hsz) (λi hi=>?_) h
   by_cases g:j=i
   ·simp_all
   ·rw[getD_set_ne false g,hL i hi]
    by_cases l:i<j
    ·rw[oT l,oT Z]
    ·rw[oF l,oF Z]
  refine⟨λm=>?_,λi hi=>?_⟩
  ·exfalso;have:j∈Region.ready .any ops L:=mem_ready.2 ⟨by
    have:=hL j u;rw[oF Z]at this;have q:j<L.size:=Z
    simpa[Array.getD,q]using this,o,p,λe he r=>by
     have:=(aTF hm p).2 e he r;rw[hL e.on Z];exact oT this⟩
   rw[m]at this;cases this
  ·have:=c i hi;subst this;unfold wpOpIn;rw[p];simp only
   by_cases hw:Region.wanted o (yielded ops a.tmps)=true
   ·rw[if_pos hw]at h ⊢;exact Oper.wpIn_mono x h
   ·rw[if_neg hw]at h ⊢;exact⟨h.1,x _ _ h.2⟩
def bLP {o y y'}(h:∀ g b,o.guard=some (g,b)->y g=y' g):Region.wanted o y=Region.wanted o y':=by
 unfold Region.wanted;grind
def bE5 {l}(h:a81 l=true){i:Nat}{o}(a:l[i]?=some o){g b}(c:o.guard=some (g,b)):g<i:=by
 have:=List.all_eq_true.1 h i (List.mem_range.2 (oO.1 a).1);simp_all
def bV9 {ds:List Deferred} {K:Exit->Act->World->Prop} (hm:aGY (qO ops) 0 ops.toList=true) (S:forced ops s=true) (W:a81 ops.toList=true) (D:aPU ops=true) (Y:s<=ops.size)
  (x:∀ e a w,K e a w->e=.normal) (V:∀ a w,K .normal a w->wpListIn (Fr ro) n P ops Q (ops.toList.drop s) (KY ds a) w) :
  ∀ (k:Nat) (q L:Array Bool) (a:Act) (w:World),q.size=s->L.size=ops.size->(∀ i,i<s->q.getD i false=L.getD i false)->(∀ i,s<=i->L.getD i false=false)->aL4 (qO ops) (λi=>L.getD i false)->(List.range s).countP (λi=>!L.getD i false)=k ->
   wpAny P .any (ops.toList.take s).toArray K k q a w->wpAnyIn (Fr ro) n P .any ops Q (k+(ops.size-s)) L (KY ds a) w
 | 0,q,L,a,w,h1,h2,h3,h4,hc,hk,h=>by
  rw[Nat.zero_add];refine bI0 hm S (ops.size-s) s L _ w zN (oM _) h2 (λi hi=>?_) (V a w h.2)
  by_cases l:i<s
  ·rw[oT l];rw[List.countP_eq_zero]at hk;grind
  ·grind
 | k+1,q,L,a,w,h1,h2,h3,h4,hc,hk,h=>by
  have M:∃ i,i<s/\L.getD i false=false:=by
   have:0<(List.range s).countP (λi=>!L.getD i false):=zN
   have⟨i,hi,hp⟩:=List.countP_pos_iff.1 this;grind
  have⟨i0,X,R⟩:=M;rw[show k+1+(ops.size-s)=(k+(ops.size-s))+1 by omega];refine⟨λhr=>?_,λi hi=>?_⟩
  ·exfalso;have all:∀ i,i<ops.size->L.getD i false=true:=by
    intro i
    induction i using Nat.strongRecOn with
    | _ i Z =>
     intro hi;cases U:L.getD i false with
     | true=>rfl
     | false =>
      obtain⟨o,u⟩:∃ o,ops[i]?=some o:=⟨ops[i],Array.getElem?_eq_getElem hi⟩;have:i∈Region.ready .any ops L:=mem_ready.2 ⟨by
       have d:i<L.size:=zN
       simpa[Array.getD,d]using U,o,u,λe he y=>Z e.on ((aTF hm u).2 e he y) (by have:=(aTF hm u).2 e he y; omega)⟩
      grind
   grind
  ·have⟨N,E,J⟩:=a4P hm hc hi;have l:i<s:=by
    rcases oG i s with h|h
    ·exact h
    ·have:=J i0 (a7H S N h zN);rw[R]at this; cases this
   have⟨_,o,u,B⟩:=mem_ready.1 hi;have F:L.getD i false=false:=by
    have d:i<L.size:=zN
    simp only[Array.getD,d,dif_pos]at E ⊢;exact E
   have t:∀ j,j<s->(ops.toList.take s).toArray[j]?=ops[j]?:=by
    intro j m;simp only[List.getElem?_toArray,List.getElem?_take,m,if_true,Array.getElem?_toList]
   have v:i∈Region.ready .any (ops.toList.take s).toArray q:=mem_ready.2 ⟨by
    have:=h3 i l;rw[F]at this;have d:i<q.size:=zN
    simpa[Array.getD,d]using this,o,by rw[t i l]; exact u,λe he y=>by
     have h5:=(aTF hm u).2 e he y;rw[h3 e.on zN];exact B e he y⟩
   have c:=h.2 i v;have hw:Region.wanted o (yielded (ops.toList.take s).toArray a.tmps)=Region.wanted o (yielded ops (KY ds a).tmps):=bLP λg b T=>by
    have hgi:=bE5 W (i:=i) (o:=o) (by simpa using u) T;unfold yielded;rw[t g zN];rfl
   have z:∀ a w,wpAny P .any (ops.toList.take s).toArray K k (q.setIfInBounds i true) a w->wpAnyIn (Fr ro) n P .any ops Q (k+(ops.size-s)) (L.setIfInBounds i true) (KY ds a) w:=by
    intro a w h;have r:∀ j,j≠i->(L.setIfInBounds i true).getD j false=L.getD j false:=λj m=>getD_set_ne false (λe=>m e.symm)
    have H:∀ j,j≠i->(q.setIfInBounds i true).getD j false=q.getD j false:=λj m=>getD_set_ne false (λe=>m e.symm)
    have A:(L.setIfInBounds i true).getD i false=true:=by
     have d:i<L.size:=zN
     simp[Array.getD,d]
    have I:(q.setIfInBounds i true).getD i false=true:=by
     have d:i<q.size:=zN
     simp[Array.getD,d]
    refine bV9 hm S W D Y x V k _ _ a w (by simpa using h1) (by simpa using h2) ?_ ?_ ?_ ?_ h
    ·intro j m
     by_cases f:j=i
     ·subst f; rw[A,I]
     ·rw[r j f,H j f,h3 j m]
    ·intro j m;rw[r j zN]; exact h4 j m
    ·intro j m b y;show (L.setIfInBounds i true).getD b false=true
     by_cases G:b=i
     ·subst G; exact A
     ·rw[r b G]
      by_cases f:j=i
      ·subst f; exact J b y
      ·have O:L.getD j false=true:=by rw[<- r j f]; exact m
       exact hc j O b y
    ·have:=a2O (p:=λi=>!L.getD i false) (p':=λj=>!(L.setIfInBounds i true).getD j false) (i:=i) (by simp only[F,Bool.not_false]) (by simp only[A,Bool.not_true]) (λj m=>by simp only[r j m]) s l;omega
   unfold wpOp at c;rw[t i l,u]at c;simp only at c;unfold wpOpIn;rw[u];simp only;rw[hw]at c
   by_cases C:Region.wanted o (yielded ops (KY ds a).tmps)=true
   ·rw[if_pos C]at c ⊢;rcases c with c|⟨_,a0,w0,h0⟩
    ·exact bE1 (aJX D (by rw[<- Array.getElem?_toList]at u; exact List.mem_of_getElem? u)) z (λch a w h=>by cases x _ a w h) (λa w h=>by cases x _ a w h) c
    ·cases x _ a0 w0 h0
   ·rw[if_neg C]at c ⊢;refine⟨λ_ _=>trivial,?_⟩;rw[aG0];exact z _ _ c
def MC {F Q1 l2}(c:∀ e a w,Q1 e a w->e=.normal)(i:∀ a w,Q1 .normal a w->wpListIn F n P ops Q l2 a w):∀ {l1 a w},wpListIn F n P ops Q1 l1 a w->wpListIn F n P ops Q (l1++l2) a w
 | [],a,w,h=>i a w h
 | o::l1,a,w,h=>by
  rw[List.cons_append];unfold wpListIn at h ⊢;split at h
  next hw=>
   rw[if_pos hw];refine⟨h.1,?_⟩;have g:=h.2;generalize (o.semAt F.round a.eval).run P w=r at g ⊢;cases r with
   | ok x w' =>
    cases x with
    | value v=>exact MC c i g
    | skip=>exact MC c i g
    | defer d=>exact MC c i g
    | enter f args =>
     refine⟨g.1,CallsIn.mono g.2 ?_⟩;rintro e j he;cases e with
     | returned v=>exact MC c i he
     | panicked p=>cases c _ _ _ he
     | outgrown=>have⟨a0,w0,k⟩:=he; cases c _ _ _ k
    | row row args=>exact⟨g.1,RowsIn.mono g.2 λv j he=>MC c i he⟩
    | round l f t m b =>
     refine⟨g.1,RoundIn.mono g.2 ?_⟩;rintro e j he;cases e with
     | returned v=>exact MC c i he
     | panicked p=>cases c _ _ _ he
     | outgrown=>have⟨a0,w0,k⟩:=he; cases c _ _ _ k
    | _=>exact g.elim
   | halt x w' =>
    cases x <;> first|(cases c _ _ _ g; done)|exact g.elim
  next hw=>rw[if_neg hw];exact⟨h.1,MC c i h.2⟩
end
section
variable {P:Program} {E:Env} {nt:Nat} {F F':Frm} {H H':Heap} {ops:Array Oper} {s:Nat}
def bEZ(l:dS P (gJ P E)) (v:P.follows .mixedOrders=true) {id:Nat} {draw:Bool} (k:a6E ops s=true)
  (f:(bif draw then aKD P (gJ P E) nt (ops.toList.take s).toArray F H else TI P (gJ P E) nt ops.toList (ops.toList.take s) F H)=some (F',H'))
  {ro:Option Nat} {n:Nat} {n0:Nat->Prop} {wi:World} {Gi:Gd} {μi:Mp} {a:Act} {w:World} {ds:List Deferred} {Q:Exit->Act->World->Prop} (t:I n0 wi Gi μi nt F H a w)
  (u:∀ d w',I n0 wi Gi μi nt F' H' d w'->wpListIn (Fr ro) n P ops Q (ops.toList.drop s) (KY ds d) w'):(Code.region id ops draw).wpIn (Fr ro) n P Q (KY ds a) w:=by
 simp only[a6E,oA]at k;have⟨⟨⟨⟨hm,x⟩,z⟩,g⟩,q⟩:=k;have q:=oL q;cases draw with
 | true =>
  have p:=aRP (Q:=λe d w'=>e=.normal/\I n0 wi Gi μi nt F' H' d w') l f t (λd w' h=>⟨rfl,h⟩);refine wpIn_region_any v ?_;have r:(ops.toList.take s).toArray.size=s:=by simp[List.length_take]; omega
  rw[r]at p;have c:∀ m j,(Array.replicate m false).getD j false=false:=λm j=>by
   simp only[Array.getD]
   simp_all
  have:=bV9 (n:=n) (ro:=ro) (ds:=ds) (Q:=Q) hm x z g q (λe a w h=>h.1) (λa w h=>u a w h.2) s (Array.replicate s false) (Array.replicate ops.size false) a _ R R (λi _=>by rw[c,c]) (λi _=>c _ i) (λj B b C=>by
   have:(Array.replicate ops.size false).getD j false=true:=B;rw[c]at this; cases this) (by
   rw[List.countP_eq_length.2]
   ·simp
   ·intro i _;rw[c]; rfl) p
  grind
 | false =>
  refine wpIn_region_list ?_;rw[<- List.take_append_drop s ops.toList];have p:=NT (Q:=λe d w'=>e=.normal/\I n0 wi Gi μi nt F' H' d w') l (ops.toList.take s) F H a w f t (λd w' h=>⟨rfl,h⟩);have y:=aX6 (ro:=ro) (n:=n) (ds:=ds) (Q':=λe d w'=>e=.normal/\wpListIn (Fr ro) n P ops Q (ops.toList.drop s) d w') (λa w h=>by cases h.1) (λe a w h=>⟨h.1,u a w h.2⟩) (λo A=>aJX g (List.mem_of_mem_take A)) p
  exact MC (λe a w h=>h.1) (λa w h=>h.2) y
end
def Sg(Φ:(Nat->Prop)->(Nat->Prop)->World->Prop) (G0 G:Gd) (μ:Mp) (H:Heap) (A:World):Prop :=∃ (T X:Nat->Prop) (B:World) (GB:Gd) (μB:Mp),Φ T X B/\(∀ b,X b->T b)/\(∀ b,T b->b<B.heap.size)/\(∀ b,GB b->G0 b\/T b)/\(∀ b,G0 b->GB b) /\ Ext (λb=>X b\/B.heap.size<=b) B GB μB A G μ/\aX (λb=>X b\/B.heap.size<=b) G μ H A
section
variable {P:Program} {Φ:(Nat->Prop)->(Nat->Prop)->World->Prop} {G0 G G':Gd} {μ μ':Mp} {H H':Heap} {A A' W:World} {F F':Frm} {nt n:Nat} {a:Act}
def Sg.start {J g0}(a:Lt W g0)(h:J (λ_=>False) (λ_=>False) W):Sg J (Gd.of g0) (Gd.of g0) aH [] W :=⟨_,_,W,Gd.of g0,aH,h,λb h=>h,λb h=>h.elim,λb h=>.inl h,λb h=>h,Ext.refl _ _ _ _,λr k b h=>by grind,λr k g h=>by grind,λr s k l b h=>by simp,a,λ_ _=>⟨rfl,rfl⟩,λb c=>.inr c,BU.none _ _ (λ_=>rfl) _ _ (λr k h=>by grind)⟩
def Sg.open_ (h:Sg Φ G0 G μ H A):∃ n0,aX n0 G μ H A/\(∀ b,G0 b->G b)/\∀ A' G' μ' H',Ext n0 A G μ A' G' μ'->aX n0 G' μ' H' A'->Sg Φ G0 G' μ' H' A':=by
 have⟨T,X,B,k,μB,d,g,i,l,a,c,f⟩:=h;exact⟨_,f,λb j=>(c.good b (a b j)).1,λA' G' μ' H' e w=>⟨T,X,B,k,μB,d,g,i,l,a,c.trans e,w⟩⟩
def Sg.stp (h:Sg Φ G0 G μ H A):∃ T X B,Stp X B A/\Φ T X B:=by
 have⟨T,X,B,k,μB,c,i,j,l,f,a,g⟩:=h;exact⟨T,X,B,⟨λb d e=>a.old b d zt,a.room,a.os,a.tape,a.output,a.size⟩,c⟩
def Sg.yield {ks:List Kd} {l:Nat} {all:List (aM ks)} {J U:List (aM ks)->(Nat->Prop)->(Nat->Prop)->World->Prop}
  (hY:∀ pre e post T X B T' g A us Gx F,all=pre++e::post->J pre T X B->Stp X B A->(∀ b,T' b->(T b\/B.heap.size<=b)/\b<A.heap.size)->(∀ b,g b->T' b/\(X b\/B.heap.size<=b)) ->
   (∀ b,Gx b->(G0 b\/T' b)/\¬ g b)->VRs A (Gd.of Gx) aH (lF ks e) us ->
   YieldAt Fence.wide F P l us.toArray A λx C =>
    ((∀ b,b<A.heap.size->G0 b\/T' b->C.heap[b]?=A.heap[b]?)/\(∀ b n,Room A b n->Room C b n)/\A.heap.size<=C.heap.size)/\((x=.returned (.bool true)/\J (pre++[e]) T' g C)\/(x=.returned (.bool false)/\U (pre++[e]) T' g C)))
  {pre post:List (aM ks)} {e:aM ks} (z:all=pre++e::post) {us:List Value} (h:Sg (J pre) G0 G μ H A) (L:VRs A G aH (lF ks e) us) (N:gP.noRows (lF ks e)=true) (F:Nat) :
  YieldAt Fence.wide F P l us.toArray A λx C=>Mono A G μ C G μ/\((x=.returned (.bool true)/\Sg (J (pre++[e])) G0 G μ H C)\/(x=.returned (.bool false)/\Sg (U (pre++[e])) G0 G μ H C)):=by
 have⟨T,X,B,GB,μB,y,V,E,h4,Z,o,m⟩:=h;obtain⟨T',s⟩:∃ T':Nat->Prop,T'=λb=>T b\/(B.heap.size<=b/\b<A.heap.size):=⟨_,rfl⟩;obtain⟨g,q⟩:∃ g:Nat->Prop,g=λb=>(∃ r k,H[r]?=some (some k)/\k.frozen=false/\μ.loc r=some b)\/∃ j,G.row j=some b:=⟨_,rfl⟩;have v:∀ b,G b->G0 b\/T' b:=(by intro b a;have hlt:=m.lt b a;rw[s];rcases o.new b a with h|h|h;grind;grind;grind)
 have i:∀ b,g b->T' b/\(X b\/B.heap.size<=b)/\¬ G b:=by
  intro b a;rw[q]at a;rcases a with ⟨r,k,g1,g2,g3⟩|⟨j,p⟩
  case inr =>
   have⟨s1,s2,s3,_⟩:=m.rows.sep j b p;grind
  have⟨c,W,_,_,_,R⟩:=m.blk r k b g1 g3;grind
 have M:Stp X B A:=⟨λb a w=>o.old b a (by rintro(h|h); exact w h; omega),o.room,o.os,o.tape,o.output,o.size⟩;have⟨fn,tmps,I,body,y1,y2⟩:=hY pre e post T X B T' g A us G.ok F z y M (λb a=>by
  rw[s]at a;rcases a with a|a
  ·exact⟨.inl a,Nat.lt_of_lt_of_le (E b a) o.size⟩
  ·exact⟨.inr a.1,a.2⟩) (λb a=>⟨(i b a).1,(i b a).2.1⟩) (λb a=>⟨v b a,λw=>(i b w).2.2 a⟩) (CC (G:=G) (G':=Gd.of G.ok) (λb h=>h) _ _ _ N L)
 refine⟨fn,tmps,I,body,y1,y2.mono ?_⟩;rintro x C ⟨⟨K,k2,Y⟩,D⟩;have f:∀ b,G b->C.heap[b]?=A.heap[b]?:=λb a=>K b (m.lt b a) (v b a);have d:Mono A G μ C G μ:=⟨λb a=>⟨a,f b a⟩,λ_ _ h=>h,λ_ _ h=>h,k2,λ_ _ h=>h,λ_ _ _=>rfl⟩;have Q:∀ b,T' b->b<C.heap.size:=(by intro b a;rw[s]at a;rcases a with a|a;have:=E b a; have:=o.size; omega;omega)
 have t:aX (λb=>g b\/C.heap.size<=b) G μ H C:=by
  refine⟨?_,m.tags,m.inj,m.lt.step (λb a=>⟨a,f b a⟩) λb a=>Nat.lt_of_lt_of_le (m.lt b a) Y,m.top,λb a=>.inr a,(m.rows.aXW (n1:=λb=>g b\/C.heap.size<=b) λj b p _=>.inl (by rw[q]; exact .inr ⟨j,p⟩)).step d.aH Y (λ_=>rfl) (λj b p=>⟨?_,id,λr k y V E=>⟨r,k,y,V,E⟩⟩) (λr k _ _ y _ _=>⟨k,y,rfl,rfl,rfl,rfl⟩)⟩
  case refine_2 =>
   exact K b (m.rows.sep j b p).1 (.inr (i b (by rw[q]; exact .inr ⟨j,p⟩)).1)
  intro r k b O a;have⟨c,W,q2,q3,S,R⟩:=m.blk r k b O a;have w:k.frozen=false->g b:=λu=>by rw[q]; exact .inl ⟨r,k,O,u,a⟩
  have heq:C.heap[b]?=A.heap[b]?:=by
   cases u:k.frozen with
   | true=>exact f b (S u);| false=>exact K b (m.vB O a) (.inr (i b (w u)).1)
  exact⟨c,heq.trans W,aT.mono d heq _ _ q2,q3,S,λu=>⟨.inl (w u),(R u).2⟩⟩
 have key:∀ {Ψ:(Nat->Prop)->(Nat->Prop)->World->Prop},Ψ T' g C->Sg Ψ G0 G μ H C:=λhψ =>
  ⟨T',g,C,G,μ,hψ,λb a=>(i b a).1,Q,v,λb a=>(o.good b (Z b a)).1,Ext.refl _ _ _ _,t⟩
 refine⟨d,?_⟩;rcases D with ⟨rfl,p⟩|⟨rfl,p⟩;exact .inl ⟨rfl,key p⟩;exact .inr ⟨rfl,key p⟩
variable {ops:Array Oper} {Q:Exit->Act->World->Prop}
def bXF {o:Oper} {c:Call} {f:Operand} {rest:List Oper} {l:Nat} {us:Array Value} {R:Ending->World->Prop} (q:o.op=.call c) (r:c.callee=.value f) (hw:Region.wanted o (yielded ops a.tmps)=true) (i:a.eval f=.func (.yield l) #[] #[]) (b:c.args.map a.eval=us)
  (k:∀ j,YieldAt Fence.wide j P l us A R) (s:∀ e C,R e C->∃ v,e=.returned v/\wpListIn Fence.wide n P ops Q rest (a.put o.dst v) C):wpListIn Fence.wide n P ops Q (o::rest) a A:=by
 have⟨fn,tmps,d,body,g,m⟩:=k (n-1);unfold wpListIn;rw[if_pos hw];refine⟨λ_ _=>trivial,?_⟩;have p:(o.semAt none a.eval).run P A=.ok (.round l fn tmps d body) A:=(by rw[Oper.semAt_none];simp[execOp,q,resolve,r,i,b,Deferred.ofValue,Sem.run_bind,Sem.run_pure,Result.andThen_ok,invoke,g]);show Oper.uponIn Fence.wide n P o a _ Q ((o.semAt none a.eval).run P A);rw[p];refine⟨λh=>(by cases h),m.mono ?_⟩;grind
def bYM {o:Oper} {rest:List Oper} (hw:Region.wanted o (yielded ops a.tmps)=false) (h:wpListIn Fence.wide n P ops Q rest (a.put o.dst undef) A):wpListIn Fence.wide n P ops Q (o::rest) a A:=by
 unfold wpListIn;rw[if_neg (by rw[hw]; decide)];exact⟨λ_ _=>trivial,h⟩
end
end Go.PM
