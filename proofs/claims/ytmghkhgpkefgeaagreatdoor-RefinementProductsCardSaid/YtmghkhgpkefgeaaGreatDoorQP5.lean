/- Texts of one proof, joined (5). -/
import Derived.OrdersIn
import Derived.TacticsIn
import Derived.RangeFuncRecord
import Derived.Sort.LoopGhostIn
import Derived.RangeFuncSeq
import Derived.Test.YtmghkhgpkefgeaaGreatDoorProg
import Derived.Lib.AppendIntMem
import Derived.WalkKit
import Derived.BigCall
import Derived.BigGuard
import Derived.Lib.SmallJoins
import Derived.Test.YtmghkhgpkefgeaaGreatDoorQP4
set_option linter.unusedSimpArgs false
set_option linter.unusedVariables false
set_option maxRecDepth 100000
noncomputable section
namespace Go.PM
open Go Go.RowKit
@[reducible] def Fr(ro:Option Nat):Fence:={ Fence.wide with round:=ro }
def CO(ds:List Deferred) (a:Act):Act:={ a with defers:=a.defers++ds }
theorem a63 ds a:(CO ds a).eval=a.eval:=by rfl
theorem U7 ds a d v:(CO ds a).put d v=CO ds (a.put d v):=by cases d <;> rfl
theorem a29 {ro n P f args w R}(h:Calls P f args w R):CallsIn (Fr ro) n P f args w R :=
 (callsIn_wide).2 h
theorem a7D {ro n P row args w R}(h:Rows P row args w R):RowsIn (Fr ro) n P row args w R :=
 λc cs _=>let ⟨v,w',r,s⟩:=h c cs; ⟨v,w',r,stepsIn_wide.2 s⟩
section
variable {P:Program} {ro:Option Nat} {n:Nat} {ds:List Deferred} {Q Q':Exit->Act->World->Prop}
def aWR:Op->Bool
 | .defer _=>true
 | _=>false
def aBS(ops:Array Oper):Bool:=ops.toList.all λo=>!aWR o.op
theorem XF {ops}(h:aBS ops=true){o}(ho:o∈ops.toList):∀ c,o.op≠.defer c:=by
 intro c hc;have:=List.all_eq_true.1 h o ho;rw[hc]at this;cases this
theorem a7U {o}(h:∀ c,o.op≠.defer c) ρ:o.semAt ro ρ=execOp ρ o:=by
 cases ro with
 | none=>rfl
 | some l=>exact Oper.semAt_some l ρ o h
theorem aVI {o:Oper}{a w K K'}(hd:∀ c,o.op≠.defer c)(hK:∀ a w,K a w->K' (CO ds a) w)(hQ:∀ ch a w,Q (.panic ch) a w->Q' (.panic ch) (CO ds a) w)(hno:∀ a w,¬ Q .outgrown a w)(h:o.wp P a w K Q) :
  o.wpIn (Fr ro) n P (CO ds a) w K' Q':=by
 refine⟨λ_ _=>trivial,?_⟩;unfold Oper.wp at h;rw[a63,a7U hd];generalize (execOp a.eval o).run P w=r at h ⊢;cases r with
 | ok x w' =>
  cases x with
  | value v=>show K' ((CO ds a).put o.dst v) w'; rw[U7]; exact hK _ _ h
  | skip=>show K' ((CO ds a).put o.dst undef) w'; rw[U7]; exact hK _ _ h
  | defer d =>
   have:=hK _ _ h;show K' (({ CO ds a with defers:=d::(CO ds a).defers }:Act).put o.dst undef) w';have e:(({ CO ds a with defers:=d::(CO ds a).defers }:Act).put o.dst undef)=CO ds (({ a with defers:=d::a.defers }:Act).put o.dst undef):=by cases o.dst <;> rfl
   grind
  | enter f args =>
   refine⟨λh=>(by cases h),a29 (Calls.mono h ?_)⟩;rintro e w'' he;cases e with
   | returned v=>show K' ((CO ds a).put o.dst v) w''; rw[U7]; exact hK _ _ he
   | panicked ch=>grind
   | outgrown =>
    obtain⟨a0,w0,h0⟩:=he;grind
  | row row args=>exact⟨λh=>(by cases h),a7D (Rows.mono h λv w'' he=>by rw[U7]; grind)⟩
  | _=>exact h.elim
 | halt x w' =>
  cases x <;> first|exact hQ _ _ _ h|exact h.elim
theorem aIZ {ops}(hno:∀ a w,¬ Q .outgrown a w)(hQ:∀ e a w,Q e a w->Q' e (CO ds a) w):∀ {l},(∀ o∈l,∀ c,o.op≠.defer c)->∀ {a w},wpList P ops Q l a w->wpListIn (Fr ro) n P ops Q' l (CO ds a) w
 | [],_,a,w,h=>hQ _ _ _ h
 | o::l,hd,a,w,h=>by
  simp only[wpList]at h;unfold wpListIn;split at h
  next hw=>
   have hw':Region.wanted o (yielded ops (CO ds a).tmps)=true:=hw;rw[if_pos hw'];rcases h with h|⟨_,a0,w0,h0⟩
   ·exact aVI (hd o List.mem_cons_self) (λa w hk=>aIZ hno hQ (λo ho=>hd o (List.mem_cons_of_mem _ ho)) hk) (λ_ _ _ h=>hQ _ _ _ h) hno h
   grind
  next hw=>have hw':¬ Region.wanted o (yielded ops (CO ds a).tmps)=true:=hw;rw[if_neg hw'];refine⟨λ_ _=>trivial,?_⟩;rw[U7];exact aIZ hno hQ (λo ho=>hd o (List.mem_cons_of_mem _ ho)) h
theorem aU9 {ops md}(hno:∀ a w,¬ Q .outgrown a w)(hQ:∀ e a w,Q e a w->Q' e (CO ds a) w)(hd:∀ o∈ops.toList,∀ c,o.op≠.defer c):∀ {fuel listed a w},wpAny P md ops Q fuel listed a w->wpAnyIn (Fr ro) n P md ops Q' fuel listed (CO ds a) w
 | 0,listed,a,w,h=>⟨h.1,hQ _ _ _ h.2⟩
 | fuel+1,listed,a,w,h=>by
  refine⟨λhr=>hQ _ _ _ (h.1 hr),λi hi=>?_⟩;have h2:=h.2 i hi;unfold wpOp at h2;unfold wpOpIn;split
  next hn=>rw[hn]at h2;exact aU9 hno hQ hd h2
  next o ho=>
   rw[ho]at h2;simp only at h2;have hm:o∈ops.toList:=zf
   split at h2
   ·rename_i hw;have hw':Region.wanted o (yielded ops (CO ds a).tmps)=true:=hw;rw[if_pos hw'];rcases h2 with h2|⟨_,a0,w0,h0⟩
    ·exact aVI (hd o hm) (λa w hk=>aU9 hno hQ hd hk) (λ_ _ _ h=>hQ _ _ _ h) hno h2
    ·grind
   next hw=>have hw':¬ Region.wanted o (yielded ops (CO ds a).tmps)=true:=hw;rw[if_neg hw'];refine⟨λ_ _=>trivial,?_⟩;rw[U7];exact aU9 hno hQ hd h2
end
def Marks(wi w:World) (G:Gd):List Deferred->Prop
 | []=>True
 | d::ds=>(∃ b,d={ target:=.collected b,args:=#[] }/\w.heap[b]?=some (.deferred (some []))/\wi.heap.size<=b/\¬ G b/\∀ d'∈ds,d'≠d)/\Marks wi w G ds
theorem Marks.mem {wi w G}:∀ {ds},Marks wi w G ds->∀ d∈ds,∃ b,d={ target:=.collected b,args:=#[] }/\w.heap[b]?=some (.deferred (some []))/\wi.heap.size<=b/\¬ G b
 | [],_,d,hd=>zf
 | x::ds,h,d,hd=>by
  rcases List.mem_cons.1 hd with rfl|hd
  ·obtain⟨b,h1,h2,h3,h4,_⟩:=h.1;grind
  ·exact Marks.mem h.2 d hd
theorem Marks.to {wi w w' G G'}:∀ {ds},Marks wi w G ds->(∀ b,({ target:=.collected b,args:=#[] })∈ds->w.heap[b]?=some (.deferred (some []))->¬ G b->w'.heap[b]?=some (.deferred (some []))/\¬ G' b)->Marks wi w' G' ds
 | [],_,_=>trivial
 | x::ds,h,hs=>by
  obtain⟨⟨b,rfl,h2,h3,h4,h5⟩,h6⟩:=h;obtain⟨k1,k2⟩:=hs b List.mem_cons_self h2 h4;exact⟨⟨b,rfl,k1,h3,k2,h5⟩,Marks.to h6 λb hb=>hs b (List.mem_cons_of_mem _ hb)⟩
def IM(n0:Nat->Prop) (wi:World) (Gi:Gd) (μi:Mp) (nt:Nat) (F:Frm) (H:Heap) (a:Act) (w:World):Prop :=
 ∃ G μ,Ext n0 wi Gi μi w G μ/\aR n0 G μ H w/\iV w G μ nt F { a with defers:=[] }/\Marks wi w G a.defers
section
variable {P:Program} {E:Env} {n0 n1:Nat->Prop} {w w' wi:World} {G G' Gi:Gd} {μ μ' μi:Mp} {H:Heap} {F:Frm} {a:Act} {nt:Nat}
theorem Ext.wider (h:Ext n1 w G μ w' G' μ')(hn:∀ b,n1 b->n0 b):Ext n0 w G μ w' G' μ' :=
 ⟨h.toMono,h.os,h.tape,h.output,h.size,λb hb hnb=>h.old b hb λh1=>hnb (hn b h1),λb hb=>(h.new b hb).imp id (hn b)⟩
theorem aR.wider (h:aR n1 G μ H w)(hn:∀ b,n1 b->n0 b):aR n0 G μ H w :=
 ⟨λr k b hr hb=>by
  obtain⟨c,h1,h2,h3,h4,h5⟩:=h.blk r k b hr hb;grind,h.tags,h.inj,h.lt,h.top,λb hb=>hn b (h.base b hb),h.rows.aNU λ_ b _=>hn b⟩
theorem aR.less (h:aR n0 G μ H w) {S:Nat->Prop} (hS:∀ b,S b->b<w.heap.size/\(∀ c t fr,w.heap[b]?≠some (.cells c t fr))/\∀ es clk,w.heap[b]?≠some (.map es clk)):aR (λb=>n0 b/\¬ S b) G μ H w :=
 ⟨λr k b hr hb=>by
  obtain⟨c,h1,h2,h3,h4,h5⟩:=h.blk r k b hr hb;exact⟨c,h1,h2,h3,h4,λhf=>⟨⟨(h5 hf).1,λhs=>(hS b hs).2.1 _ _ _ h1⟩,(h5 hf).2⟩⟩,h.tags,h.inj,h.lt,h.top,λb hb=>⟨h.base b hb,λhs=>Nat.lt_irrefl _ (Nat.lt_of_lt_of_le (hS b hs).1 hb)⟩,h.rows.aNU λj b hj hn=>⟨hn,λhs=>by
   rcases h.rows.cel j b hj with ⟨c,t,fr,hc⟩|⟨es,clk,hc⟩
   ·grind
   ·exact(hS b hs).2.2 es clk hc⟩⟩
theorem iV.same (h:iV w G μ nt F a):iV w G μ nt F { a with defers:=[] }:=⟨h.size,h.slot,rfl⟩
theorem I.bE6 (h:I n0 wi Gi μi nt F H a w):IM n0 wi Gi μi nt F H a w:=by
 obtain⟨G,μ,e,hW,hF⟩:=h;refine⟨G,μ,e,hW,hF.same,?_⟩;rw[hF.defers]; trivial
theorem aO7 {nt:Nat} {id:Nat} {ops:Array Oper} {draw:Bool} {F:Frm} {H:Heap} {α:Type} {z:α} {k:Frm->Heap->Option α} (hcl:eO P (gU P E)) (hP:P.follows .mixedOrders=true) (hd:aBS ops=true) (h:P5 P E nt ops draw F H k=some z) :
  ∃ F' H',k F' H'=some z/\∀ {ro:Option Nat} {n:Nat} {n0 wi Gi μi} {a w} {Q:Exit->Act->World->Prop},IM n0 wi Gi μi nt F H a w->(∀ a' w',a'.defers=a.defers->IM n0 wi Gi μi nt F' H' a' w'->Q .normal a' w')->(Code.region id ops draw).wpIn (Fr ro) n P Q a w:=by
 have core:∃ F' H',k F' H'=some z/\∀ {ro:Option Nat} {n:Nat} {n0 wi Gi μi} {a w} {ds:List Deferred} {Q:Exit->Act->World->Prop},I n0 wi Gi μi nt F H a w->(∀ a' w',I n0 wi Gi μi nt F' H' a' w'->Q .normal (CO ds a') w')->(Code.region id ops draw).wpIn (Fr ro) n P Q (CO ds a) w:=by
  cases draw with
  | true =>
   obtain⟨F',H',h2,h3⟩:=aAM h;refine⟨F',H',h3,?_⟩;intro ro n n0 wi Gi μi a w ds Q hI hQ;refine wpIn_region_any hP (aU9 (Q:=λe a' w'=>e=.normal/\I n0 wi Gi μi nt F' H' a' w') (λa w h=>by cases h.1) (λe a' w' h=>by obtain⟨rfl,h⟩:=h; exact hQ a' w' h) (λo ho=>XF hd ho) ?_);exact aDK hcl h2 hI (λa' w' h=>⟨rfl,h⟩)
  | false =>
   unfold P5 at h;obtain⟨F',H',h2,h3⟩:=EF h;refine⟨F',H',h3,?_⟩;intro ro n n0 wi Gi μi a w ds Q hI hQ;refine wpIn_region_list (aIZ (Q:=λe a' w'=>e=.normal/\I n0 wi Gi μi nt F' H' a' w') (λa w h=>by cases h.1) (λe a' w' h=>by obtain⟨rfl,h⟩:=h; exact hQ a' w' h) (λo ho=>XF hd ho) ?_);exact JS hcl ops.toList F H _ _ h2 hI (λa' w' h=>⟨rfl,h⟩)
 obtain⟨F',H',h1,h2⟩:=core;refine⟨F',H',h1,?_⟩;intro ro n n0 wi Gi μi a w Q hI hQ;obtain⟨G,μ,e,hW,hF,hm⟩:=hI;have hS:∀ b,({ target:=.collected b,args:=#[] }:Deferred)∈a.defers->b<w.heap.size/\(∀ c t fr,w.heap[b]?≠some (.cells c t fr))/\∀ es clk,w.heap[b]?≠some (.map es clk):=by
  intro b hb;obtain⟨b',e1,e2,_⟩:=hm.mem _ hb;grind
 have e0:a=CO a.defers { a with defers:=[] }:=rfl;refine h2 (n0:=λb=>n0 b/\¬ ({ target:=.collected b,args:=#[] }:Deferred)∈a.defers) (wi:=w) (Gi:=G) (μi:=μ) ⟨G,μ,Ext.refl _ _ _ _,hW.less hS,hF⟩ ?_;rintro a' w' ⟨G',μ',e',hW',hF'⟩;have hW2:aR n0 G' μ' H' w':=hW'.wider λb hb=>hb.1
 have hdef:(CO a.defers a').defers=a.defers:=by
  show a'.defers++a.defers=a.defers;rw[hF'.defers]; rfl
 refine hQ _ _ hdef ⟨G',μ',e.trans (e'.wider λb hb=>hb.1),hW2,hF'.same,?_⟩;rw[hdef];refine hm.to λb hb h1 h2=>⟨?_,λhg=>?_⟩
 ·rw[e'.old b (hS b hb).1 (λh=>h.2 hb)]; exact h1
 ·rcases e'.new b hg with h|h
  ·grind
  ·grind
end
def aAD(T:List Nat):(l:List (Ex×List (Nat×Kd)))->Ex->Frm->Heap->Option (eC l)
 | [],_,_,_=>none
 | [(e,s)],ex,F,H=>bif a0S e ex then ET T s F H else none
 | (e,s)::b::r,ex,F,H=>bif a0S e ex then (match ET T s F H with|some x=>some (.inl x)|none=>none) else (match aAD T (b::r) ex F H with|some y=>some (.inr y)|none=>none)
section
variable {α:Type} (P:Program) (E:Env) (nt bZ:Nat) (lt rt:Nat->Option dN) (rd:Bool) (T:List Nat)
def KU:Code->Frm->Heap->(Ex->Frm->Heap->Option α)->Option α
 | .skip,F,H,k=>k .normal F H
 | .label _,F,H,k=>k .normal F H
 | .region _ ops draw,F,H,k=>bif aBS ops then P5 P E nt ops draw F H λF H=>aEN bZ F λF=>k .normal F H else none
 | .seq a b,F,H,k=>KU a F H λex F H=>match ex with
  | .normal=>KU b F H k
  | .exit i=>k (.exit i) F H
  | .ret=>k .ret F H
 | .cond c a b,F,H,k=>match ev F c with
  | .lit (.bool t)=>a2J F c t λF t=>bif t then KU a F H k else KU b F H k
  | _=>none
 | .block id a,F,H,k=>KU a F H λex F H=>match ex with
  | .exit i=>bif Nat.beq i id then k .normal F H else k (.exit i) F H
  | .normal=>k .normal F H
  | .ret=>k .ret F H
 | .loop a,F,H,k=>match lt (b8 a)with
  | some s=>match ET T s.sh F H with
   | some x=>aC (s.run x) λz=>a2Y s.exits z k
   | none=>none
  | none=>none
 | .rangeFunc _ _ _ a,F,H,k=>bif rd then none else match rt (b8 a)with
  | some s=>match ET T s.sh F H with
   | some x=>aC (s.run x) λz=>a2Y s.exits z k
   | none=>none
  | none=>none
 | .exit id,F,H,k=>k (.exit id) F H
 | .ret,F,H,k=>k .ret F H
 | _,_,_,_=>none
def aM8(T:List Nat) sh exits (ex:Ex)(F:Frm)(H:Heap):Option (Shape.den sh⊕eC exits):=match ex with
 | .normal=>match ET T sh F H with
  | some y=>some (.inl y)
  | none=>none
 | .exit i=>match aAD T exits (.exit i) F H with
  | some z=>some (.inr z)
  | none=>none
 | .ret=>match aAD T exits .ret F H with
  | some z=>some (.inr z)
  | none=>none
def aL1(a:Code) (sh:List (Nat×Kd)) (exits:List (Ex×List (Nat×Kd))) (x:Shape.den sh):Option (Shape.den sh⊕eC exits) :=
 KU P E nt bZ lt rt rd T a (D1 sh x 0) (O1 sh x) (aM8 T sh exits)
end
def iB:Code->List Code
 | .seq a b=>iB a++iB b
 | .cond _ a b=>iB a++iB b
 | .block _ a=>iB a
 | .loop a=>[.loop a]
 | .rangeFunc g ps as1 a=>[.rangeFunc g ps as1 a]
 | _=>[]
section
variable {α:Type} {P:Program} {E:Env} {nt bZ:Nat} {lt rt:Nat->Option dN} {rd:Bool} {T:List Nat}
def aZK(P:Program) (nt:Nat) (rd:Bool) (T:List Nat) (c:Code) (F:Frm) (H:Heap) (r:Ex×Frm×Heap):Prop :=
 ∀ (ro:Option Nat) (n:Nat) (n0:Nat->Prop) (wi:World) (Gi:Gd) (μi:Mp) (a:Act) (w:World),(rd=false->ro=none)->(∀ r,¬ r∈T->μi.loc r=none/\μi.len r=none)->IM n0 wi Gi μi nt F H a w ->
  c.wpIn (Fr ro) n P (λe a' w'=>e=r.1.to/\IM n0 wi Gi μi nt r.2.1 r.2.2 a' w'/\(rd=true->a'.defers=a.defers)) a w
def UR(P:Program)(nt:Nat)(rd:Bool)(T:List Nat)(c:Code)(s:dN):Prop :=
 ∀ x z,s.run x=some z->aZK P nt rd T c (D1 s.sh x 0) (O1 s.sh x) (JG s.exits z)
def WB(P:Program)(nt:Nat)(lt rt:Nat->Option dN)(rd:Bool)(T:List Nat):Code->Prop
 | .loop a=>∀ s,lt (b8 a)=some s->UR P nt rd T (.loop a) s
 | .rangeFunc g ps as1 a=>rd=false->∀ s,rt (b8 a)=some s->UR P nt rd T (.rangeFunc g ps as1 a) s
 | _=>True
theorem IM.bC3 {n0 wi Gi μi F F' H a w}(h:IM n0 wi Gi μi nt F H a w)(hF:∀ t,dX F' t=dX F t\/dX F' t=.junk):IM n0 wi Gi μi nt F' H a w:=by
 obtain⟨G,μ,e,hW,hI,hm⟩:=h;refine⟨G,μ,e,hW,⟨hI.size,λt=>?_,rfl⟩,hm⟩;rcases hF t with h1|h1
 ·rw[h1]; exact hI.slot t
 ·rw[h1,VR]; simp
theorem IM.same {n0:Nat->Prop} {wi:World} {Gi:Gd} {μi:Mp} {F F':Frm} {H H':Heap} {a:Act} {w:World} (hfl:∀ r,¬ r∈T->μi.loc r=none/\μi.len r=none)
  (hs:∀ {n0:Nat->Prop} {wi:World} {Gi:Gd} {μi:Mp} {a:Act},(∀ r,¬ r∈T->μi.loc r=none/\μi.len r=none)->I n0 wi Gi μi nt F H a w->I n0 wi Gi μi nt F' H' a w) (h:IM n0 wi Gi μi nt F H a w):IM n0 wi Gi μi nt F' H' a w:=by
 obtain⟨G,μ,e,hW,hF,hm⟩:=h;have hS:∀ b,({ target:=.collected b,args:=#[] }:Deferred)∈a.defers->b<w.heap.size/\(∀ c t fr,w.heap[b]?≠some (.cells c t fr))/\∀ es clk,w.heap[b]?≠some (.map es clk):=by
  intro b hb;obtain⟨b',e1,e2,_⟩:=hm.mem _ hb;grind
 have e0:Ext (λb=>n0 b/\¬ ({ target:=.collected b,args:=#[] }:Deferred)∈a.defers) w G μi w G μ:=⟨⟨λ_ h=>⟨h,rfl⟩,e.map,e.len,λ_ _ h=>h,λ_ _ h=>h,e.sh⟩,rfl,rfl,rfl,oM _,λ_ _ _=>rfl,λ_ h=>.inl h⟩;obtain⟨G',μ',e',hW',hF'⟩:=hs (n0:=λb=>n0 b/\¬ ({ target:=.collected b,args:=#[] }:Deferred)∈a.defers) (wi:=w) (Gi:=G) (μi:=μi) (a:={ a with defers:=[] }) hfl ⟨G,μ,e0,hW.less hS,hF⟩;refine⟨G',μ',?_,hW'.wider λb hb=>hb.1,hF',hm.to λb hb h1 h2=>⟨h1,λhg=>?_⟩⟩
 ·exact {
   good:=λb hb=>⟨(e'.good b (e.good b hb).1).1,(e.good b hb).2⟩
   map:=e'.map
   len:=e'.len
   sh:=e'.sh
   room:=e.room
   row:=λj b hj=>e'.row j b (e.row j b hj)
   os:=e.os
   tape:=e.tape
   output:=e.output
   size:=e.size
   old:=e.old
   new:=λb hb=>by
    rcases e'.new b hb with h|h
    ·exact e.new b h
    ·exact .inr h.1 }
 ·rcases e'.new b hg with h|h
  ·grind
  ·grind
theorem IM.dec {n0 wi Gi μi F H a w}(hfl:∀ r,¬ r∈T->μi.loc r=none/\μi.len r=none){sh x}(h:ET T sh F H=some x)(hI:IM n0 wi Gi μi nt F H a w):IM n0 wi Gi μi nt (D1 sh x 0) (O1 sh x) a w :=
 hI.same hfl λhfl hI=>N8 h hfl hI
theorem TM {ex F H}:∀ {l z},aAD T l ex F H=some z ->
  (JG l z).1=ex/\∃ sh,∃ x ,ET T sh F H=some x/\(JG l z).2.1=D1 sh x 0/\(JG l z).2.2=O1 sh x
 | [],z,_=>Empty.elim z
 | [(e,s)],z,h=>by
  obtain⟨hb,h⟩:=aI h;exact⟨aOX hb,s,z,h,rfl,rfl⟩
 | (e,s)::b::r,z,h=>by
  simp only[aAD]at h;cases hb:a0S e ex with
  | true =>
   rw[hb]at h;simp only[oC]at h;split at h
   next x hx=>simp only[oJ]at h;subst h;exact⟨aOX hb,s,x,hx,rfl,rfl⟩
   grind
  | false =>
   rw[hb]at h;simp only[oD]at h;split at h
   next x hx=>simp only[oJ]at h;subst h;exact TM (z:=x) hx
   ·cases h
theorem IM.aIL {n0 wi Gi μi F H a w ex}(hfl:∀ r,¬ r∈T->μi.loc r=none/\μi.len r=none){l z}(h:aAD T l ex F H=some z)(hI:IM n0 wi Gi μi nt F H a w) :
  (JG l z).1=ex/\IM n0 wi Gi μi nt (JG l z).2.1 (JG l z).2.2 a w:=by
 obtain⟨h1,sh,x,h2,h3,h4⟩:=TM h;exact⟨h1,by rw[h3,h4]; exact hI.dec hfl h2⟩
theorem qT(hcl:eO P (gU P E))(hP:P.follows .mixedOrders=true):∀ c F H k (z:α),(∀ a∈iB c,WB P nt lt rt rd T a) ->
  KU P E nt bZ lt rt rd T c F H k=some z->∃ r ,k r.1 r.2.1 r.2.2=some z/\aZK P nt rd T c F H r
 | .skip,F,H,k,z,hl,h=>⟨(.normal,F,H),h,λ_ _ _ _ _ _ _ _ _ _ hI=>wpIn_skip ⟨rfl,hI,λ_=>rfl⟩⟩
 | .label l,F,H,k,z,hl,h=>⟨(.normal,F,H),h,λ_ _ _ _ _ _ _ _ _ _ hI=>wpIn_label ⟨rfl,hI,λ_=>rfl⟩⟩
 | .region id ops draw,F,H,k,z,hl,h=>by
  obtain⟨hd,h⟩:=aI h;obtain⟨F1,H1,h1,h2⟩:=aO7 (id:=id) hcl hP hd h;obtain⟨F2,h3,h4⟩:=UG bZ F1 λF=>k .normal F H1
  rw[h3]at h1;exact⟨(.normal,F2,H1),h1,λ_ _ _ _ _ _ _ _ _ _ hI=>h2 hI λa' w' hd' hI'=>⟨rfl,hI'.bC3 h4,λ_=>hd'⟩⟩
 | .seq x y,F,H,k,z,hl,h=>by
  obtain⟨⟨ex,F1,H1⟩,h1,h2⟩:=qT hcl hP x F H _ z (λa ha=>hl a (by simp[iB,ha])) h;cases ex with
  | normal =>
   obtain⟨r,h3,h4⟩:=qT hcl hP y F1 H1 k z (λa ha=>hl a (by simp[iB,ha])) h1;refine⟨r,h3,λro n n0 wi Gi μi a w hro hfl hI=>wpIn_seq (wpIn_mono (h2 ro n n0 wi Gi μi a w hro hfl hI) ?_)⟩;rintro e a' w' ⟨rfl,hI',hd'⟩;refine wpIn_mono (h4 ro n n0 wi Gi μi a' w' hro hfl hI') ?_;grind
  | exit i =>
   refine⟨(.exit i,F1,H1),h1,λro n n0 wi Gi μi a w hro hfl hI=>wpIn_seq (wpIn_mono (h2 ro n n0 wi Gi μi a w hro hfl hI) ?_)⟩;rintro e a' w' ⟨rfl,hI'⟩;exact⟨rfl,hI'⟩
  | ret =>
   refine⟨(.ret,F1,H1),h1,λro n n0 wi Gi μi a w hro hfl hI=>wpIn_seq (wpIn_mono (h2 ro n n0 wi Gi μi a w hro hfl hI) ?_)⟩;rintro e a' w' ⟨rfl,hI'⟩;exact⟨rfl,hI'⟩
 | .cond c x y,F,H,k,z,hl,h=>by
  simp only[KU]at h;split at h
  next t ht=>
   replace h:=Y9 h ht;have hc:∀ {n0 wi Gi μi a w},IM n0 wi Gi μi nt F H a w->a.eval c=.bool t:=λ{n0 wi Gi μi a w} hI=>by
    obtain⟨G,μ,e,hW,hF,_⟩:=hI;have hc:=cO hF c;rw[ht,VR]at hc;rw[<- hc];cases c <;> rfl
   cases t with
   | true =>
    obtain⟨r,h3,h4⟩:=qT hcl hP x F H k z (λa ha=>hl a (by simp[iB,ha])) h;exact⟨r,h3,λro n n0 wi Gi μi a w hro hfl hI=>wpIn_cond (hc hI) (h4 ro n n0 wi Gi μi a w hro hfl hI)⟩
   | false =>
    obtain⟨r,h3,h4⟩:=qT hcl hP y F H k z (λa ha=>hl a (by simp[iB,ha])) h;exact⟨r,h3,λro n n0 wi Gi μi a w hro hfl hI=>wpIn_cond (hc hI) (h4 ro n n0 wi Gi μi a w hro hfl hI)⟩
  ·cases h
 | .block id x,F,H,k,z,hl,h=>by
  simp only[KU]at h;obtain⟨⟨ex,F1,H1⟩,h1,h2⟩:=qT hcl hP x F H _ z (λa ha=>hl a (by simp[iB,ha])) h;cases ex with
  | normal =>
   refine⟨(.normal,F1,H1),h1,λro n n0 wi Gi μi a w hro hfl hI=>wpIn_block (wpIn_mono (h2 ro n n0 wi Gi μi a w hro hfl hI) ?_)⟩;rintro e a' w' ⟨rfl,hI'⟩;exact⟨rfl,hI'⟩
  | ret =>
   refine⟨(.ret,F1,H1),h1,λro n n0 wi Gi μi a w hro hfl hI=>wpIn_block (wpIn_mono (h2 ro n n0 wi Gi μi a w hro hfl hI) ?_)⟩;rintro e a' w' ⟨rfl,hI'⟩;exact⟨rfl,hI'⟩
  | exit i =>
   simp only at h1;cases hi:Nat.beq i id with
   | true =>
    rw[hi]at h1;have:=oE hi;subst this;refine⟨(.normal,F1,H1),h1,λro n n0 wi Gi μi a w hro hfl hI=>wpIn_block (wpIn_mono (h2 ro n n0 wi Gi μi a w hro hfl hI) ?_)⟩;rintro e a' w' ⟨rfl,hI'⟩;simp only[Ex.to,Exit.inBlock,if_true];exact⟨trivial,hI'⟩
   | false =>
    rw[hi]at h1;have hne:¬ i=id:=λe=>by rw[e]at hi; simp at hi
    refine⟨(.exit i,F1,H1),h1,λro n n0 wi Gi μi a w hro hfl hI=>wpIn_block (wpIn_mono (h2 ro n n0 wi Gi μi a w hro hfl hI) ?_)⟩;rintro e a' w' ⟨rfl,hI'⟩;simp only[Ex.to,Exit.inBlock,hne,if_false];exact⟨trivial,hI'⟩
 | .loop x,F,H,k,z,hl,h=>by
  simp only[KU]at h;split at h
  next s hs=>
   split at h
   next x0 hx=>obtain⟨y,h1,h2⟩:=CZ h;exact⟨JG s.exits y,UC h2,λro n n0 wi Gi μi a w hro hfl hI=>hl (.loop x) (by simp[iB]) s hs x0 y h1 ro n n0 wi Gi μi a w hro hfl (hI.dec hfl hx)⟩
   ·cases h
  ·cases h
 | .rangeFunc g ps as1 x,F,H,k,z,hl,h=>by
  simp only[KU]at h;cases hrd:rd with
  | true=>rw[hrd]at h; cases h
  | false =>
   rw[hrd]at h;simp only[oD]at h;split at h
   ·rename_i s hs;split at h
    next x0 hx=>obtain⟨y,h1,h2⟩:=CZ h;refine⟨JG s.exits y,UC h2,λro n n0 wi Gi μi a w hro hfl hI=>?_⟩;have:=hl (.rangeFunc g ps as1 x) (by simp[iB]) hrd s hs x0 y h1 ro n n0 wi Gi μi a w (by rw[hrd]; exact hro) hfl (hI.dec hfl hx);rw[hrd]at this;exact this
    ·cases h
   ·cases h
 | .exit id,F,H,k,z,hl,h=>⟨(.exit id,F,H),h,λ_ _ _ _ _ _ _ _ _ _ hI=>wpIn_exit ⟨rfl,hI,λ_=>rfl⟩⟩
 | .scope x,F,H,k,z,hl,h=>by simp only[KU]at h; cases h
 | .ret,F,H,k,z,hl,h=>⟨(.ret,F,H),h,λ_ _ _ _ _ _ _ _ _ _ hI=>wpIn_ret ⟨rfl,hI,λ_=>rfl⟩⟩
 | .goto l,F,H,k,z,hl,h=>by simp only[KU]at h; cases h
 | .refuse s,F,H,k,z,hl,h=>by simp only[KU]at h; cases h
theorem ZH {sh exits ex F H y}(h:aM8 T sh exits ex F H=some y) :
  (∃ x,y=.inl x/\ex=.normal/\ET T sh F H=some x)\/(∃ z,y=.inr z/\ex≠.normal/\aAD T exits ex F H=some z):=by
 cases ex with
 | normal =>
  simp only[aM8]at h;grind
 | exit i =>
  simp only[aM8]at h;grind
 | ret =>
  simp only[aM8]at h;grind
theorem aEA(hcl:eO P (gU P E)) (hP:P.follows .mixedOrders=true) {a:Code} {sh:List (Nat×Kd)} {exits:List (Ex×List (Nat×Kd))} {step:Shape.den sh->Option (Shape.den sh⊕eC exits)} (L:Nat)
  (hl:∀ b∈iB a,WB P nt lt rt rd T b) (hr:∀ x,aL1 P E nt bZ lt rt rd T a sh exits x=step x):UR P nt rd T (.loop a) ⟨sh,exits,bF step L⟩:=by
 intro x z hz ro n n0 wi Gi μi act w hro hfl hI;refine wpIn_loop_ghost (λk a w=>(∃ x,bF step k x=some z/\IM n0 wi Gi μi nt (D1 sh x 0) (O1 sh x) a w)/\(rd=true->a.defers=act.defers)) L ⟨⟨x,hz,hI⟩,λ_=>rfl⟩ ?_;rintro k act1 w ⟨⟨x,hz,hI⟩,hdef⟩;cases k with
 | zero=>cases hz
 | succ k =>
  simp only[bF]at hz;split at hz
  next y hs=>
   rw[<- hr]at hs;obtain⟨⟨ex,F',H'⟩,h1,h2⟩:=qT hcl hP a _ _ _ _ hl hs;refine wpIn_mono (h2 ro n n0 wi Gi μi act1 w hro hfl hI) ?_;rintro e a' w' ⟨rfl,hI',hd'⟩;rcases ZH h1 with ⟨y',e1,e2,e3⟩|⟨z',e1,_,_⟩
   ·cases e1;subst e2;exact⟨k,by omega,⟨y,hz,hI'.dec hfl e3⟩,λhr=>(hd' hr).trans (hdef hr)⟩
   ·cases e1
  next y hs=>
   simp only[oJ]at hz;subst hz;rw[<- hr]at hs;obtain⟨⟨ex,F',H'⟩,h1,h2⟩:=qT hcl hP a _ _ _ _ hl hs;refine wpIn_mono (h2 ro n n0 wi Gi μi act1 w hro hfl hI) ?_;rintro e a' w' ⟨rfl,hI',hd'⟩;rcases ZH h1 with ⟨y',e1,e2,e3⟩|⟨z',e1,e2,e3⟩
   ·cases e1
   ·cases e1;obtain⟨h3,h5⟩:=hI'.aIL hfl e3;have h6:(rd=true->a'.defers=act.defers):=λhr=>(hd' hr).trans (hdef hr)
    cases ex with
    | normal=>exact absurd rfl e2
    | exit i=>exact⟨by rw[h3],h5,h6⟩
    | ret=>exact⟨by rw[h3],h5,h6⟩
  ·cases hz
end
def aBP:Kd->Nat->List Nat
 | .own _ _,n|.box _ _,n|.bown _ _ _,n|.bque _ _ _,n|.bag _ _ _ _ _,n|.bag2 _ _ _ _ _ _,n=>[n]
 | .win j _,_=>[j]
 | _,_=>[]
def KP:List (Nat×Kd)->Nat->List Nat
 | [],_=>[]
 | (_,k)::r,n=>aBP k n++KP r (n+k.pos)
structure Stp (S:Nat->Prop) (B A:World):Prop where
 bZ:∀ b,b<B.heap.size->¬ S b->A.heap[b]?=B.heap[b]?
 room:∀ b n,Room B b n->Room A b n
 os:A.os=B.os
 tape:A.tape=B.tape
 output:A.output=B.output
 size:B.heap.size<=A.heap.size
theorem Stp.trans {S A B C}(h:Stp S A B)(k:Stp S B C):Stp S A C :=
 ⟨λb hb hs=>(k.bZ b (Nat.lt_of_lt_of_le hb h.size) hs).trans (h.bZ b hb hs),λb n hr=>k.room b n (h.room b n hr),k.os.trans h.os,k.tape.trans h.tape,k.output.trans h.output,oR h.size k.size⟩
def aP8(P:Program) (gf:FuncId) (ts:List Ty) (ks:List Kd) (f:aHO ts->Option (List (aH ks))):Prop :=
 ∀ x all,f x=some all->∀ (m l:Nat) (W:World) (G:Nat->Prop) (vs:List Value),Lt W G->VRs W (Gd.of G) aJ (aCR ts x) vs ->
  ∀ (J Jx:List (aH ks)->(Nat->Prop)->(Nat->Prop)->World->Prop),
  (∀ pre e post T X B T' X' A us Gx m',all=pre++e::post->J pre T X B->Stp X B A->(∀ b,T' b->(T b\/B.heap.size<=b)/\b<A.heap.size)->(∀ b,X' b->T' b/\(X b\/B.heap.size<=b)) ->
   (∀ b,Gx b->(G b\/T' b)/\¬ X' b)->VRs A (Gd.of Gx) aJ (r9 ks e) us ->
   YieldAt Fence.wide m' P l us.toArray A λen C =>
    ((∀ b,b<A.heap.size->G b\/T' b->C.heap[b]?=A.heap[b]?)/\(∀ b n,Room A b n->Room C b n)/\A.heap.size<=C.heap.size)/\((en=.returned (.bool true)/\J (pre++[e]) T' X' C)\/(en=.returned (.bool false)/\Jx (pre++[e]) T' X' C))) ->
  J [] (λ_=>False) (λ_=>False) W ->
  CallsIn Fence.wide m P gf ((#[.func (.yield l) #[] #[]]:Array Value)++vs.toArray) W λen C=>(∃ v,en=.returned v)/\∃ T X B,Stp X B C/\(J all T X B\/∃ pre,Jx pre T X B)
def aO0 {σ τ ε:Type} (step:σ->ε->Option (σ⊕τ)) (fin:σ->Option τ):List ε->σ->Option τ
 | [],y=>fin y
 | e::es,y=>match step y e with
  | some (.inl y')=>aO0 step fin es y'
  | some (.inr z)=>some z
  | none=>none
def aY1:List Nat->List PV->Frm->Frm
 | t::ts,p::ps,F=>aY1 ts ps ((t,p)::F)
 | _,_,F=>F
def bD4(sh:List (Nat×Kd)) (exits:List (Ex×List (Nat×Kd))) (F0:Frm) (ex:Ex) (_:Frm) (H:Heap):Option (Shape.den sh⊕eC exits):=aM8 [] sh exits ex F0 H
def aWZ(P:Program)(E:Env)(nt bZ:Nat)(lt rt:Nat->Option dN)(ps:List Nat)(assign body:Code) ks sh exits (y:Shape.den sh)(e:aH ks):Option (Shape.den sh⊕eC exits) :=
 bif Nat.beq ps.length ks.length&&ps.all (λt=>Nat.blt t nt) then
  KU P E nt bZ lt rt true (KP sh 0) assign (aY1 ps (r9 ks e) (D1 sh y 0)) (O1 sh y) λex F H=>match ex with
   | .normal=>KU P E nt bZ lt rt true (KP sh 0) body F H (bD4 sh exits (D1 sh y 0))
   | _=>none
 else none
def bGC sh exits (y:Shape.den sh):Option (eC exits):=aAD [] exits .normal (D1 sh y 0) (O1 sh y)
def bCZ(sh:List (Nat×Kd)) (exits:List (Ex×List (Nat×Kd))) {ε:Type} (all:Shape.den sh->Option (List ε)) (step:Shape.den sh->ε->Option (Shape.den sh⊕eC exits)) (x:Shape.den sh):Option (eC exits) :=
 match all x with
 | some l=>aO0 step (bGC sh exits) l x
 | none=>none
def a9G(gf:FuncId) (ts:List Ty) (sh:List (Nat×Kd)) (g:Operand) (x:Shape.den sh):Option (aHO ts):=bif ts.all Ty.plain then aVE gf ts (ev (D1 sh x 0) g) else none
section
variable {P:Program} {n0:Nat->Prop} {w wi:World} {G Gi:Gd} {μ μi:Mp} {H:Heap} {F:Frm} {a:Act} {nt:Nat}
theorem ME {l:Nat} {o o':Obj} (hl:w.heap[l]?=some o) (ho:(∀ c t fr,o≠.cells c t fr)/\∀ es clk,o≠.map es clk) (hG:¬ G l):Mono w G μ (w.putObj l o') G μ :=
 ⟨λb hb=>⟨hb,World.putObj_heap_other (by rintro rfl; exact hG hb)⟩,λ_ _ h=>h,λ_ _ h=>h,λb n ⟨cs,t,fr,h1,h2⟩=>⟨cs,t,fr,by
  rw[World.putObj_heap_other]
  ·exact h1
  ·rintro rfl;rw[hl]at h1;exact ho.1 cs t fr (oB h1),h2⟩,λ_ _ h=>h,λ_ _ _=>rfl⟩
theorem XH(hW:aR n0 G μ H w){l o o'}(hl:w.heap[l]?=some o)(ho:(∀ c t fr,o≠.cells c t fr)/\∀ es clk,o≠.map es clk)(hG:¬ G l):aR n0 G μ H (w.putObj l o'):=by
 have m:=ME (μ:=μ) (o':=o') hl ho hG;refine⟨?_,hW.tags,hW.inj,hW.lt.step m.good λb hb=>by rw[World.putObj_size]; exact hW.lt b hb,hW.top,λb hb=>hW.base b (by simp_all),hW.rows.step m.aJ R (λ_=>rfl) (λj b hj=>⟨?_,id,λr k h1 h2 h3=>⟨r,k,h1,h2,h3⟩⟩) (λr k _ _ h1 _ _=>⟨k,h1,rfl,rfl,rfl,rfl⟩)⟩
 case refine_2 =>
  rw[World.putObj_heap_other];rcases hW.rows.cel j _ hj with ⟨c,t,fr,hc⟩|⟨es,clk,hc⟩
  ·grind
  grind
 intro r k b hr hb;obtain⟨c,h1,h2,h3,h4⟩:=hW.blk r k b hr hb;have e:(w.putObj l o').heap[b]?=w.heap[b]?:=by
  rw[World.putObj_heap_other];grind
 exact⟨c,e.trans h1,aM.mono m e _ _ h2,h3,h4⟩
theorem aA2 {l o o'}(hl:w.heap[l]?=some o)(ho:(∀ c t fr,o≠.cells c t fr)/\∀ es clk,o≠.map es clk)(hG:¬ G l)(hn:n0 l):Ext n0 w G μ (w.putObj l o') G μ :=
 {toMono:=ME hl ho hG
  os:=rfl
  tape:=rfl
  output:=rfl
  size:=R
  old:=λb hb hnb=>World.putObj_heap_other zf
  new:=λb hb=>.inl hb }
theorem a4J {T X T' Gx G1:Nat->Prop} {A B:World} (hW:aR (λb=>n0 b/\¬ T b) G μ H B) (hn:∀ b,T b->n0 b) (hTX:∀ b,X b->T b) (hGX:∀ b,G b->¬ X b) (hG1:∀ b,G1 b->G b) (st:Stp X B A) (hT:∀ b,T' b->(T b\/B.heap.size<=b)/\b<A.heap.size) (hx:∀ b,Gx b->G1 b\/T' b) :
  Ext n0 B G μ A (G.or Gx) μ:={
 good:=λb hb=>⟨.inl hb,st.bZ b (hW.lt b hb) (hGX b hb)⟩
 map:=λ_ _ h=>h
 len:=λ_ _ h=>h
 room:=st.room
 row:=λ_ _ h=>h
 os:=st.os
 tape:=st.tape
 output:=st.output
 size:=st.size
 old:=λb hb hnb=>st.bZ b hb λhs=>hnb (hn b (hTX b hs))
 new:=λb hb=>by
  rcases hb with hb|hb
  ·grind
  ·rcases hx b hb with h|h
   ·grind
   ·rcases(hT b h).1 with h|h
    ·grind
    ·exact .inr (hW.base b h).1 }
theorem aZX {T X T' Gx G1:Nat->Prop}{A B}(hW:aR (λb=>n0 b/\¬ T b) G μ H B)(hTX:∀ b,X b->T b)(hGX:∀ b,G b->¬ X b)(hG1:∀ b,G1 b->G b)(st:Stp X B A)(hT:∀ b,T' b->(T b\/B.heap.size<=b)/\b<A.heap.size)(hx:∀ b,Gx b->G1 b\/T' b) :
  aR (λb=>n0 b/\¬ T' b) (G.or Gx) μ H A:=by
 have m:Mono B G μ A (G.or Gx) μ:=⟨λb hb=>⟨.inl hb,st.bZ b (hW.lt b hb) (hGX b hb)⟩,λ_ _ h=>h,λ_ _ h=>h,st.room,λ_ _ h=>h,λ_ _ _=>rfl⟩;refine⟨?_,hW.tags,hW.inj,?_,hW.top,λb hb=>⟨(hW.base b (oR st.size hb)).1,λhs=>Nat.lt_irrefl _ (Nat.lt_of_lt_of_le (hT b hs).2 hb)⟩,?_⟩
 case refine_3 =>
  have nT:∀ j b,G.row j=some b->¬ T' b:=λj b hj hs=>by
   obtain⟨a1,a2,_⟩:=hW.rows.sep j b hj;grind
  refine(hW.rows.aNU (n1:=λb=>n0 b/\¬ T' b) λj b hj hn=>⟨hn.1,nT j b hj⟩).step m.aJ st.size (λ_=>rfl) (λj b hj=>⟨?_,?_,λr k h1 h2 h3=>⟨r,k,h1,h2,h3⟩⟩) (λr k _ _ h1 _ _=>⟨k,h1,rfl,rfl,rfl,rfl⟩)
  ·obtain⟨a1,a2,_⟩:=hW.rows.sep j b hj;exact st.bZ b a1 λhx=>a2.2 (hTX b hx)
  ·rintro(h|h)
   ·exact h
   ·grind
 ·intro r k b hr hb;obtain⟨c,h1,h2,h3,h4,h5⟩:=hW.blk r k b hr hb;have hlt:=hW.sY hr hb;have hns:¬ X b:=zf
  have e:=st.bZ b hlt hns;have nT:k.frozen=false->¬ T' b:=λhf hs=>zf
  refine⟨c,e.trans h1,aM.mono m e _ _ h2,h3,λhf=>.inl (h4 hf),λhf=>⟨⟨(h5 hf).1.1,nT hf⟩,?_⟩⟩;rintro(h|h)
  ·grind
  ·grind
 ·refine hW.lt.step m.good ?_;rintro b (hb|hb)
  ·exact Nat.lt_of_lt_of_le (hW.lt b hb) st.size
  ·rcases hx b hb with h|h
   ·exact Nat.lt_of_lt_of_le (hW.lt b (hG1 b h)) st.size
   ·grind
theorem aUK:∀ {ps qs us F tmps},ps.length=qs.length->(∀ t∈ps,t<nt)->VRs w G μ qs us->iV w G μ nt F { tmps:=tmps,defers:=[] } ->
  iV w G μ nt (aY1 ps qs F) { tmps:=(ps.zip us).foldl (λt (p,v)=>t.setIfInBounds p v) tmps,defers:=[] }
 | [],[],us,F,tmps,_,_,hv,hF=>by exact hF
 | t::ts,q::qs,us,F,tmps,hl,hb,hv,hF=>by
  obtain⟨v,vs,rfl,h1,h2⟩:=hv;simp only[aY1];exact aUK zf (λs hs=>hb s (List.mem_cons_of_mem _ hs)) h2 (hF.cons (hb t List.mem_cons_self) h1)
 | [],_::_,us,F,tmps,hl,_,_,_=>zf
 | _::_,[],us,F,tmps,hl,_,_,_=>zf
end
def KN(μ:Mp) (T:List Nat):Mp:=⟨λr=>if r∈T then μ.loc r else none,λr=>if r∈T then μ.len r else none,μ.sh⟩
section
variable {P:Program} {n0:Nat->Prop} {w w' wi:World} {G G' Gi:Gd} {μ μ' μi:Mp} {H:Heap} {F:Frm} {a:Act} {nt:Nat}
theorem JR {T r}(h:r∈T):(KN μ T).loc r=μ.loc r/\(KN μ T).len r=μ.len r/\(KN μ T).sh r=μ.sh r:=by simp[KN,h]
theorem aA9 {T}:∀ r,¬ r∈T->(KN μ T).loc r=none/\(KN μ T).len r=none:=λr h=>by simp[KN,h]
theorem aID T:Ext n0 w G (KN μ T) w G μ:={
 good:=λ_ h=>⟨h,rfl⟩
 map:=λr b hr=>by
  by_cases h:r∈T
  ·rw[(JR h).1]at hr; grind
  ·rw[(aA9 r h).1]at hr; grind
 len:=λr b hr=>by
  by_cases h:r∈T
  ·rw[(JR h).2.1]at hr; omega
  ·rw[(aA9 r h).2]at hr; grind
 room:=λ_ _ h=>h
 row:=λ_ _ h=>h
 os:=rfl
 tape:=rfl
 output:=rfl
 size:=oM _
 old:=λ_ _ _=>rfl
 new:=λ_ h=>.inl h }
theorem aI3:∀ ts x,eX.noRefs (aCR ts x)=true
 | [],_=>rfl
 | t::r,(x,xs)=>by simp only[aCR,eX.noRefs,eX,aI3 r xs,Bool.and_self]
theorem a6K {T}:∀ k x n {v},(∀ r,r∈aBP k n->r∈T)->VR w G μ (GH k x n) v->VR w G (KN μ T) (GH k x n) v
 | .int _,x,n,v,_,h=>by simp only[GH]at h ⊢; rw[VR]at h ⊢; exact h
 | .bool,x,n,v,_,h=>by simp only[GH]at h ⊢; rw[VR]at h ⊢; exact h
 | .str,x,n,v,_,h=>by simp only[GH]at h ⊢; rw[VR]at h ⊢; exact h
 | .list t,x,n,v,_,h=>(C6 (GH (.list t) x n) v rfl h).aW
 | .agg t,x,n,v,_,h=>(C6 (GH (.agg t) x n) v (by simp only[GH,eX]; exact UN t x) h).aW
 | .own e t,x,n,v,hT,h=>by
  have:=JR (μ:=μ) (hT n (by simp[aBP]));simp only[GH]at h ⊢;rw[VR]at h ⊢; rw[this.1,this.2.1,this.2.2]; exact h
 | .box e t,x,n,v,hT,h=>by
  have:=JR (μ:=μ) (hT n (by simp[aBP]));simp only[GH]at h ⊢;rw[VR]at h ⊢; rw[this.1,this.2.2]; exact h
 | .bown e et t,x,n,v,hT,h=>by
  have:=JR (μ:=μ) (hT n (by simp[aBP]));simp only[GH]at h ⊢;rw[VR]at h ⊢; rw[this.1,this.2.2]; exact h
 | .bque e et t,x,n,v,hT,h=>by
  have:=JR (μ:=μ) (hT n (by simp[aBP]));simp only[GH]at h ⊢;rw[VR]at h ⊢; rw[this.1,this.2.2]; exact h
 | .bag e t1 et t t2,x,n,v,hT,h=>by
  have:=JR (μ:=μ) (hT n (by simp[aBP]));simp only[GH]at h ⊢;rw[VR]at h ⊢; rw[this.1,this.2.2]; exact h
 | .bag2 e t1 et t eu u,x,n,v,hT,h=>by
  have:=JR (μ:=μ) (hT n (by simp[aBP]));simp only[GH]at h ⊢;rw[VR]at h ⊢; rw[this.1,this.2.2]; exact h
 | .ptr t,x,n,v,_,h=>(C6 (GH (.ptr t) x n) v rfl h).aW
 | .fn g,x,n,v,_,h=>by simp only[GH]at h ⊢; rw[VR]at h ⊢; exact h
 | .nil0,x,n,v,_,h=>by simp only[GH]at h ⊢; rw[VR]at h ⊢; exact h
 | .val,x,n,v,_,h=>by simp only[GH]at h ⊢; rw[VR]at h ⊢; exact h
 | .hnd sz,x,n,v,_,h=>(C6 (GH (.hnd sz) x n) v rfl h).aW
 | .mpk j,x,n,v,_,h=>(C6 (GH (.mpk j) x n) v rfl h).aW
 | .ar e t,x,n,v,_,h=>by simp only[GH]; rw[VR]; trivial
 | .nilI,x,n,v,_,h=>by simp only[GH]at h ⊢; rw[VR]at h ⊢; exact h
 | .clo g ts,x,n,v,_,h=>(C6 (GH (.clo g ts) x n) v (by simp only[GH,eX,eX.noRefs,aI3 ts x,Bool.and_self]) h).aW
 | .win j sz,x,n,v,hT,h=>by
  have:=JR (μ:=μ) (hT j (by simp[aBP]));simp only[GH]at h ⊢;rw[VR]at h ⊢; rw[this.1,this.2.1,this.2.2]; exact h
theorem aT7 {T}:∀ sh x n {t v},(∀ r,r∈KP sh n->r∈T)->VR w G μ (dX (D1 sh x n) t) v->VR w G (KN μ T) (dX (D1 sh x n) t) v
 | [],_,_,t,v,_,h=>by simp only[D1,dX]; rw[VR]; trivial
 | (s,k)::r,(x,xs),n,t,v,hT,h=>by
  simp only[D1]at h ⊢;rw[jF]at h ⊢
  by_cases hs:t=s
  ·rw[if_pos hs]at h ⊢;exact a6K k x n (λr hr=>hT r (by simp only[KP]; grind)) h
  ·rw[if_neg hs]at h ⊢;exact aT7 r xs (n+k.pos) (λr hr=>hT r (by simp only[KP]; grind)) h
theorem aM2(hW:aR n0 G μ H w) (o:Obj):Ext n0 w G μ (w.alloc o) G μ/\aR n0 G μ H (w.alloc o):=by
 have e:Ext n0 w G μ (w.alloc o) G μ:={
  good:=λb hb=>⟨hb,Below.heap_alloc _ _ _ (hW.lt b hb)⟩
  map:=λ_ _ h=>h
  len:=λ_ _ h=>h
  room:=λb n hc=>by
   obtain⟨cs,t,fr,h1,h2⟩:=hc;exact⟨cs,t,fr,by rw[Below.heap_alloc _ _ _ (nQ h1)]; exact h1,h2⟩
  row:=λ_ _ h=>h
  os:=rfl
  tape:=rfl
  output:=rfl
  size:=R
  old:=λb hb _=>Below.heap_alloc _ _ _ hb
  new:=λb hb=>.inl hb }
 exact⟨e,hW.bZ e ⟨λ_=>rfl,λj b hj=>⟨Below.heap_alloc _ _ _ (hW.rows.sep j b hj).1,id⟩⟩ (λr k b hr hb=>⟨Below.heap_alloc _ _ _ (hW.sY hr hb),id⟩) λb hb=>Nat.lt_of_lt_of_le (hW.lt b hb) e.size⟩
theorem Ext.plain (h:Ext n0 w G μ w' G' μ'):Ext n0 w G aJ w' G' aJ :=
 {good:=h.good,map:=λ_ _ h=>(by cases h),len:=λ_ _ h=>(by cases h),room:=h.room,row:=h.row,os:=h.os,tape:=h.tape,output:=h.output,size:=h.size,old:=h.old,new:=h.new }
theorem Ext.back (hfl:∀ r,μi.loc r=none/\μi.len r=none)(h:Ext n0 w G aJ w' G' aJ):Ext n0 w G μi w' G' μ' :=
 {good:=h.good,map:=λr b hr=>zf,len:=λr b hr=>zf,sh:=λr b hr=>zf,room:=h.room,row:=h.row,os:=h.os,tape:=h.tape,output:=h.output,size:=h.size,old:=h.old,new:=h.new }
def Ex.code:Ex->Code
 | .normal=>.skip
 | .ret=>.ret
 | .exit i=>.exit i
structure Btw (n0:Nat->Prop) (wi:World) (Gi:Gd) (μi:Mp) (nt:Nat) (a:Act) (G0:Gd) (N L D:Nat) (F:Frm) (H:Heap) (T X:Nat->Prop) (B:World) (rec:Obj) (G:Gd) (μ:Mp):Prop where
 ext:Ext n0 wi Gi μi B G μ
 winv:aR (λb=>n0 b/\¬ T b) G μ H B
 finv:iV B G μ nt F { a with defers:=[] }
 base:∀ b,G0 b->G b
 good:∀ b,G b->¬ X b
 sub:∀ b,X b->T b
 seq:∀ b,T b->n0 b/\N<=b
 size:N<=B.heap.size
 notL:¬ G L
 notD:¬ G D
 atL:B.heap[L]?=some rec
 atD:B.heap[D]?=some (.deferred (some []))
 marks:Marks wi B G a.defers
theorem a7J {gf ts c v}(h:VR w G aJ (.clo (.func gf) [] (aCR ts c)) v):∃ cs ,v=.func (.func gf) #[] cs/\VRs w G aJ (aCR ts c) cs.toList:=by
 obtain⟨fs,cs,h1,h2,h3⟩:=h;rw[VRs]at h2
 simp_all
theorem aDS:∀ l x,(r9 l x).length=l.length
 | [],_=>rfl
 | k::r,(x,xs)=>by simp only[r9,List.length_cons,aDS r xs]
set_option maxHeartbeats 2000000 in
theorem bAF {E:Env} {bZ:Nat} {lt rt:Nat->Option dN} (hcl:eO P (gU P E)) (hP:P.follows .mixedOrders=true) {g:Operand} {ps:Array Tmp} {as1 body:Code} {gf:FuncId} {ts:List Ty} {ks:List Kd} {f:aHO ts->Option (List (aH ks))}
  (hit:aP8 P gf ts ks f) (hgf:∀ args w,(callFunc gf args).run P w=.ok (.enter gf args) w)
  {sh:List (Nat×Kd)} {exits:List (Ex×List (Nat×Kd))} {step:Shape.den sh->aH ks->Option (Shape.den sh⊕eC exits)} {all:Shape.den sh->Option (List (aH ks))}
  (has:∀ b∈iB as1,WB P nt lt rt true (KP sh 0) b) (hbd:∀ b∈iB body,WB P nt lt rt true (KP sh 0) b)
  (hsq:∀ x l,all x=some l->∃ c,a9G gf ts sh g x=some c/\f c=some l)
  (hr:∀ y e,aWZ P E nt bZ lt rt ps.toList as1 body ks sh exits y e=step y e) :
  UR P nt false [] (.rangeFunc g ps as1 body) ⟨sh,exits,bCZ sh exits all step⟩:=by
 intro x z hz ro n n0 wi Gi μi a w hro hfl0 hI;have hfl:∀ r,μi.loc r=none/\μi.len r=none:=λr=>hfl0 r R
 have hro:=hro rfl;subst hro;show (Code.rangeFunc g ps as1 body).wpIn Fence.wide n P _ a w;dsimp only at hz hI ⊢;unfold bCZ at hz;obtain⟨lst,hall⟩:∃ lst,all x=some lst:=by
  cases h:all x with
  | none=>rw[h]at hz; cases hz
  | some l=>exact⟨l,rfl⟩
 rw[hall]at hz;dsimp only at hz;obtain⟨c,hc1,hc2⟩:=hsq x lst hall;obtain⟨G,μ,e,hW,hF,hm⟩:=hI;have hgv:VR w G μ (ev (D1 sh x 0) g) (a.eval g):=by
  have:=cO hF g;have e1:({ a with defers:=[] }:Act).eval g=a.eval g:=by cases g <;> rfl
  rwa[e1]at this
 obtain⟨hpl0,hc1⟩:=aI hc1;obtain⟨lb,hg,hvs⟩:=a7J (aAO hc1 hgv);refine wpIn_rangeFunc ?_;intro fn _;obtain⟨rec,hrec⟩:∃ rec:LoopState->Option Code->Loop,rec=λst pe=>{ state:=st,pending:=pe,fn,tmps:=a.tmps,params:=ps,assign:=as1,body,defers:=w.heap.size }:=⟨_,rfl⟩
 obtain⟨W1,hW1⟩:∃ W1,(w.alloc (.deferred (some []))).alloc (.loop (rec .ready none))=W1:=⟨_,rfl⟩;obtain⟨L,hLe⟩:∃ L,w.heap.size+1=L:=⟨_,rfl⟩;obtain⟨D,hDe⟩:∃ D,w.heap.size=D:=⟨_,rfl⟩;have hs1:W1.heap.size=w.heap.size+2:=by rw[<- hW1]; simp
 have hL1:W1.heap[L]?=some (.loop (rec .ready none)):=by rw[<- hW1,<- hLe]; have:=World.alloc_heap_new (w.alloc (.deferred (some []))) (.loop (rec .ready none)); rwa[World.size_alloc]at this
 have hD1:W1.heap[D]?=some (.deferred (some [])):=by rw[<- hW1,<- hDe]; exact(Below.heap_alloc _ _ _ R).trans (World.alloc_heap_new w _)
 obtain⟨a1,a2⟩:=aM2 (n0:=n0) hW (.deferred (some []));obtain⟨b1,b2⟩:=aM2 (n0:=n0) a2 (.loop (rec .ready none));rw[hW1]at b1 b2;have eW1:Ext n0 wi Gi μi W1 G μ:=(e.trans a1).trans b1;have hvs1:VRs W1 G aJ (aCR ts c) lb.toList:=VRs.mono (a1.toMono.trans b1.toMono).aJ _ _ hvs;have hGL:¬ G L:=λh=>by have:=hW.lt L h; omega
 have hGD:¬ G D:=λh=>by have:=hW.lt D h; omega
 have hn0L:n0 L:=hW.base L Z;have hn0D:n0 D:=hW.base D Z;have marks1:Marks wi W1 G a.defers:=hm.to λb hb h1 h2=>⟨by rw[<- hW1,Below.heap_alloc _ _ _ (by have:=nQ h1; simp; omega),Below.heap_alloc _ _ _ (nQ h1)]; exact h1,h2⟩
 have markN:∀ b,({ target:=.collected b,args:=#[] }:Deferred)∈a.defers->b<w.heap.size:=by
  intro b hb;obtain⟨b',e1,e2,_⟩:=hm.mem _ hb;have:b=b':=by injection e1 with e1 _; injection e1
  subst this;exact nQ e2
 -- the states between the rounds
 let J:List (aH ks)->(Nat->Prop)->(Nat->Prop)->World->Prop:=λpre T X B=>∃ y,aO0 step (bGC sh exits) (lst.drop pre.length) y=some z/\∃ G' μ',Btw n0 wi Gi μi nt a G W1.heap.size L D (D1 sh y 0) (O1 sh y) T X B (.loop (rec .ready none)) G' μ'
 let Jx:List (aH ks)->(Nat->Prop)->(Nat->Prop)->World->Prop:=λpre T X B=>(JG exits z).1≠.normal/\∃ G' μ',Btw n0 wi Gi μi nt a G W1.heap.size L D (JG exits z).2.1 (JG exits z).2.2 T X B (.loop (rec .done (some (JG exits z).1.code))) G' μ'
 refine⟨L,[{ target:=.collected D,args:=#[] }],W1,{ target:=.fn (.func gf) lb,args:=#[.func (.yield L) #[] #[]] },W1,gf,#[.func (.yield L) #[] #[]]++lb,W1,?_,?_,λ_ _=>trivial,?_,λh=>(by cases h),?_⟩
 ·rw[<- hW1,hrec,<- hLe,<- hDe]; exact run_enterLoop_outer _ _ _ _ _
 ·simp only[resolve,hg];simp[go_sem]
 ·simp[invoke,go_sem,hgf]
 ·have hcall:=hit c lst hc2 (n-1) L W1 G.ok lb.toList b2.lt (AP (G:=G) (G':=Gd.of G.ok) (λb h=>h) _ _ _ (aHU ts c hpl0) hvs1) J Jx ?round ?start
  ·rw[Array.toArray_toList]at hcall;refine hcall.mono ?_;rintro en C ⟨⟨v,rfl⟩,T,X,B,st,hJ⟩;have hstep:∀ {F':Frm} {H':Heap} {st':LoopState} {pe:Option Code} {G':Gd} {μ':Mp},Btw n0 wi Gi μi nt a G W1.heap.size L D F' H' T X B (.loop (rec st' pe)) G' μ' ->
     C.heap[L]?=some (.loop (rec st' pe))/\∀ o,IM n0 wi Gi μi nt F' H' { a with defers:={ target:=.collected D,args:=#[] }::a.defers } (C.putObj L o):=by
    intro F' H' st' pe G' μ' bt;have nS:∀ b,b<W1.heap.size->¬ X b:=λb hb hs=>Nat.lt_irrefl _ (Nat.lt_of_lt_of_le hb (bt.seq b (bt.sub b hs)).2)
    have hLC:C.heap[L]?=some (.loop (rec st' pe)):=(st.bZ L (nQ bt.atL) (nS L Z)).trans bt.atL;have hDC:C.heap[D]?=some (.deferred (some [])):=(st.bZ D (nQ bt.atD) (nS D Z)).trans bt.atD;refine⟨hLC,λo=>?_⟩;have x1:=a4J (T':=λ_=>False) (Gx:=λ_=>False) bt.winv (λb hb=>(bt.seq b hb).1) bt.sub bt.good bt.base st (λb hb=>hb.elim) (λb hb=>hb.elim);have x2:=(aZX (T':=λ_=>False) (Gx:=λ_=>False) bt.winv bt.sub bt.good bt.base st (λb hb=>hb.elim) (λb hb=>hb.elim)).wider (n0:=n0) λb hb=>hb.1
    have nL:¬ (G' L\/False):=λh=>h.elim bt.notL id
    have nD:¬ (G' D\/False):=λh=>h.elim bt.notD id
    have x3:=XH (o':=o) x2 hLC ⟨λ_ _ _ h=>(by cases h),λ_ _ h=>(by cases h)⟩ nL;have x4:=aA2 (G:=G'.or λ_=>False) (n0:=n0) (μ:=μ') (o':=o) hLC ⟨λ_ _ _ h=>(by cases h),λ_ _ h=>(by cases h)⟩ nL hn0L;refine⟨G'.or λ_=>False,μ',(bt.ext.trans x1).trans x4,x3,bt.finv.mono (x1.toMono.trans x4.toMono),⟨D,rfl,?_,?_,nD,?_⟩,?_⟩
    ·rw[World.putObj_heap_other Z]; exact hDC
    ·have:=e.size; omega
    ·intro d' hd' he;subst he;have:=markN _ hd';omega
    ·refine bt.marks.to λb hb h1 h2=>⟨?_,λh=>h.elim h2 id⟩
     have hbw:=markN b hb;rw[World.putObj_heap_other Z,st.bZ b (nQ h1) (nS b Z)];exact h1
   rcases hJ with ⟨y,hy,G',μ',bt⟩|⟨pre,hne,G',μ',bt⟩
   ·obtain⟨h1,h2⟩:=hstep bt;rw[List.drop_length]at hy;simp only[aO0]at hy;have hel:=run_endLoop (P:=P) h1 (by rw[hrec]; simp);have k:=λo=>(h2 o).aIL hfl0 hy
    have hpn:(rec .ready none).pending=none:=by rw[hrec]
    rw[hpn]at hel;exact⟨none,_,hel,by rw[(k (.deferred none)).1]; rfl,(k _).2,λh=>by cases h⟩
   ·obtain⟨h1,h2⟩:=hstep bt;have hel:=run_endLoop (P:=P) h1 (by rw[hrec]; simp);have hpn:(rec .done (some (JG exits z).1.code)).pending=some (JG exits z).1.code:=by rw[hrec]
    rw[hpn]at hel;refine⟨some (JG exits z).1.code,_,hel,?_⟩;dsimp only;clear hel hpn h1 bt;generalize JG exits z=zz at hne h2 ⊢;obtain⟨ex,F',H'⟩:=zz;cases ex with
    | normal=>exact absurd rfl hne
    | ret=>exact wpIn_ret ⟨rfl,h2 _,λh=>by cases h⟩
    | exit i=>exact wpIn_exit ⟨rfl,h2 _,λh=>by cases h⟩
  case start =>
   refine⟨x,by simpa using hz,G,μ,eW1,b2.wider λb hb=>⟨hb,id⟩,hF.mono (a1.toMono.trans b1.toMono),λb h=>h,λb _ h=>h,λb h=>h.elim,λb h=>h.elim,oM _,hGL,hGD,hL1,hD1,marks1⟩
  case round =>
   rintro pre el post T X B T' X' A us Gx m' hlst ⟨y,hy,G',μ',bt⟩ st hT' hX' hGx hus;have hdrop:lst.drop pre.length=el::post:=by rw[hlst]; simp
   have hdrop2:lst.drop (pre++[el]).length=post:=by rw[hlst]; simp
   rw[hdrop]at hy;simp only[aO0]at hy;obtain⟨v,hv⟩:∃ v,step y el=some v:=by
    cases h:step y el with
    | none=>rw[h]at hy; cases hy
    | some v=>exact⟨v,rfl⟩
   have hrg:=hr y el;rw[hv]at hrg;unfold aWZ at hrg;obtain⟨hck,hrg⟩:=aI hrg;simp only[oA,List.all_eq_true]at hck;have hpl:=oE hck.1;have hpt:∀ t∈ps.toList,t<nt:=λt ht=>jN (hck.2 t ht)
   -- the world in which the element comes
   have nT:∀ b,b<W1.heap.size->¬ T b:=λb hb hs=>Nat.lt_irrefl _ (Nat.lt_of_lt_of_le hb (bt.seq b hs).2)
   have nS:∀ b,b<W1.heap.size->¬ X b:=λb hb hs=>nT b hb (bt.sub b hs)
   have hLB:=nQ bt.atL;have hDB:=nQ bt.atD;have hLA:A.heap[L]?=some (.loop (rec .ready none)):=(st.bZ L hLB (nS L Z)).trans bt.atL;have hDA:A.heap[D]?=some (.deferred (some [])):=(st.bZ D hDB (nS D Z)).trans bt.atD;have x1:=a4J bt.winv (λb hb=>(bt.seq b hb).1) bt.sub bt.good bt.base st hT' (λb hb=>(hGx b hb).1);have x2:=aZX bt.winv bt.sub bt.good bt.base st hT' (λb hb=>(hGx b hb).1)
   have nS':∀ b,b<B.heap.size->¬ T b->¬ T' b:=by
    intro b hb hs h;rcases(hT' b h).1 with h'|h'
    ·exact hs h'
    ·omega
   have nG2:∀ b,b<B.heap.size->¬ T b->¬ G' b->¬ (G' b\/Gx b):=by
    rintro b hb ht hg (h|h)
    ·exact hg h
    ·rcases(hGx b h).1 with h'|h'
     ·exact hg (bt.base b h')
     ·exact nS' b hb ht h'
   have nL2:=nG2 L hLB (nT L Z) bt.notL;have nD2:=nG2 D hDB (nT D Z) bt.notD;have marksA:Marks wi A (G'.or Gx) a.defers:=bt.marks.to λb hb h1 h2=>⟨by rw[st.bZ b (nQ h1) (nS b (by have:=markN b hb; omega))]; exact h1,nG2 b (nQ h1) (nT b (by have:=markN b hb; omega)) h2⟩
   obtain⟨G2,hG2⟩:∃ G2,G2=G'.or Gx:=⟨_,rfl⟩;rw[<- hG2]at x1 x2 marksA;have nL2:¬ G2 L:=by rw[hG2]; exact nL2
   have nD2:¬ G2 D:=by rw[hG2]; exact nD2
   have hxS:∀ b,(b=L\/b=D\/({ target:=.collected b,args:=#[] }:Deferred)∈a.defers)->b<A.heap.size/\(∀ c t fr,A.heap[b]?≠some (.cells c t fr))/\∀ es clk,A.heap[b]?≠some (.map es clk):=by
    rintro b (rfl|rfl|hb)
    ·exact⟨nQ hLA,λc t fr h=>(by rw[hLA]at h; cases h),λ_ _ h=>(by rw[hLA]at h; cases h)⟩
    ·exact⟨nQ hDA,λc t fr h=>(by rw[hDA]at h; cases h),λ_ _ h=>(by rw[hDA]at h; cases h)⟩
    ·obtain⟨b',e1,e2,_⟩:=marksA.mem _ hb;have:b=b':=by injection e1 with e1 _; injection e1
     subst this;exact⟨nQ e2,λc t fr h=>(by rw[e2]at h; cases h),λ_ _ h=>(by rw[e2]at h; cases h)⟩
   have x3:=x2.less hxS;obtain⟨n1,hn1⟩:∃ n1:Nat->Prop,n1=λb=>(n0 b/\¬ T' b)/\¬ (b=L\/b=D\/({ target:=.collected b,args:=#[] }:Deferred)∈a.defers):=⟨_,rfl⟩
   rw[<- hn1]at x3;have n1n0:∀ b,n1 b->n0 b:=λb h=>by rw[hn1]at h; exact h.1.1
   have n1S:∀ b,n1 b->¬ T' b:=λb h=>by rw[hn1]at h; exact h.1.2
   have n1L:¬ n1 L:=λh=>by rw[hn1]at h; exact h.2 (.inl rfl)
   have n1D:¬ n1 D:=λh=>by rw[hn1]at h; exact h.2 (.inr (.inl rfl))
   have n1M:∀ b,({ target:=.collected b,args:=#[] }:Deferred)∈a.defers->¬ n1 b:=λb hb h=>by rw[hn1]at h; exact h.2 (.inr (.inr hb))
   have hFA:iV A G2 μ' nt (D1 sh y 0) { a with defers:=[] }:=bt.finv.mono x1.toMono;have husA:VRs A G2 μ' (r9 ks el) us:=VRs.mono (⟨λb hb=>⟨by rw[hG2]; exact .inr hb,rfl⟩,λ_ _ h=>(by cases h),λ_ _ h=>(by cases h),λ_ _ h=>h,λ_ _ h=>(by cases h),λ_ _ h=>(by cases h)⟩:Mono A (Gd.of Gx) aJ A G2 μ') _ _ hus;have hlen:us.length=ps.size:=by rw[<- husA.length,aDS,<- hpl,Array.length_toList]
   have hyield:=run_yield (P:=P) (args:=us.toArray) hLA (by rw[hrec]; simpa using hlen);have hfold:(ps.zip us.toArray).foldl (λtmps (t,a)=>tmps.setIfInBounds t a) a.tmps=(ps.toList.zip us).foldl (λt (p,v)=>t.setIfInBounds p v) a.tmps:=by rw[<- Array.foldl_toList,Array.toList_zip]
   rw[hrec]at hyield;dsimp only at hyield;rw[hfold]at hyield;refine⟨fn,_,as1,body,hyield,roundIn_of_wpIn trivial ?_⟩
   -- the assignment
   have hI0:IM n1 A G2 (KN μ' (KP sh 0)) nt (aY1 ps.toList (r9 ks el) (D1 sh y 0)) (O1 sh y) { tmps:=(ps.toList.zip us).foldl (λt (p,v)=>t.setIfInBounds p v) a.tmps,defers:=[] } A :=
    ⟨G2,μ',aID _,x3,aUK (by rw[aDS]; exact hpl) hpt husA hFA,trivial⟩
   obtain⟨⟨ex1,F1,H1⟩,hk1,hrun1⟩:=qT hcl hP as1 _ _ _ _ has hrg;dsimp only at hk1;cases ex1 with
   | ret=>cases hk1
   | exit i=>cases hk1
   | normal =>
   dsimp only at hk1;obtain⟨⟨ex2,F2,H2⟩,hk2,hrun2⟩:=qT hcl hP body _ _ _ _ hbd hk1;show as1.wpIn (Fr (some L)) m' P _ _ A;refine wpIn_mono (hrun1 (some L) m' n1 A G2 _ _ A (λh=>by cases h) (λr h=>aA9 r h) hI0) ?_;rintro e1 act1 A1 ⟨rfl,⟨G3,μ3,y1,y2,y3,y4⟩,hd1⟩;have hd1:act1.defers=[]:=hd1 rfl;have nL3:¬ G3 L:=λh=>(y1.new L h).elim nL2 n1L
   have hL1':A1.heap[L]?=some (.loop (rec .ready none)):=(y1.old L (nQ hLA) n1L).trans hLA;refine⟨_,run_beginRound hL1' (by rw[hrec]),?_⟩;obtain⟨A2,hA2⟩:∃ A2,A1.putObj L (.loop { rec .ready none with state:=.busy })=A2:=⟨_,rfl⟩;rw[hA2];have p1:Mono A1 G3 μ3 A2 G3 μ3:=by rw[<- hA2]; exact ME hL1' ⟨λ_ _ _ h=>(by cases h),λ_ _ h=>(by cases h)⟩ nL3
   have p2:aR n1 G3 μ3 H1 A2:=by rw[<- hA2]; exact XH y2 hL1' ⟨λ_ _ _ h=>(by cases h),λ_ _ h=>(by cases h)⟩ nL3
   have hL2':A2.heap[L]?=some (.loop { rec .ready none with state:=.busy }):=by rw[<- hA2]; exact World.putObj_heap_same (nQ hL1')
   have e12:Ext n0 A1 G3 μ3 A2 G3 μ3:=by rw[<- hA2]; exact aA2 hL1' ⟨λ_ _ _ h=>(by cases h),λ_ _ h=>(by cases h)⟩ nL3 hn0L
   have hI2:IM n1 A2 G3 (KN μ' (KP sh 0)) nt F1 H1 act1 A2 :=
    ⟨G3,μ3,{ aID (n0:=n1) (w:=A2) (G:=G3) (μ:=μ') []with
     map:=y1.map
     len:=y1.len
     sh:=y1.sh
     good:=λb hb=>⟨hb,rfl⟩
     room:=λ_ _ h=>h
     new:=λb hb=>.inl hb },p2,y3.mono p1,by rw[hd1]; trivial⟩
   show body.wpIn (Fr (some L)) m' P _ act1 A2;refine wpIn_mono (hrun2 (some L) m' n1 A2 G3 _ act1 A2 (λh=>by cases h) (λr h=>aA9 r h) hI2) ?_;rintro e2 act2 A3 ⟨rfl,⟨G4,μ4,z1,z2,z3,z4⟩,hd2⟩;have nL4:¬ G4 L:=λh=>(z1.new L h).elim nL3 n1L
   have hL3':A3.heap[L]?=some (.loop { rec .ready none with state:=.busy }):=(z1.old L (nQ hL2') n1L).trans hL2';have hdn:act2.defers=[]:=(hd2 rfl).trans hd1
   -- back with the caller
   have hFend:iV A3 G4 μ4 nt (D1 sh y 0) { a with defers:=[] }:=by
    refine⟨hFA.size,λt=>?_,rfl⟩;have v0:=aT7 (T:=KP sh 0) sh y 0 (λr h=>h) (hFA.slot t);have v1:=VR.mono (⟨y1.good,λ_ _ h=>h,λ_ _ h=>h,y1.room,y1.row,λ_ _ _=>rfl⟩:Mono A G2 (KN μ' (KP sh 0)) A1 G3 (KN μ' (KP sh 0))) _ _ v0;have v2:=VR.mono (⟨p1.good,λ_ _ h=>h,λ_ _ h=>h,p1.room,p1.row,λ_ _ _=>rfl⟩:Mono A1 G3 (KN μ' (KP sh 0)) A2 G3 (KN μ' (KP sh 0))) _ _ v1;exact VR.mono z1.toMono _ _ v2
   have back:∀ (o:Obj) (F5:Frm) (H5:Heap),(∀ {n0:Nat->Prop} {wi:World} {Gi:Gd} {μi:Mp} {a:Act} {w:World},(∀ r,¬ r∈([]:List Nat)->μi.loc r=none/\μi.len r=none)->IM n0 wi Gi μi nt (D1 sh y 0) H2 a w->IM n0 wi Gi μi nt F5 H5 a w) ->
     ∃ G5 μ5,Btw n0 wi Gi μi nt a G W1.heap.size L D F5 H5 T' X' (A3.putObj L o) o G5 μ5:=by
    intro o F5 H5 hdec;have q1:=XH (o':=o) z2 hL3' ⟨λ_ _ _ h=>(by cases h),λ_ _ h=>(by cases h)⟩ nL4;have q2:=ME (μ:=μ4) (o':=o) hL3' ⟨λ_ _ _ h=>(by cases h),λ_ _ h=>(by cases h)⟩ nL4;have q3:=aA2 (n0:=n0) (μ:=μ4) (o':=o) hL3' ⟨λ_ _ _ h=>(by cases h),λ_ _ h=>(by cases h)⟩ nL4 hn0L;have hIe:IM n1 (A3.putObj L o) G4 aJ nt (D1 sh y 0) H2 { a with defers:=[] } (A3.putObj L o) :=
     ⟨G4,μ4,{ aID (n0:=n1) (w:=A3.putObj L o) (G:=G4) (μ:=μ4) []with
      map:=λ_ _ h=>by cases h
      len:=λ_ _ h=>by cases h
      sh:=λ_ _ h=>by cases h
      good:=λb hb=>⟨hb,rfl⟩
      room:=λ_ _ h=>h
      new:=λb hb=>.inl hb },q1,hFend.mono q2,trivial⟩
    obtain⟨G5,μ5,r1,r2,r3,_⟩:=hdec (λ_ _=>⟨rfl,rfl⟩) hIe;have g45:∀ b,G5 b->G2 b\/n1 b:=λb h=>by
     rcases r1.new b h with h|h
     ·rcases z1.new b h with h|h
      ·exact y1.new b h
      ·exact .inr h
     ·exact .inr h
    have mk:∀ b,({ target:=.collected b,args:=#[] }:Deferred)∈a.defers->A.heap[b]?=some (.deferred (some []))->(A3.putObj L o).heap[b]?=some (.deferred (some [])):=by
     intro b hb h1;have hbw:=markN b hb;have k1:=(y1.old b (nQ h1) (n1M b hb)).trans h1;have k2:A2.heap[b]?=some (.deferred (some [])):=by rw[<- hA2,World.putObj_heap_other Z]; exact k1
     have k3:=(z1.old b (nQ k2) (n1M b hb)).trans k2;rw[World.putObj_heap_other Z]; exact k3
    refine⟨G5,μ5,?_,r2.wider λb hb=>⟨n1n0 b hb,n1S b hb⟩,r3,?_,?_,?_,?_,?_,?_,?_,?_,?_,?_⟩
    ·have t1:=((bt.ext.plain.trans x1.plain).trans (y1.wider n1n0).plain).trans e12.plain;exact Ext.back hfl (((t1.trans (z1.wider n1n0).plain).trans q3.plain).trans (r1.wider n1n0).plain)
    ·intro b hb;have h2:G2 b:=by rw[hG2]; exact .inl (bt.base b hb)
     exact(r1.good b (z1.good b (y1.good b h2).1).1).1
    ·intro b hb hs;rcases g45 b hb with h|h
     ·rw[hG2]at h;rcases h with h|h
      ·rcases(hX' b hs).2 with h'|h'
       ·exact bt.good b h h'
       ·exact Nat.lt_irrefl _ (Nat.lt_of_lt_of_le (bt.winv.lt b h) h')
      ·exact(hGx b h).2 hs
     ·exact n1S b h (hX' b hs).1
    ·exact λb hs=>(hX' b hs).1
    ·intro b hs;rcases(hT' b hs).1 with h|h
     ·exact bt.seq b h
     ·exact⟨(bt.winv.base b h).1,oR bt.size h⟩
    ·have s1:=bt.size;have s2:=st.size;have s3:=y1.size;have s4:=e12.size;have s5:=z1.size;rw[World.putObj_size];omega
    ·exact λh=>(g45 L h).elim nL2 n1L
    ·exact λh=>(g45 D h).elim nD2 n1D
    ·exact World.putObj_heap_same (nQ hL3')
    ·have k1:=(y1.old D (nQ hDA) n1D).trans hDA;have k2:A2.heap[D]?=some (.deferred (some [])):=by rw[<- hA2,World.putObj_heap_other Z]; exact k1
     have k3:=(z1.old D (nQ k2) n1D).trans k2;rw[World.putObj_heap_other Z]; exact k3
    ·refine marksA.to λb hb h1 h2=>⟨mk b hb h1,λhg=>?_⟩
     exact(g45 b hg).elim h2 (n1M b hb)
   have frame:∀ (o:Obj) (b:Nat),b<A.heap.size->G b\/T' b->(A3.putObj L o).heap[b]?=A.heap[b]?:=by
    intro o b hb h;have hbL:b≠L:=by
     rintro rfl;rcases h with h|h
     ·exact hGL h
     ·exact nS' b hLB (nT b Z) h
    have k1:A1.heap[b]?=A.heap[b]?/\(G3 b\/T' b):=by
     rcases h with h|h
     ·have:=y1.good b (by rw[hG2]; exact .inl (bt.base b h));exact⟨this.2,.inl this.1⟩
     ·exact⟨y1.old b hb λhn=>n1S b hn h,.inr h⟩
    have k2:A2.heap[b]?=A.heap[b]?:=by rw[<- hA2,World.putObj_heap_other hbL]; exact k1.1
    have k3:A3.heap[b]?=A2.heap[b]?:=by
     rcases k1.2 with h|h
     ·exact(z1.good b h).2
     ·refine z1.old b ?_ λhn=>n1S b hn h
      have s3:=y1.size;have s4:=e12.size;omega
    rw[World.putObj_heap_other hbL,k3,k2]
   have hroom:∀ (o:Obj) (b n:Nat),Room A b n->Room (A3.putObj L o) b n:=λo b n h =>
    (ME (μ:=μ4) (o':=o) hL3' ⟨λ_ _ _ h=>(by cases h),λ_ _ h=>(by cases h)⟩ nL4).room b n (z1.room b n (p1.room b n (y1.room b n h)))
   have hsz:∀ o,A.heap.size<=(A3.putObj L o).heap.size:=by
    intro o;have s3:=y1.size;have s4:=e12.size;have s5:=z1.size;rw[World.putObj_size]; omega
   rw[hv]at hy;unfold bD4 at hk2;dsimp only at hk2;rcases ZH hk2 with ⟨x',rfl,e2,e3⟩|⟨z',rfl,e2,e3⟩
   ·subst e2;dsimp only at hy;refine⟨_,_,run_endRound none hL3',⟨frame _,hroom _,hsz _⟩,.inl ⟨rfl,⟨x',by rw[hdrop2]; exact hy,?_⟩⟩⟩;have:=back (.loop (rec .ready none)) (D1 sh x' 0) (O1 sh x') (λh hI=>hI.dec h e3);rw[hrec]at this ⊢;exact this
   ·dsimp only at hy;have hzz:z'=z:=oB hy;subst hzz;obtain⟨o1,_⟩:=TM e3;have hb:=back (.loop (rec .done (some ex2.code))) (JG exits z').2.1 (JG exits z').2.2 (λh hI=>(hI.aIL h e3).2);rw[hrec]at hb;cases ex2 with
    | normal=>exact absurd rfl e2
    | ret =>
     refine⟨_,_,run_endRound (some .ret) hL3',⟨frame _,hroom _,hsz _⟩,.inr ⟨rfl,by rw[o1]; exact e2,?_⟩⟩;rw[o1,hrec];exact hb
    | exit i =>
     refine⟨_,_,run_endRound (some (.exit i)) hL3',⟨frame _,hroom _,hsz _⟩,.inr ⟨rfl,by rw[o1]; exact e2,?_⟩⟩;rw[o1,hrec];exact hb
end
section
variable {P:Program} {n0:Nat->Prop} {w w' wi:World} {G G' Gi:Gd} {μ μ' μi:Mp} {H:Heap} {F:Frm} {nt n:Nat}
theorem D9 {fn tmps R}(hb:∀ b,wi.heap.size<=b->n0 b)(hend:∀ w',IM n0 wi Gi μi nt F H { tmps:=tmps,defers:=[] } w'->LeavesIn Fence.wide n P fn tmps R [] .returning w') :
  ∀ ds w,IM n0 wi Gi μi nt F H { tmps:=tmps,defers:=ds } w->LeavesInM Fence.wide n P fn tmps R ds .returning w
 | [],w,h=>hend w h
 | d::ds,w,h=>by
  obtain⟨G,μ,e,hW,hF,⟨b,rfl,h1,h2,h3,h4⟩,hm⟩:=h;refine⟨by simp,.inl ⟨b,_,rfl,run_takeDeferred h1,D9 hb hend ds _ ⟨G,μ,e.trans (aA2 h1 ⟨λ_ _ _ h=>(by cases h),λ_ _ h=>zf⟩ h3 (hb b h2)),XH hW h1 ⟨λ_ _ _ h=>zf,λ_ _ h=>zf⟩ h3,hF.mono (ME h1 ⟨λ_ _ _ h=>(by cases h),λ_ _ h=>(by cases h)⟩ h3),?_⟩⟩⟩;refine hm.to λb' hb' k1 k2=>⟨?_,k2⟩
  rw[World.putObj_heap_other]
  ·omega
  grind
def bD9(P:Program)(E:Env)(fn:Func)(bZ:Nat)(lt rt:Nat->Option dN)(c:Code) args rets (x:aH args):Option (aH rets) :=
 bif Nat.ble (r9 args x).length fn.ntmps then KU P E fn.ntmps bZ lt rt false [] c (start bZ 0 (r9 args x)) [] (a0I P fn.results.toList rets) else none
theorem bB0 {E} (hP:UM P) (hE:gD P E) {g:Nat} {fn} (hg:P.funcs[g]?=some fn) {c} (hc:fn.body=some c) {bZ lt rt args rets f}
  (hl:∀ a∈iB c,WB P fn.ntmps lt rt false [] a) (hb:∀ x,bD9 P E fn bZ lt rt c args rets x=f x):aCL P g args rets f:=by
 intro x y hy;rw[<- hb]at hy;obtain⟨hlen,hy⟩:=aI hy;obtain⟨⟨ex,F',H'⟩,h1,h2⟩:=qT hE.callee hP.mixed c _ _ _ _ hl hy;obtain⟨vs,q,hex,hvs,hq,hd⟩:∃ vs q,(ex=.normal\/ex=.ret)/\A7 P F' H' fn.results.toList=some vs/\a1W H' (qP vs)=some q/\aYW rets q=some y:=by
  unfold a0I at h1;split at h1
  ·cases h1
  next hne=>
   split at h1
   ·rename_i vs hvs;split at h1
    ·rename_i q hq;refine⟨vs,q,?_,hvs,hq,h1⟩;cases ex with
     | normal=>exact .inl rfl
     | ret=>exact .inr rfl
     | exit i=>exact absurd rfl (hne i)
    ·cases h1
   ·cases h1
 have hcall:∀ {n0 G μ w us},aR n0 G μ [] w->VRs w G μ (r9 args x) us->FL P n0 w G μ g us.toArray (qP vs) H':=by
  intro n0 G μ w us hW hv;refine⟨enters hg (hP.names g fn hg) (by rw[hc]; rfl) _ _,(callsIn_wide (n:=0)).1 (callsIn_of_wp_marks hg hc trivial ?_)⟩;have hI:I n0 w G μ fn.ntmps (start bZ 0 (r9 args x)) [] ⟨us.toArray++Array.replicate (fn.ntmps-us.toArray.size) undef,[]⟩ w:=⟨G,μ,Ext.refl _ _ _ _,hW,HV (by simpa using hv) (oL hlen)⟩;refine wpIn_mono (h2 none 0 n0 w G μ _ w (λ_=>rfl) (λr _=>hW.top r (Nat.zero_le _)) hI.bE6) ?_
  rintro e ⟨tm,ds⟩ w' ⟨rfl,hI',_⟩;have hend:∀ w',IM n0 w G μ fn.ntmps F' H' { tmps:=tm,defers:=[] } w'->LeavesIn Fence.wide 0 P fn tm (λe w'=>∃ v' G'' μ'',e=.returned v'/\Ext n0 w G μ w' G'' μ''/\aR n0 G'' μ'' H' w'/\VR w' G'' μ'' (qP vs) v') [] .returning w':=by
   rintro w' ⟨G',μ',e',hW',hF',_⟩;obtain⟨ws,h3,h4⟩:=yJ (P:=P) hW' hF' hvs;have hres:(results fn tm).run P w'=.ok (if hh:ws.toArray.size=1 then ws.toArray[0] else .tuple ws.toArray) w':=by
    rw[LV,Array.mapM_eq_mapM_toList]
    simp_all
   exact⟨_,hres,_,G',μ',rfl,e',hW',BA h4⟩
  rcases hex with rfl|rfl
  ·exact D9 (λb hb=>hW.base b hb) hend ds w' hI'
  ·exact D9 (λb hb=>hW.base b hb) hend ds w' hI'
 have hp:=aD1 hcall (UA hq).1 (UA hq).2;intro w G us hlt hv;obtain⟨h3,h4⟩:=hp w G us hlt hv;refine⟨h3,h4.mono ?_⟩;rintro e w' ⟨v',G',rfl,e1,e2,e3⟩;exact⟨v',G',rfl,e1,e2,aE5 hd e3⟩
def a10(P:Program) (nt:Nat) (lt rt:Nat->Option dN) (rd:Bool) (T:List Nat):List Code->Prop
 | []=>True
 | a::r=>WB P nt lt rt rd T a/\a10 P nt lt rt rd T r
theorem aRB {lt rt rd T}:∀ {l},a10 P nt lt rt rd T l->∀ a∈l,WB P nt lt rt rd T a
 | [],_,a,ha=>zf
 | b::r,h,a,ha=>by
  rcases List.mem_cons.1 ha with rfl|ha
  ·exact h.1
  ·exact aRB h.2 a ha
theorem NB {lt rt rd T c l}(hc:iB c=l)(h:a10 P nt lt rt rd T l):∀ a∈iB c,WB P nt lt rt rd T a:=by rw[hc]; exact aRB h
theorem aDU {lt rt rd T a i s0}(hf:b8 a=i)(hlt:lt i=some s0)(h:UR P nt rd T (.loop a) s0):WB P nt lt rt rd T (.loop a):=by
 intro s hs;grind
theorem a5X {lt rt g ps as1 a i s0}(hf:b8 a=i)(hrt:rt i=some s0)(h:UR P nt false [] (.rangeFunc g ps as1 a) s0):WB P nt lt rt false [] (.rangeFunc g ps as1 a):=by
 intro _ s hs;grind
def aML(c:Code) (i:Nat):Code:=(iB c).getD i .skip
def inLoop:Code->Code
 | .loop a=>a
 | .rangeFunc _ _ _ a=>a
 | _=>.skip
def ZK:Code->Code
 | .rangeFunc _ _ as1 _=>as1
 | _=>.skip
def a0F:Code->Operand
 | .rangeFunc g _ _ _=>g
 | _=>.const undef
def a9V:Code->Array Tmp
 | .rangeFunc _ ps _ _=>ps
 | _=>#[]
theorem a00 {lt rt r i s0}(hr:r=.rangeFunc (a0F r) (a9V r) (ZK r) (inLoop r))(hf:b8 (inLoop r)=i)(hrt:rt i=some s0)(h:UR P nt false [] r s0):WB P nt lt rt false [] r:=by
 rw[hr]at h ⊢;exact a5X hf hrt h
theorem a7I {E bZ lt rt} (hE:gD P E) (hP:UM P) {r} (hrc:r=.rangeFunc (a0F r) (a9V r) (ZK r) (inLoop r)) {gf:Nat} {fn c ts ks f}
  (hg:P.funcs[gf]?=some fn) (hc:fn.body=some c) (hit:aP8 P gf ts ks f)
  {sh exits step} {cap:Shape.den sh->aHO ts}
  (has:iB (ZK r)=[]) (hbd:∀ b∈iB (inLoop r),WB P nt lt rt true (KP sh 0) b)
  (hsq:∀ x,a9G gf ts sh (a0F r) x=some (cap x))
  (hr:∀ y e,aWZ P E nt bZ lt rt (a9V r).toList (ZK r) (inLoop r) ks sh exits y e=step y e) :
  UR P nt false [] r ⟨sh,exits,bCZ sh exits (λx=>f (cap x)) step⟩:=by
 have:=bAF hE.callee hP.mixed hit (λargs w=>enters hg (hP.names gf fn hg) zf args w) zf hbd (λx l hl=>⟨cap x,hsq x,hl⟩) hr;grind
end
def BG:Code->Nat
 | .region _ ops _=>aDO ops.toList ops.toList 0 0
 | .seq a b=>BG a ||| BG b
 | .cond c a b=>bAV c ||| BG a ||| BG b
 | .block _ a=>BG a
 | .loop a=>BG a
 | .scope a=>BG a
 | .rangeFunc g _ as1 a=>bAV g ||| BG as1 ||| BG a
 | _=>0
def S1(fn:Func):Nat:=match fn.body with
 | some c=>XP fn.results.toList (BG c)
 | none=>0
end Go.PM
namespace Go.Proofs
open Go Go.RowKit Go.Sort Go.Lib
set_option maxHeartbeats 6400000
theorem Tryz.aF1 (u:Nat)(hu64:u<18446744073709551616)(w:World)(htab:Lib.TabIs Tryz.prog w "internal/strconv.uint64pow10" .u64 Lib.pow10Tab) :
  Calls Tryz.prog 247 #[.int .u64 u,.int .i64 10] w λe w'=>e=.returned (.string ⟨(Lib.decDigits u).toArray⟩)/\∃ k os,w'=grow (w.drewN k) os:=by
 by_cases hs:u<100
 ·go_enter Tryz.func247,Tryz.ntmps247
  have hwr:IntKind.i64.wrap (u:Int)=(u:Int):=by rw[IntKind.wrap_i64]; omega
  go_wp2_with (go_at_call 248; refine(Tryz.internal_strconv_small u hs _).mono ?_; rintro e w' ⟨rfl,rfl⟩)
  go_ret
  exact⟨rfl,0,#[],by simp[World.drewN_zero]⟩
 ·have hu1:1<=u:=Z
  have hnd20:Lib.nDigits u<=20:=by have:=Lib.numDigits_eq u hu1 hu64; split at this <;> omega
  have hal:Tryz.prog.arrayLen 265=24:=by simp[Program.arrayLen,Tryz.underlying265]
  have hsl:∀ W,(Instr.sliceAt 265 (.pointer (some ⟨w.heap.size,0,none⟩)) none (some (.int .i64 (Lib.nDigits u:Int))) none).run Tryz.prog W=.ok (.slice (some ⟨w.heap.size,0,none⟩) (Lib.nDigits u) 24) W:=λW=>by
   rw[run_sliceAt_array_h W 265 ⟨w.heap.size,0,none⟩ (by simp[Program.arrayLen,Program.elem,Tryz.underlying265]) .i64 (Lib.nDigits u:Int) Z (by rw[hal]; omega)]
   go_simp
  have hH0:=Lib.holds_zero0 w 265 (Lib.nDigits u) Z;have hfmt:=Tryz.internal_strconv_formatBase10 w.heap.size 0 24 u (Array.replicate (Lib.nDigits u) 0) (w.alloc (.cells Lib.zeros24 265)) hH0 (by rw[Array.size_replicate]; exact Lib.lt_pow_nDigits u) hu64 (by rw[Array.size_replicate]; omega);rw[Array.size_replicate]at hfmt;have HH0:=Lib.hid hH0;clear hH0 hal
  go_enter Tryz.func247,Tryz.ntmps247
  go_wp2_with (first
   | (go_at_call 249; refine(Tryz.internal_strconv_numDigits u hu1 hu64 _ (Lib.tabIs_alloc htab _)).mono ?_; rintro e w' ⟨rfl,rfl⟩))
  go_at_call 250
  refine hfmt.mono ?_;rintro e w' ⟨rfl,k,v',dk,rfl,hF⟩;have hcv:(convert 253 9 (.slice (some ⟨w.heap.size,0,none⟩) (Lib.nDigits u) 24)).run Tryz.prog ((putRow (λ(b:UInt8)=>Value.int .u8 (b.toNat:Int)) (w.alloc (.cells Lib.zeros24 265)) w.heap.size 0 dk).drewN k)=.ok (.string ⟨(Lib.decDigits u).toArray⟩) ((putRow (λ(b:UInt8)=>Value.int .u8 (b.toNat:Int)) (w.alloc (.cells Lib.zeros24 265)) w.heap.size 0 dk).drewN k):=by
   have h:=run_convert_bytes_back (P:=Tryz.prog) ((putRow (λ(b:UInt8)=>Value.int .u8 (b.toNat:Int)) (w.alloc (.cells Lib.zeros24 265)) w.heap.size 0 dk).drewN k) 253 9 5 ⟨w.heap.size,0,none⟩ 24 (Lib.decDigits u) Tryz.underlying253 Tryz.underlying5 Tryz.underlying9 (λj hj=>by
    rw[Lib.row_is_numeral hF j hj,Lib.add_plain,World.cell?_drewN];exact cell?_putRow (λ(b:UInt8)=>Value.int .u8 (b.toNat:Int)) _ w.heap.size 0 _ dk HH0.out (by rw[hF.size,Array.size_replicate]) j (by rw[hF.size]; rw[Lib.decDigits_length]at hj; exact hj))
   rw[Lib.decDigits_length]at h;exact h
  go_wp2
  go_ret
  obtain⟨os,eo⟩:=Lib.fin_at w (.cells Lib.zeros24 265) dk k 0;exact⟨rfl,k,os,eo⟩
theorem Tryz.aCI (u:Nat)(hu64:u<18446744073709551616)(w:World)(htab:Lib.TabIs Tryz.prog w "internal/strconv.uint64pow10" .u64 Lib.pow10Tab) :
  Calls Tryz.prog 235 #[.int .u64 u,.int .i64 10] w λe w'=>e=.returned (.string ⟨(Lib.decDigits u).toArray⟩)/\∃ k os,w'=grow (w.drewN k) os:=by
 go_enter Tryz.func235,Tryz.ntmps235
 go_wp2_with (go_at_call 247; refine(Tryz.aF1 u hu64 _ htab).mono ?_; rintro e w' ⟨rfl,k,os,rfl⟩)
 go_ret
 exact⟨rfl,k,os,rfl⟩
end Go.Proofs
namespace Go.PM
open Go Go.RowKit Go.Proofs Tryz
theorem a4Z {w:World}{G:Nat->Prop}(h:Lt w G):Lib.TabIs Tryz.prog w "internal/strconv.uint64pow10" .u64 Lib.pow10Tab:=by
 have hm:(2,a4P .u64 [1,10,100,1000,10000,100000,1000000,10000000,100000000,1000000000,10000000000,100000000000,1000000000000,10000000000000,100000000000000,1000000000000000,10000000000000000,100000000000000000,1000000000000000000,10000000000000000000])∈a7P:=by simp[a7P]
 obtain⟨-,t,fr,ht⟩:=h.tab _ hm;have hg:Tryz.prog.globalNamed "internal/strconv.uint64pow10"=some 2:=Y
 unfold Lib.TabIs World.var?;rw[hg];simp only[Option.bind_some];rw[ht];rfl
theorem a0J {w G}(hG:∀ b,G b->b<w.heap.size) k os:Ext (DU w) w (Gd.of G) aJ (Sort.grow (w.drewN k) os) (Gd.of G) aJ :=
 have hb :=λb hb=>Lib.heap_grow_old w k os b hb
 {good:=λb h=>⟨h,hb b (hG b h)⟩
  row:=λ_ _ h=>h
  map:=λ_ _ h=>Z
  len:=λ_ _ h=>zf
  room:=λb n ⟨c,t,fr,h1,h2⟩=>⟨c,t,fr,by grind,h2⟩
  os:=rfl
  tape:=rfl
  output:=rfl
  size:=R
  old:=λb h _=>hb b h
  new:=λb h=>.inl h }
theorem aTQ {w w' G}(hG:∀ b,G b->b<w.heap.size)(h:Below w.heap.size w w'):Ext (DU w) w (Gd.of G) aJ w' (Gd.of G) aJ :=
 {good:=λb hb=>⟨hb,h.block b (hG b hb)⟩
  row:=λ_ _ h=>h
  map:=λ_ _ h=>zf
  len:=λ_ _ h=>zf
  room:=λb n ⟨c,t,fr,h1,h2⟩=>⟨c,t,fr,by rw[h.block b (nQ h1)]; omega,h2⟩
  os:=h.os
  tape:=h.tape
  output:=h.output
  size:=h.size
  old:=λb hb _=>h.block b hb
  new:=λb hb=>.inl hb }
theorem aFK {w G}(hG:∀ b,G b->b<w.heap.size) e t:Ext (DU w) w (Gd.of G) aJ (Lib.bytesWorld w e t) (Gd.of G) aJ :=
 aTQ hG (Joins.below_bytesWorld _ w e t (oM _))
def aNA:Nat->Nat->List UInt8->List UInt8
 | 0,_,acc=>acc
 | f+1,u,acc=>bif Nat.blt u 10 then UInt8.ofNat (48+u)::acc else aNA f (u/10) (UInt8.ofNat (48+u%10)::acc)
theorem aRC:∀ f u acc,u<10^(f+1)->aNA (f+1) u acc=Lib.decDigits u++acc
 | f,u,acc,h=>by
  rw[Lib.decDigits]
  by_cases h1:u<10
  ·rw[dif_pos h1,aNA];have:Nat.blt u 10=true:=by simp_all
   grind
  ·rw[dif_neg h1,aNA];have:Nat.blt u 10=false:=by rw[b9]; simpa using h1
   rw[this,oD];cases f with
   | zero=>omega
   | succ f =>
    rw[aRC f (u/10) _ zf];simp
def aZW:Int->ByteArray
 | .ofNat u=>⟨(aNA 20 u []).toArray⟩
 | .negSucc u=>⟨(45::aNA 20 (u+1) []).toArray⟩
theorem aPK {n}(h:n.natAbs<10^20):aZW n=⟨(Lib.itoa n).toArray⟩:=by
 cases n with
 | ofNat u =>
  have h1:¬ (Int.ofNat u<0):=R
  unfold Lib.itoa;show (⟨(aNA (19+1) u []).toArray⟩:ByteArray)=⟨(Lib.decDigits u).toArray⟩;rw[aRC 19 u [] h,List.append_nil]
 | negSucc u =>
  have h1 :=Int.negSucc_lt_zero u;unfold Lib.itoa;rw[if_pos h1];show (⟨(45::aNA (19+1) (u+1) []).toArray⟩:ByteArray)=⟨(45::Lib.decDigits (u+1)).toArray⟩;rw[aRC 19 (u+1) [] h,List.append_nil]
def K5(x:aH [.int .i64]):oK [.str]:=match x with
 | (n,())=>bif !(ltI n (-9223372036854775808))&&!(ltI 9223372036854775807 n) then some (aZW n,()) else none
def K9(x:aH [.str]):oK [.int .i64,.nilI]:=match x with
 | (s,())=>bif Nat.ble s.size 18 then (match Lib.atoi s.data.toList with
  | some n=>some (n,(),())
  | none=>none) else none
def XK(x:aH [.str,.int .i64,.int .i64]):oK [.int .i64,.nilI]:=match x with
 | (s,b,c,())=>bif Nat.ble s.size 1000000000&&(eqI b 10&&eqI c 64) then (match Lib.parseIntB 64 s.data.toList with
  | .ok n=>some (n,(),())
  | _=>none) else none
def zC(x:aH [.str,.int .i64,.int .i64]):oK [.int .u64,.nilI]:=match x with
 | (s,b,c,())=>bif Nat.ble s.size 1000000000&&(eqI b 10&&eqI c 64) then (match Lib.parseUintB 64 s.data.toList with
  | .ok n=>some ((n:Int),(),())
  | _=>none) else none
def xD(x:aH [.int .u64,.int .i64]):oK [.str]:=match x with
 | (n,b,())=>bif !(ltI n 0)&&(ltI n 18446744073709551616&&eqI b 10) then some (aZW n,()) else none
theorem bBZ {w G u vs}(h:VRs w G aJ [.lit u] vs.toList):vs=#[u]:=by
 obtain⟨v,us,hvs,h1,h2⟩:=h;rw[VRs]at h2;rw[VR]at h1;grind
theorem bGQ {w G u1 u2 vs}(h:VRs w G aJ [.lit u1,.lit u2] vs.toList):vs=#[u1,u2]:=by
 obtain⟨v,us,hvs,h1,h2⟩:=h;obtain⟨v2,us2,hvs2,h3,h4⟩:=h2;rw[VRs]at h4;rw[VR]at h1 h3;grind
theorem bFK {w G u1 u2 u3 vs}(h:VRs w G aJ [.lit u1,.lit u2,.lit u3] vs.toList):vs=#[u1,u2,u3]:=by
 obtain⟨v,us,hvs,h1,h2⟩:=h;obtain⟨v2,us2,hvs2,h3,h4⟩:=h2;obtain⟨v3,us3,hvs3,h5,h6⟩:=h4;rw[VRs]at h6;rw[VR]at h1 h3 h5;grind
theorem aDA {w G} k n:VR w G aJ (.tuple [.lit (.int k n),.lit .nilIface]) (.tuple #[.int k n,.nilIface]):=by
 refine⟨_,rfl,?_⟩;refine⟨_,_,rfl,by rfl,?_⟩;exact⟨_,_,rfl,by rfl,by rfl⟩
theorem bBD {w G} s:VR w G aJ (.lit (.string s)) (.string s):=by rfl
theorem aR0:aCL Tryz.prog 185 _ _ K5:=by
 rintro⟨n,⟨⟩⟩ y h w G vs hG hv;unfold K5 at h;obtain⟨hb,h⟩:=aI h;simp only[oA,Bool.not_eq_true',aE,decide_eq_false_iff_not]at hb;obtain rfl:=oB h;obtain rfl:=bBZ hv;refine⟨enters func185 Y Y _ _,(Tryz.strconv_Itoa n Z Z w (a4Z hG)).mono ?_⟩;rintro e w' ⟨rfl,k,os,rfl⟩;rw[<- aPK Z];have he:=a0J hG.lt k os;exact⟨_,G,rfl,he,λb hb=>Nat.lt_of_lt_of_le (hG b hb) he.size,bBD _⟩
theorem aPB:aCL Tryz.prog 212 _ _ K9:=by
 rintro⟨s,⟨⟩⟩ y h w G vs hG hv;unfold K9 at h;obtain⟨hb,h4⟩:=aI h;clear h;have hl:=oL hb;split at h4
 next n hn=>obtain rfl:=oB h4;obtain rfl:=bBZ hv;refine⟨enters func212 Y Y _ _,(Tryz.strconv_Atoi s n hl hn w).mono ?_⟩;rintro e w' ⟨rfl,t,rfl⟩;have he:=aFK hG.lt 5 t;exact⟨_,G,rfl,he,λb hb=>Nat.lt_of_lt_of_le (hG b hb) he.size,aDA _ n⟩
 ·cases h4
theorem a1U:aCL Tryz.prog 231 _ _ XK:=by
 rintro⟨s,b,c,⟨⟩⟩ y h w G vs hG hv;unfold XK at h;obtain⟨hb,h4⟩:=aI h;clear h;simp only[oA,eG,decide_eq_true_eq]at hb;obtain⟨hb1,rfl,rfl⟩:=hb;have hl:=oL hb1;split at h4
 next n hn=>
  obtain rfl:=oB h4;obtain rfl:=bFK hv;refine⟨enters func231 Y Y _ _,(Tryz.strconv_ParseInt_10_at64_ok s Z n hn w).mono ?_⟩;rintro e w' ⟨rfl,hw⟩;rcases hw with rfl|⟨t,rfl⟩
  ·exact⟨_,G,rfl,Ext.refl _ _ _ _,hG.lt,aDA _ n⟩
  ·have he:=aFK hG.lt 5 t;exact⟨_,G,rfl,he,λb hb=>Nat.lt_of_lt_of_le (hG b hb) he.size,aDA _ n⟩
 ·cases h4
theorem aFY:aCL Tryz.prog 246 _ _ zC:=by
 rintro⟨s,b,c,⟨⟩⟩ y h w G vs hG hv;unfold zC at h;obtain⟨hb,h4⟩:=aI h;clear h;simp only[oA,eG,decide_eq_true_eq]at hb;obtain⟨hb1,rfl,rfl⟩:=hb;have hl:=oL hb1;split at h4
 next n hn=>
  obtain rfl:=oB h4;obtain rfl:=bFK hv;refine⟨enters func246 Y Y _ _,(Tryz.strconv_ParseUint_10_at64_ok s Z n hn w).mono ?_⟩;rintro e w' ⟨rfl,hw⟩;rcases hw with rfl|rfl
  ·exact⟨_,G,rfl,Ext.refl _ _ _ _,hG.lt,aDA _ n⟩
  ·have he:=aFK hG.lt 5 s;exact⟨_,G,rfl,he,λb hb=>Nat.lt_of_lt_of_le (hG b hb) he.size,aDA _ n⟩
 ·cases h4
theorem aEO:aCL Tryz.prog 235 _ _ xD:=by
 rintro⟨n,b,⟨⟩⟩ y h w G vs hG hv;unfold xD at h;obtain⟨hb,h4⟩:=aI h;clear h;simp only[oA,Bool.not_eq_true',aE,eG,decide_eq_true_eq,decide_eq_false_iff_not]at hb;obtain⟨hb1,hb2,rfl⟩:=hb;obtain rfl:=oB h4;obtain rfl:=bGQ hv;obtain⟨u,hu⟩:∃ u:Nat,(n:Int)=(u:Int):=⟨Int.toNat n,(Int.toNat_of_nonneg (Int.not_lt.1 hb1)).symm⟩;subst hu;refine⟨enters func235 Y Y _ _,(Tryz.aCI u (Int.ofNat_lt.1 hb2) w (a4Z hG)).mono ?_⟩
 rintro e w' ⟨rfl,k,os,rfl⟩;have hi:(⟨(Lib.decDigits u).toArray⟩:ByteArray)=aZW (u:Int):=by
  have h1:u<10^20:=Nat.lt_trans (Int.ofNat_lt.1 hb2) O;rw[aPK (by simpa using h1),Lib.itoa_nonneg]
 rw[hi];have he:=a0J hG.lt k os;exact⟨_,G,rfl,he,λb hb=>Nat.lt_of_lt_of_le (hG b hb) he.size,bBD _⟩
abbrev aSO:Ent:=⟨185,_,_,K5⟩
theorem aL7:Ent.OK Tryz.prog aSO:=aR0
abbrev aR5:Ent:=⟨212,_,_,K9⟩
theorem aL3:Ent.OK Tryz.prog aR5:=aPB
abbrev aHF:Ent:=⟨246,_,_,zC⟩
theorem aCF:Ent.OK Tryz.prog aHF:=aFY
abbrev aF6:Ent:=⟨235,_,_,xD⟩
theorem aBE:Ent.OK Tryz.prog aF6:=aEO
set_option maxHeartbeats 4000000
theorem bBO(s:ByteArray)(hl:s.size<=1000000000)(v:Int)(h:Lib.parseIntB 64 s.data.toList=.ok v)(w:World) :
  Calls Tryz.prog 210 #[.string s] w λe w'=>e=.returned (.tuple #[.int .i64 v,.bool true])/\(w'=w\/∃ t,w'=Lib.bytesWorld w 5 t):=by
 go_enter func210,ntmps210
 go_wp2_with (go_at_call 231; refine(Tryz.strconv_ParseInt_10_at64_ok s Z v h _).mono ?_; rintro e w' ⟨rfl,hw⟩)
 all_goals refine bodyPost_ret (results_tmp2 rfl _ _ _) rfl ?_
 exact⟨rfl,hw⟩
theorem aZD(s:ByteArray)(hl:s.size<=1000000000)(h:Lib.parseIntB 64 s.data.toList=.range)(ev:Value)(w:World)(hv:w.cell? ⟨1,0,none⟩=some ev)(hev:ev=.nilIface\/∃ te pe,ev=.iface te pe) :
  Calls Tryz.prog 210 #[.string s] w λe w'=>e=.returned (.tuple #[.int .i64 0,.bool false])/\Below w.heap.size w w':=by
 go_enter func210,ntmps210
 go_wp2_with (go_at_call 231; refine(Tryz.strconv_ParseInt_10_at64_range s Z h ev _ hv hev).mono ?_; rintro e w' ⟨N,rfl,hN1,hN2,hB⟩)
 all_goals refine bodyPost_ret (results_tmp2 rfl _ _ _) rfl ?_
 exact⟨rfl,hB⟩
theorem bBU {w:World}{G:Nat->Prop}(h:Lt w G):∃ te pe,w.cell? ⟨1,0,none⟩=some (.iface te pe):=by
 have hm:(1,aI7)∈a7P:=by simp[a7P]
 obtain⟨-,te,pe,t,fr,ht⟩:=h.tab _ hm;refine⟨te,pe,?_⟩;simp only[World.cell?];rw[ht];rfl
theorem aQ2 {w G} k n b:VR w G aJ (.tuple [.lit (.int k n),.lit (.bool b)]) (.tuple #[.int k n,.bool b]):=by
 refine⟨_,rfl,?_⟩;refine⟨_,_,rfl,by rfl,?_⟩;exact⟨_,_,rfl,by rfl,by rfl⟩
def JD(x:aH [.str]):oK [.int .i64,.bool]:=match x with
 | (s,())=>bif Nat.ble s.size 1000000000 then (match Lib.parseIntB 64 s.data.toList with
  | .ok n=>some (n,true,())
  | .range=>some (0,false,())
  | _=>none) else none
theorem aSI:aCL Tryz.prog 210 _ _ JD:=by
 rintro⟨s,⟨⟩⟩ y h w G vs hG hv;unfold JD at h;obtain⟨hb,h4⟩:=aI h;clear h;have hl:=oL hb;split at h4
 next n hn=>
  obtain rfl:=oB h4;obtain rfl:=bBZ hv;refine⟨enters func210 Y Y _ _,(bBO s hl n hn w).mono ?_⟩;rintro e w' ⟨rfl,hw⟩;rcases hw with rfl|⟨t,rfl⟩
  ·exact⟨_,G,rfl,Ext.refl _ _ _ _,hG.lt,aQ2 _ n true⟩
  ·have he:=aFK hG.lt 5 t;exact⟨_,G,rfl,he,λb hb=>Nat.lt_of_lt_of_le (hG b hb) he.size,aQ2 _ n true⟩
 next hn=>obtain rfl:=oB h4;obtain rfl:=bBZ hv;obtain⟨te,pe,hc⟩:=bBU hG;refine⟨enters func210 Y Y _ _,(aZD s hl hn _ w hc (.inr ⟨te,pe,rfl⟩)).mono ?_⟩;rintro e w' ⟨rfl,hB⟩;have he:=aTQ hG hB;exact⟨_,G,rfl,he,λb hb=>Nat.lt_of_lt_of_le (hG b hb) he.size,aQ2 _ 0 false⟩
 ·cases h4
abbrev aKN:Ent:=⟨210,_,_,JD⟩
theorem aN8:Ent.OK Tryz.prog aKN:=aSI
abbrev arB(ae:TypeId) (t:Ty) (A:List (List t.den)):Blk:=⟨aK (.rows t) A,ae,false,false,some ⟨.rows t,A⟩⟩
abbrev owB(e:TypeId)(t:Ty)(l:List t.den):Blk:=⟨aK t l,e,true,false,some ⟨t,l⟩⟩
abbrev OwA:=Option (Nat×Blk)
def XJ:OwA->Heap->Heap
 | none,H=>H
 | some (r,_),H=>H.set r none
def RK:OwA->Heap
 | none=>[]
 | some (_,k)=>[some k]
def bFT(μ:Mp):OwA->Option Nat
 | none=>none
 | some (r,_)=>μ.loc r
def bGS(μ:Mp):OwA->Option Nat
 | none=>none
 | some (r,_)=>μ.len r
def shA(μ:Mp):OwA->Nat
 | none=>0
 | some (r,_)=>μ.sh r
def wrA(w:World) (G:Gd) (μ:Mp) (ow:OwA):Nat->Prop:=λb=>w.heap.size<=b\/bFT μ ow=some b\/∃ j,G.row j=some b
def mpA(μ:Mp) (ow:OwA) (n:Nat):Mp:=⟨λq=>if q<(RK ow).length then bFT μ ow else none,λq=>if q<(RK ow).length then bGS μ ow else if q=(RK ow).length then some n else none,λq=>if q<(RK ow).length then shA μ ow else 0⟩
structure a5V (H:Heap) (ow:OwA):Prop where
 at_:∀ r k,ow=some (r,k)->H[r]?=some (some k)/\k.grown=true/\k.frozen=false/\k.tag.isSome=true
section
variable {P:Program} {n0:Nat->Prop} {w w':World} {G G1 G2:Gd} {μ μ2:Mp} {H H':Heap} {ae:TypeId} {t:Ty} {A B:List (List t.den)}
theorem a6X {ow s k}(h:(XJ ow H)[s]?=some (some k)):H[s]?=some (some k)/\∀ r k',ow=some (r,k')->s≠r:=by
 cases ow with
 | none=>exact⟨h,λr k' e=>by grind⟩
 | some p =>
  obtain⟨h1,h2⟩:=uV h;grind
theorem aWK {ow}:(XJ ow H).length=H.length:=by
 cases ow with
 | none=>rfl
 | some p=>simp[XJ]
theorem bE8(hW:aR n0 G μ H w) {ow:OwA} (ho:a5V H ow):∀ b,wrA w G μ ow b->n0 b:=by
 rintro b (h|h|⟨j,h⟩)
 ·exact hW.base b h
 ·cases ow with
  | none=>cases h
  | some p =>
   obtain⟨r,k⟩:=p;obtain⟨h1,_,h3,_⟩:=ho.at_ r k rfl;obtain⟨_,_,_,_,_,h6⟩:=hW.blk r k b h1 h;grind
 ·exact(hW.rows.sep j b h).2.1
theorem a6T(hW:aR n0 G μ H w) {ow:OwA} (ho:a5V H ow) {s:Nat} {k:Blk} {b:Nat} (hs:H[s]?=some (some k)) (hne:∀ r k',ow=some (r,k')->s≠r) (hb:μ.loc s=some b):¬ wrA w G μ ow b:=by
 rintro(h|h|⟨j,h⟩)
 ·exact Nat.not_lt.2 h (hW.sY hs hb)
 ·cases ow with
  | none=>cases h
  | some p =>
   obtain⟨r,k'⟩:=p;obtain⟨h1,_,h3,_⟩:=ho.at_ r k' rfl;cases hf:k.frozen with
   | false=>exact hne r k' rfl (hW.inj s r k k' b hs h1 hf h3 hb h)
   | true =>
    obtain⟨_,_,_,_,h5,_⟩:=hW.blk s k b hs hb;obtain⟨_,_,_,_,_,h6⟩:=hW.blk r k' b h1 h;grind
 ·obtain⟨_,_,a3,a4⟩:=hW.rows.sep j b h;cases hf:k.frozen with
  | false=>exact a4 s k hs hf hb
  | true =>
   obtain⟨_,_,_,_,h5,_⟩:=hW.blk s k b hs hb;grind
theorem aIM(hW:aR n0 G μ H w) {ow:OwA} (ho:a5V H ow) {ra:Nat} (har:H[ra]?=some (some (arB ae t A))) :
  aR (wrA w G μ ow) G (mpA μ ow A.length) (RK ow++[some (arB ae t A)]) w:=by
 have key:∀ (s:Nat) (k:Blk),(RK ow++[some (arB ae t A)])[s]?=some (some k)->(s<(RK ow).length/\∃ r,ow=some (r,k)/\s=0)\/(s=(RK ow).length/\k=arB ae t A):=by
  intro s k hs;rcases aEW (H:=RK ow) s k hs with ⟨h1,h2⟩|⟨h1,h2⟩
  ·grind
  ·left;refine⟨h1,?_⟩;cases ow with
   | none=>simp[RK]at h1
   | some p =>
    obtain⟨r,k'⟩:=p;simp only[RK,List.length_cons,List.length_nil]at h1;have:s=0:=Z
    subst this;simp only[RK,List.getElem?_cons_zero,oJ]at h2;grind
 refine⟨?_,?_,?_,hW.lt,?_,λb hb=>.inl hb,?_⟩
 ·intro s k b hs hb;rcases key s k hs with ⟨h1,r,rfl,rfl⟩|⟨h1,rfl⟩
  ·have hb:μ.loc r=some b:=by
    have:(mpA μ (some (r,k)) A.length).loc 0=μ.loc r:=rfl;grind
   obtain⟨q1,q2,q3,q4⟩:=ho.at_ r k rfl;obtain⟨c,a1,a2,a3,a4,a5⟩:=hW.blk r k b q1 hb;refine⟨c,a1,?_,a3,a4,λhf=>⟨.inr (.inl hb),(a5 hf).2⟩⟩;obtain⟨g,hg⟩:=Option.isSome_iff_exists.1 q4;rw[(hW.tags r k g q1 hg).1]at a2 ⊢;exact uQ (lL _ _) a2
  ·subst h1;simp only[mpA,Nat.lt_irrefl,if_false]at hb;cases hb
 ·intro s k g hs hg;rcases key s k hs with ⟨h1,r,rfl,rfl⟩|⟨h1,rfl⟩
  ·obtain⟨q1,_⟩:=ho.at_ r k rfl;obtain⟨a1,a2⟩:=hW.tags r k g q1 hg;exact⟨a1,a2⟩
  ·cases hg;subst h1;refine⟨rfl,?_⟩;simp only[mpA,Nat.lt_irrefl,if_false,if_true]
 ·intro s1 s2 k1 k2 b h1 h2 f1 f2 m1 m2;rcases key s1 k1 h1 with ⟨p1,r1,e1,rfl⟩|⟨p1,rfl⟩
  ·rcases key s2 k2 h2 with ⟨p2,r2,e2,rfl⟩|⟨p2,rfl⟩
   ·rfl
   ·subst p2;simp only[mpA,Nat.lt_irrefl,if_false]at m2;cases m2
  ·subst p1;simp only[mpA,Nat.lt_irrefl,if_false]at m1;cases m1
 ·intro s hs;rw[oH]at hs;simp only[List.length_cons,List.length_nil]at hs;have h1:¬ s<(RK ow).length:=Z
  have h2:¬ s=(RK ow).length:=Z
  simp only[mpA,h1,h2,if_false,and_self]
 ·refine(hW.rows.rel (λs s'=>(s<(RK ow).length/\∃ r k,ow=some (r,k)/\s'=r)\/(s=(RK ow).length/\s'=ra)) ?_ ?_).aNU λj b hj _=>.inr (.inr ⟨j,hj⟩)
  ·rintro s s2 q (⟨h1,r,k,h3,h4⟩|⟨h1,h3⟩) (⟨h2,r2,k2,h5,h6⟩|⟨h2,h5⟩)
   ·have:(RK ow).length<=1:=by rw[h3]; simp[RK]
    omega
   ·exfalso;obtain⟨q1,q2,_⟩:=ho.at_ r k h3;rw[<- h4,h5,har]at q1;cases q1;cases q2
   ·exfalso;obtain⟨q1,q2,_⟩:=ho.at_ r2 k2 h5;rw[<- h6,h3,har]at q1;cases q1;cases q2
   ·rw[h1,h2]
  ·intro s k' hs;rcases key s k' hs with ⟨h1,r,rfl,rfl⟩|⟨h1,rfl⟩
   ·exact⟨r,k',.inl ⟨h1,r,k',rfl,rfl⟩,(ho.at_ r k' rfl).1,rfl,rfl,rfl,rfl,rfl⟩
   ·refine⟨ra,_,.inr ⟨h1,rfl⟩,har,rfl,rfl,rfl,rfl,?_⟩;subst h1;simp only[mpA,Nat.lt_irrefl,if_false];exact(hW.rows.arn ra _ t A har rfl rfl).1.symm
abbrev OsA:=Option (Nat×Blk×Blk)
def a1L:OsA->Heap
 | none=>[]
 | some (_,_,k)=>[some k]
def a5Q(μ:Mp):OsA->Option Nat
 | none=>none
 | some (r,_,_)=>μ.loc r
def shS(μ:Mp):OsA->Nat
 | none=>0
 | some (r,_,_)=>μ.sh r
def a3Q:OsA->Option Nat
 | none=>none
 | some (_,_,k)=>match k.tag with
  | some g=>some g.l.length
  | none=>none
structure bB5 (H:Heap) (os:OsA):Prop where
 at_:∀ r k k',os=some (r,k,k')->H[r]?=some (some k)/\k'.grown=true/\k.frozen=false/\k'.frozen=false/\k'.ty=k.ty/\∃ g n,k'.tag=some g/\k'.cells=aK g.t g.l/\k'.cells=k.cells.take n
def pY(μ μ2:Mp) (N n:Nat) (os:OsA):Mp:=⟨λq=>if q<N then μ.loc q else if q=N+1 then a5Q μ2 os else none,λq=>if q<N then μ.len q else if q=N then some n else if q=N+1 then a3Q os else none,λq=>if q<N then μ.sh q else if q=N+1 then shS μ2 os else 0⟩
theorem aE3(hW:aR n0 G μ H w) {ow:OwA} (ho:a5V H ow) {ra:Nat} (har:H[ra]?=some (some (arB ae t A))) (ee:Ext (wrA w G μ ow) w G aJ w' G1 μ2) (hW':aR (wrA w G μ ow) G1 μ2 H' w')
  {rb:Nat} (hrb:H'[rb]?=some (some (arB ae t B))) {os:OsA} (hos:bB5 H' os) (hrow:∀ j,G2.row j=G1.row j) (h12:∀ b,G1 b->G2 b)
  (h21:∀ b,G2 b->G1 b\/∃ s k,H'[s]?=some (some k)/\k.frozen=false/\μ2.loc s=some b/\∀ r k' k2,os=some (r,k',k2)->s≠r) :
  Ext n0 w G μ w' G2 (pY μ μ2 H.length B.length os)/\aR n0 G2 (pY μ μ2 H.length B.length os) (((XJ ow H).set ra none)++(some (arB ae t B)::a1L os)) w':=by
 have hwr:=bE8 hW ho;have hblk:∀ s k b,H'[s]?=some (some k)->k.frozen=false->μ2.loc s=some b->wrA w G μ ow b:=λs k b hs hf hb=>by
  obtain⟨_,_,_,_,_,h6⟩:=hW'.blk s k b hs hb;grind
 have hG2:∀ b,G2 b->G b\/wrA w G μ ow b:=λb hb=>by
  rcases h21 b hb with h|⟨s,k,h1,h2,h3,_⟩
  ·exact ee.new b h
  ·grind
 have hlt2:Lt w' G2.ok:=hW'.lt.step (λb hb=>⟨h12 b hb,rfl⟩) λb hb=>by
  rcases h21 b hb with h|⟨s,k,h1,_,h3,_⟩
  ·exact hW'.lt b h
  ·exact hW'.sY h1 h3
 have e2:Ext n0 w G μ w' G2 (pY μ μ2 H.length B.length os):={
  good:=λb hb=>⟨h12 b (ee.good b hb).1,(ee.good b hb).2⟩
  map:=λr b hr=>by
   have:r<H.length:=by
    rcases oG r H.length with h|h
    ·exact h
    ·rw[(hW.top r h).1]at hr; cases hr
   simp only[pY,this,if_true]; exact hr
  len:=λr b hr=>by
   have:r<H.length:=by
    rcases oG r H.length with h|h
    ·exact h
    ·rw[(hW.top r h).2]at hr; cases hr
   simp only[pY,this,if_true]; exact hr
  sh:=λr b hr=>by
   have:r<H.length:=by
    rcases oG r H.length with h|h
    ·exact h
    ·rw[(hW.top r h).1]at hr; cases hr
   simp only[pY,this,if_true]
  room:=ee.room
  row:=λj b hj=>by rw[hrow]; exact ee.row j b hj
  os:=ee.os
  tape:=ee.tape
  output:=ee.output
  size:=ee.size
  old:=λb hb hn=>ee.old b hb λh=>hn (hwr b h)
  new:=λb hb=>(hG2 b hb).imp id (hwr b) }
 have hlen:((XJ ow H).set ra none).length=H.length:=by rw[List.length_set,aWK]
 have key:∀ (s:Nat) (k:Blk),(((XJ ow H).set ra none)++(some (arB ae t B)::a1L os))[s]?=some (some k) ->
   (s<H.length/\s≠ra/\H[s]?=some (some k)/\∀ r k',ow=some (r,k')->s≠r)\/(s=H.length/\k=arB ae t B)\/(s=H.length+1/\∃ r k0,os=some (r,k0,k)):=by
  intro s k hs;rcases oG s H.length with hl|hl
  ·rw[List.getElem?_append_left (by rw[hlen]; exact hl)]at hs;obtain⟨h1,h2⟩:=uV hs;obtain⟨h3,h4⟩:=a6X h1;exact .inl ⟨hl,h2,h3,h4⟩
  ·rw[List.getElem?_append_right (by rw[hlen]; exact hl),hlen]at hs;rcases Nat.eq_zero_or_pos (s-H.length)with h0|h0
   ·rw[h0]at hs;simp only[List.getElem?_cons_zero,oJ]at hs;exact .inr (.inl ⟨by omega,hs.symm⟩)
   ·obtain⟨m,hm⟩:∃ m,s-H.length=m+1:=⟨s-H.length-1,by omega⟩;rw[hm,List.getElem?_cons_succ]at hs;cases os with
    | none=>simp[a1L]at hs
    | some p =>
     obtain⟨r,k0,k'⟩:=p;cases m with
     | zero =>
      simp only[a1L,List.getElem?_cons_zero,oJ]at hs;subst hs;exact .inr (.inr ⟨by omega,r,k0,rfl⟩)
     | succ m=>simp[a1L]at hs
 have l0:∀ s,s<H.length->(pY μ μ2 H.length B.length os).loc s=μ.loc s/\(pY μ μ2 H.length B.length os).len s=μ.len s/\(pY μ μ2 H.length B.length os).sh s=μ.sh s:=λs hs=>by simp[pY,hs]
 have l1:(pY μ μ2 H.length B.length os).loc H.length=none/\(pY μ μ2 H.length B.length os).len H.length=some B.length:=by simp[pY]
 have l2:(pY μ μ2 H.length B.length os).loc (H.length+1)=a5Q μ2 os/\(pY μ μ2 H.length B.length os).len (H.length+1)=a3Q os:=by
  have h1:¬ H.length+1<H.length:=Z
  have h2:¬ H.length+1=H.length:=Z
  simp only[pY,h1,h2,if_false,if_true,and_self]
 have l3:(pY μ μ2 H.length B.length os).sh (H.length+1)=shS μ2 os:=by
  have h1:¬ H.length+1<H.length:=Z
  simp only[pY,h1,if_false,if_true]
 have hold:∀ s k b,H[s]?=some (some k)->(∀ r k',ow=some (r,k')->s≠r)->μ.loc s=some b->w'.heap[b]?=w.heap[b]?/\¬ wrA w G μ ow b:=λs k b h1 h2 h3=>by
  have h4:=a6T hW ho h1 h2 h3;exact⟨ee.old b (hW.sY h1 h3) h4,h4⟩
 refine⟨e2,?_,?_,?_,hlt2,?_,λb hb=>hW.base b (oR ee.size hb),?_⟩
 ·intro s k b hs hb;rcases key s k hs with ⟨h1,h2,h3,h4⟩|⟨h1,rfl⟩|⟨h1,r,k0,h2⟩
  ·rw[(l0 s h1).1]at hb;obtain⟨c,a1,a2,a3,a4,a5⟩:=hW.blk s k b h3 hb;obtain⟨g1,g2⟩:=hold s k b h3 h4 hb;rw[(l0 s h1).2.2];refine⟨c,g1.trans a1,aM.mono e2.toMono g1 _ _ a2,a3,λhf=>h12 b (ee.good b (a4 hf)).1,λhf=>⟨(a5 hf).1,λhg=>?_⟩⟩;rcases hG2 b hg with h|h
   ·exact(a5 hf).2 h
   ·exact g2 h
  ·subst h1;rw[l1.1]at hb; cases hb
  ·subst h1; subst h2;rw[l2.1]at hb;obtain⟨q1,q2,q3,q4,q5,g,nc,q6,q7,q8⟩:=hos.at_ r k0 k rfl;obtain⟨c,a1,a2,a3,a4,a5⟩:=hW'.blk r k0 b q1 hb;rw[l3];refine⟨c,by rw[q5]; exact a1,?_,(λhf=>by rw[q2]at hf; cases hf),(λhf=>by rw[q4]at hf; cases hf),λhf=>⟨hwr b (a5 q3).1,λhg=>?_⟩⟩
   ·replace a2:=a2.take nc;rw[<- q8,q7]at a2;rw[q7];obtain⟨us,u1,u2⟩:=a2.values;have m12:Mono w' G1 aJ w' G2 (pY μ μ2 H.length B.length (some (r,k0,k))):=⟨λb hb=>⟨h12 b hb,rfl⟩,λ_ _ h=>(by cases h),λ_ _ h=>(by cases h),λ_ _ h=>h,λj b hj=>by rw[hrow]; exact hj,λ_ _ h=>(by cases h)⟩;exact aM.qV (VRs.mono m12 _ _ (dK _ _ (lL _ _) u1)) u2
   ·rcases h21 b hg with h|⟨s2,k2,z1,z2,z3,z4⟩
    ·exact(a5 q3).2 h
    ·exact z4 r k0 k rfl (hW'.inj s2 r k2 k0 b z1 q1 z2 q3 z3 hb)
 ·intro s k g hs hg;rcases key s k hs with ⟨h1,h2,h3,h4⟩|⟨h1,rfl⟩|⟨h1,r,k0,h2⟩
  ·rw[(l0 s h1).2.1];exact hW.tags s k g h3 hg
  ·cases hg;subst h1;exact⟨rfl,l1.2⟩
  ·subst h1; subst h2;rw[l2.2];obtain⟨_,_,_,_,_,g',_,q6,q7,_⟩:=hos.at_ r k0 k rfl;rw[hg]at q6;cases q6;exact⟨q7,by simp only[a3Q,hg]⟩
 ·intro s1 s2 k1 k2 b h1 h2 f1 f2 m1 m2;rcases key s1 k1 h1 with ⟨p1,p2,p3,p4⟩|⟨p1,rfl⟩|⟨p1,r,k0,p2⟩
  ·rw[(l0 s1 p1).1]at m1;rcases key s2 k2 h2 with ⟨q1,q2,q3,q4⟩|⟨q1,rfl⟩|⟨q1,r2,k02,q2⟩
   ·rw[(l0 s2 q1).1]at m2;exact hW.inj s1 s2 k1 k2 b p3 q3 f1 f2 m1 m2
   ·subst q1; rw[l1.1]at m2; cases m2
   ·subst q1; subst q2;rw[l2.1]at m2;exact absurd (hblk r2 k02 b (hos.at_ r2 k02 k2 rfl).1 (hos.at_ r2 k02 k2 rfl).2.2.1 m2) (hold s1 k1 b p3 p4 m1).2
  ·subst p1; rw[l1.1]at m1; cases m1
  ·subst p1; subst p2;rw[l2.1]at m1;rcases key s2 k2 h2 with ⟨q1,q2,q3,q4⟩|⟨q1,rfl⟩|⟨q1,r2,k02,q2⟩
   ·rw[(l0 s2 q1).1]at m2;exact absurd (hblk r k0 b (hos.at_ r k0 k1 rfl).1 (hos.at_ r k0 k1 rfl).2.2.1 m1) (hold s2 k2 b q3 q4 m2).2
   ·subst q1; rw[l1.1]at m2; cases m2
   ·exact q1.symm
 ·intro s hs;rw[oH,hlen,List.length_cons]at hs;have h1:¬ s<H.length:=Z
  have h2:¬ s=H.length:=Z
  by_cases h3:s=H.length+1
  ·cases os with
   | none=>rw[h3]; exact l2
   | some p =>
    obtain⟨r,k0,k1⟩:=p;simp only[a1L,List.length_cons,List.length_nil]at hs;omega
  ·simp[pY,h1,h2,h3]
 ·have hr':=hW'.rows;refine⟨λi j b h1 h2=>hr'.inj i j b (by rw[<- hrow]; exact h1) (by rw[<- hrow]; exact h2),?_,?_,?_,?_⟩
  ·intro j b hj;rw[hrow]at hj;obtain⟨a1,a2,a3,a4⟩:=hr'.sep j b hj;refine⟨a1,hwr b a2,λhg=>?_,λs k hs hf hl=>?_⟩
   ·rcases h21 b hg with h|⟨s,k,z1,z2,z3,_⟩
    ·exact a3 h
    ·exact a4 s k z1 z2 z3
   ·rcases key s k hs with ⟨p1,p2,p3,p4⟩|⟨p1,rfl⟩|⟨p1,r,k0,p2⟩
    ·rw[(l0 s p1).1]at hl;exact(hold s k b p3 p4 hl).2 a2
    ·subst p1; rw[l1.1]at hl; cases hl
    ·subst p1; subst p2;rw[l2.1]at hl;exact a4 r k0 (hos.at_ r k0 k rfl).1 (hos.at_ r k0 k rfl).2.2.1 hl
  ·intro j b hj;rw[hrow]at hj;exact hr'.cel j b hj
  ·intro s k t1 l1' hs hg ht;rcases key s k hs with ⟨p1,p2,p3,p4⟩|⟨p1,rfl⟩|⟨p1,r,k0,p2⟩
   ·exact absurd (hW.rows.one s ra k _ t1 l1' t A p3 hg ht har rfl rfl) p2
   ·cases ht;subst p1;obtain⟨_,a2,a3⟩:=hr'.arn rb _ t B hrb rfl rfl;refine⟨l1.1,λj hj=>by rw[hrow]; exact a2 j hj,λj row hj=>?_⟩;rcases a3 j row hj with h|⟨b,z1,z2⟩
    ·exact .inl h
    ·have m12:Mono w' G1 aJ w' G2 aJ:=⟨λb hb=>⟨h12 b hb,rfl⟩,λ_ _ h=>h,λ_ _ h=>h,λ_ _ h=>h,λj b hj=>by rw[hrow]; exact hj,λ_ _ _=>rfl⟩;exact .inr ⟨b,by rw[hrow]; exact z1,z2.mono m12 rfl⟩
   ·subst p2;rw[(hos.at_ r k0 k rfl).2.1]at hg; cases hg
  ·have only:∀ (s:Nat) (k:Blk) (t1:Ty) (l1':List (List t1.den)),(((XJ ow H).set ra none)++(some (arB ae t B)::a1L os))[s]?=some (some k)->k.grown=false->k.tag=some ⟨.rows t1,l1'⟩->s=H.length:=by
    intro s k t1 l1' hs hg ht;rcases key s k hs with ⟨p1,p2,p3,p4⟩|⟨p1,_⟩|⟨p1,r,k0,p2⟩
    ·exact absurd (hW.rows.one s ra k _ t1 l1' t A p3 hg ht har rfl rfl) p2
    ·exact p1
    ·subst p2;rw[(hos.at_ r k0 k rfl).2.1]at hg; cases hg
   intro r s k k' t1 l1' t2 l2' h1 g1 t1' h2 g2 t2';rw[only r k t1 l1' h1 g1 t1',only s k' t2 l2' h2 g2 t2']
end
theorem aKQ:∀ ts x,eX.noRefs (aCR ts x)=true
 | [],_=>rfl
 | t::r,(x,xs)=>by simp only[aCR,eX.noRefs,eX,aKQ r xs,Bool.and_self]
theorem aZR:∀ k x r,aI1 (k::r)=true->eX (GH k x 0)=true/\aI1 r=true
 | .int _,_,_,h=>⟨rfl,h⟩
 | .bool,_,_,h=>⟨rfl,h⟩
 | .str,_,_,h=>⟨rfl,h⟩
 | .list _,_,_,h=>⟨rfl,h⟩
 | .agg t,x,_,h=>⟨UN t x,h⟩
 | .own _ _,_,_,h=>by cases h
 | .box _ _,_,_,h=>by cases h
 | .win _ _,_,_,h=>by cases h
 | .bown _ _ _,_,_,h=>by cases h
 | .bque _ _ _,_,_,h=>by cases h
 | .bag _ _ _ _ _,_,_,h=>by cases h
 | .bag2 _ _ _ _ _ _,_,_,h=>by simp only[aI1]at h; grind
 | .ar _ _,_,_,h=>by cases h
 | .hnd _,_,_,h=>⟨rfl,h⟩
 | .mpk _,_,_,h=>⟨rfl,h⟩
 | .ptr t,x,_,h=>⟨rfl,h⟩
 | .fn _,_,_,h=>⟨rfl,h⟩
 | .nil0,_,_,h=>⟨rfl,h⟩
 | .val,_,_,h=>⟨rfl,h⟩
 | .nilI,_,_,h=>⟨rfl,h⟩
 | .clo _ ts,x,_,h=>⟨by simp only[GH,eX,eX.noRefs,aKQ ts x,Bool.and_self],h⟩
theorem TS:∀ l x,aI1 l=true->eX.noRefs (r9 l x)=true
 | [],_,_=>rfl
 | k::r,(x,xs),h=>by
  obtain⟨h1,h2⟩:=aZR k x r h;simp only[r9,eX.noRefs,h1,TS r xs h2,Bool.and_self]
inductive Tk where
 | none
 | own (e:TypeId) (t:Ty)
@[reducible] def Tk.den:Tk->Type
 | .none=>Unit
 | .own _ t=>List t.den
def Tk.pv:Tk->Nat->List PV
 | .none,_=>[]
 | .own _ t,r=>[.own r t.size]
def Tk.ow:(k:Tk)->k.den->Nat->OwA
 | .none,_,_=>Option.none
 | .own e t,l,r=>some (r,owB e t l)
inductive An where
 | data (l:List Kd)
 | own (e:TypeId) (t:Ty)
 | str (t1:Ty) (e:TypeId) (t:Ty) (t2:Ty)
@[reducible] def An.den:An->Type
 | .data l=>aH l
 | .own _ t=>List t.den
 | .str t1 _ t t2=>t1.den×List t.den×t2.den
def An.pv:(a:An)->a.den->Nat->PV
 | .data l,y,_=>aSX l y
 | .own _ t,_,n=>.own n t.size
 | .str t1 _ t t2,y,n=>.tuple [.agg (enc t1 y.1++.own n t.size::enc t2 y.2.2),.lit (.bool true)]
def An.hp:(a:An)->a.den->Heap
 | .data _,_=>[]
 | .own e t,l=>[some (owB e t l)]
 | .str _ e t _,y=>[some (owB e t y.2.1)]
def MT(P:Program) (g:FuncId) (ae:TypeId) (t:Ty) (tk:Tk) (args:List Kd) (an:An) (f:tk.den->aH args->List (List t.den)->Option (an.den×List (List t.den))):Prop :=
 ∀ l x A y B,f l x A=some (y,B)->∀ {n0 G μ H w us ra r},aR n0 G μ H w->H[ra]?=some (some (arB ae t A))->a5V H (tk.ow l r)->VRs w G μ (tk.pv r++r9 args x) us ->
  FL P n0 w G μ g us.toArray (an.pv y (H.length+1)) (((XJ (tk.ow l r) H).set ra none)++(some (arB ae t B)::an.hp y))
def a6Y(ae:TypeId) (t:Ty) (H:Heap):Option (Nat×List (List t.den)):=match aFP 0 H with
 | some (r,k)=>match k.tag with
  | some g=>match JW g.t (.rows t) g.l with
   | some l=>bif Nat.beq k.ty ae&&!k.frozen then some (r,l) else none
   | none=>none
  | none=>none
 | none=>none
def bFG(e:TypeId)(t:Ty)(H:Heap):PV->Option (List t.den)
 | .own r sz=>IL e t (.own r sz) H r
 | .win r lo n sz=>bif Nat.beq lo 0 then match IL e t (.own r sz) H r with
  | some l=>some (l.take n)
  | none=>none
  else none
 | _=>none
def bFF(t1:Ty) (e:TypeId) (t:Ty) (t2:Ty) (H:Heap):PV->Option (t1.den×List t.den×t2.den)
 | .tuple [.agg cs,.lit (.bool true)]=>match cs.drop t1.size with
  | .own r sz::rest=>match IL e t (.own r sz) H r with
   | some l=>match inl false (H.set r none) depth (.agg (cs.take t1.size++rest))with
    | some (.agg ds)=>match dec (.prod t1 t2) ds with
     | some x=>some (x.1,l,x.2)
     | none=>none
    | _=>none
   | none=>none
  | _=>none
 | _=>none
def aW3:(an:An)->PV->Heap->Option an.den
 | .data l,q,H=>match inl false H depth q with
  | some q'=>aYW l q'
  | none=>none
 | .own e t,q,H=>bFG e t H q
 | .str t1 e t t2,q,H=>bFF t1 e t t2 H q
def bCO(P:Program)(rs:List ResultVar)(ae:TypeId)(t:Ty)(an:An)(ex:Ex)(F:Frm)(H:Heap):Option (an.den×List (List t.den)):=match ex with
 | .exit _=>none
 | _=>match A7 P F H rs with
  | some vs=>match a6Y ae t H with
   | some B=>match aW3 an (qP vs) H with
    | some y=>some (y,B.2)
    | none=>none
   | none=>none
  | none=>none
def HR(P:Program)(E:Env)(fn:Func)(bZ:Nat)(lt:Nat->Option dN)(c:Code)(ae:TypeId)(t:Ty)(tk:Tk) args (an:An)(l:tk.den)(x:aH args)(A:List (List t.den)):Option (an.den×List (List t.den)) :=
 bif Nat.ble (tk.pv 0++r9 args x).length fn.ntmps then KW P E fn.ntmps bZ lt c (start bZ 0 (tk.pv 0++r9 args x)) (RK (tk.ow l 0)++[some (arB ae t A)]) (bCO P fn.results.toList ae t an) else none
section
variable {P:Program} {n0:Nat->Prop} {w w':World} {G G1 G2:Gd} {μ μ2:Mp} {H H':Heap} {ae:TypeId} {t:Ty} {A B:List (List t.den)}
theorem aHY(hW:aR n0 G μ H w){p}(h:a6Y ae t H=some p):H[p.1]?=some (some (arB ae t p.2)):=by
 unfold a6Y at h;split at h
 next r k hk=>
  obtain⟨h1,h2⟩:=aEB hk;split at h
  next g hg=>
   split at h
   next l hc=>obtain⟨hb,h⟩:=aI h;simp only[oA]at hb;simp only[oJ]at h;subst h;have hb3:=oE hb.1;have ht:=(hW.tags r k g h1 hg).1;have hge:=aZQ hc;obtain⟨k1,k2,k3,k4,k5⟩:=k;grind
   grind
  grind
 grind
theorem aRT(hW:aR n0 G μ H w) {e:TypeId} {u:Ty} {p:PV} {l:List u.den} {v:Value} (h:bFG e u H p=some l) (hv:VR w G μ p v) :
  ∃ r l0,bB5 H (some (r,owB e u l0,owB e u l))/\∀ G2 μ3 n,μ3.loc n=μ.loc r->μ3.len n=some l.length->μ3.sh n=μ.sh r->VR w G2 μ3 (.own n u.size) v:=by
 have key:∀ (l0:List u.den) (r m:Nat),H[r]?=some (some (owB e u l0))->bB5 H (some (r,owB e u l0,owB e u (l0.take m))):=λl0 r m h0=>⟨λr' k k' he=>by
  cases he;exact⟨h0,rfl,rfl,rfl,rfl,⟨u,l0.take m⟩,m*u.size,rfl,rfl,(rA u m l0).symm⟩⟩
 unfold bFG at h;split at h
 next r sz=>obtain⟨h1,h2⟩:=qH hW h;cases h1;refine⟨r,l,by have:=key l r l.length h2; rwa[List.take_length]at this,λG2 μ3 n q1 q2 q3=>?_⟩;obtain⟨m,a1,a2⟩:=hv;have:=(hW.tags r _ _ h2 rfl).2;rw[this]at a1;cases a1;refine⟨_,q2,?_⟩;grind
 next r lo n sz=>
  obtain⟨hb,h⟩:=aI h;have hb:=oE hb;subst hb;split at h
  next l0 hl0=>obtain rfl:=oB h;obtain⟨h1,h2⟩:=qH hW hl0;cases h1;refine⟨r,l0,key l0 r n h2,λG2 μ3 m q1 q2 q3=>?_⟩;obtain⟨b,c,m',a1,a2,a3,a4,a5,a6,a7⟩:=hv;have:=(hW.tags r _ _ h2 rfl).2;rw[this]at a5;cases a5;refine⟨n,by rw[q2,List.length_take]; change 0+n<=l0.length at a6; congr 1; omega,.inr ⟨b,c,by rw[q1]; exact a1,by rw[a2,q3,Nat.zero_mul]; rfl,a3,?_,by rw[q3]; exact a7.2⟩⟩;grind
  ·cases h
 ·cases h
theorem aO1(hW:aR n0 G μ H w) {t1 t2 u:Ty} {e:TypeId} {q:PV} {y:t1.den×List u.den×t2.den} {v:Value} (h:bFF t1 e u t2 H q=some y) (hv:VR w G μ q v) :
  ∃ r,bB5 H (some (r,owB e u y.2.1,owB e u y.2.1))/\∀ G2:Gd,(∀ j b,G.row j=some b->G2.row j=some b)->(∀ b,G b->G2 b)->(∀ s k b,H[s]?=some (some k)->k.frozen=false->s≠r->μ.loc s=some b->G2 b) ->
   ∀ μ3 n,μ3.loc n=μ.loc r->μ3.len n=some y.2.1.length->μ3.sh n=μ.sh r->VR w G2 μ3 ((An.str t1 e u t2).pv y n) v:=by
 unfold bFF at h;split at h
 next cs=>
  split at h
  next r sz rest hd=>
   split at h
   ·rename_i l hl;split at h
    ·rename_i ds hds;split at h
     ·rename_i x hx;obtain rfl:=oB h;obtain⟨h1,h2⟩:=qH hW hl;cases h1;refine⟨r,⟨λr' k k' he=>by
       cases he;exact⟨h2,rfl,rfl,rfl,rfl,⟨u,l⟩,l.length*u.size,rfl,rfl,by have:=(rA u l.length l).symm; rwa[List.take_length]at this⟩⟩,λG2 hR hG hB μ3 n q1 q2 q3=>?_⟩
      show VR w G2 μ3 (.tuple [.agg (enc t1 x.1++.own n u.size::enc t2 x.2),.lit (.bool true)]) v;rw[VR]at hv ⊢;obtain⟨vs,e1,e2⟩:=hv;refine⟨vs,e1,?_⟩;rw[VRs]at e2 ⊢;obtain⟨v1,vs1,g1,g2,g3⟩:=e2;refine⟨v1,vs1,g1,?_,?_⟩
      ·rw[VR]at g2 ⊢;obtain⟨us,f1,f2⟩:=g2;refine⟨us,f1,?_⟩;have p1:=f2.take t1.size;have p2:=f2.drop t1.size;rw[hd,VRs]at p2;obtain⟨vo,vr,k1,k2,k3⟩:=p2;have hag:VR w G μ (.agg (cs.take t1.size++rest)) (.agg (us.toList.take t1.size++vr).toArray):=by
        rw[VR];exact⟨_,rfl,by simpa using VRs.append p1 k3⟩
       have hq:=L9 (tY hW r) hR hG (λs k1 b hs _ hb=>by
        obtain⟨hs,hne⟩:=uV hs;cases hf:k1.frozen with
        | true =>
         obtain⟨_,_,_,_,g5,_⟩:=hW.blk s k1 b hs hb;exact hG b (g5 hf)
        | false=>exact hB s k1 b hs hf hne hb) depth _ _ _ hds hag
       rw[VR]at hq;obtain⟨us2,f3,f4⟩:=hq;obtain rfl:(us.toList.take t1.size++vr).toArray=us2:=by injection f3
       have p3:=AF (.prod t1 t2) _ ds x _ hx f4;rw[show enc (.prod t1 t2) x=enc t1 x.1++enc t2 x.2 from rfl]at p3;have hlen:(us.toList.take t1.size).length=t1.size:=by
        have a1:=f2.length;have a2:=oZ List.length hd;simp only[List.length_drop,List.length_cons]at a2;rw[List.length_take];omega
       have p4:=p3.take t1.size;have p5:=p3.drop t1.size;rw[List.take_left' (tW t1 x.1),List.take_left' hlen]at p4;rw[List.drop_left' (tW t1 x.1),List.drop_left' hlen]at p5;rw[<- List.take_append_drop t1.size us.toList,k1];refine VRs.append p4.aW ?_;rw[VRs];refine⟨vo,vr,rfl,?_,p5.aW⟩;obtain⟨m,a1,a2⟩:=k2;have:=(hW.tags r _ _ h2 rfl).2;rw[this]at a1;cases a1;refine⟨_,q2,?_⟩;grind
      ·rw[VRs]at g3 ⊢;obtain⟨b,bs,f1,f2,f3⟩:=g3;rw[VR]at f2;rw[VRs]at f3;exact⟨b,bs,f1,by rw[VR]; exact f2,by rw[VRs]; exact f3⟩
     ·cases h
    ·cases h
   ·cases h
  ·cases h
 ·cases h
theorem a6A {α:Type 1}{b x}{y:α}(h:(bif b then x else none)=some y):b=true/\x=some y:=zf
theorem zZ {E:Env} (hP:UM P) (hE:gD P E) {g:Nat} {fn:Func} (hg:P.funcs[g]?=some fn) {c:Code} (hc:fn.body=some c) {bZ:Nat} {lt:Nat->Option dN} {ae:TypeId} {t:Ty} {tk:Tk} {args:List Kd} {an:An} {f:tk.den->aH args->List (List t.den)->Option (an.den×List (List t.den))}
  (hd:aI1 args=true) (hl:∀ a∈bG c,∀ s,lt (b8 a)=some s->eT P fn.ntmps a s) (hb:∀ l x A,HR P E fn bZ lt c ae t tk args an l x A=f l x A):MT P g ae t tk args an f:=by
 intro l x A y B hy n0 G μ H w us ra r hW har ho hv;rw[<- hb]at hy;obtain⟨hlen,hy⟩:=aI hy;obtain⟨⟨ex,F',H'⟩,h1,h2⟩:=sW hE.callee hP.mixed c _ _ _ _ hl hy;obtain⟨vs,B',hex,hvs,hB,hq,rfl⟩:∃ vs B',(ex=.normal\/ex=.ret)/\A7 P F' H' fn.results.toList=some vs/\a6Y ae t H'=some B'/\aW3 an (qP vs) H'=some y/\B'.2=B:=by
  unfold bCO at h1;split at h1
  ·cases h1
  next hne=>
   split at h1
   ·rename_i vs hvs;split at h1
    ·rename_i B' hB;split at h1
     ·rename_i y' hy';simp only[oJ,oP]at h1;obtain⟨rfl,h1⟩:=h1;refine⟨vs,B',?_,hvs,hB,hy',h1⟩;cases ex with
      | normal=>exact .inl rfl
      | ret=>exact .inr rfl
      | exit i=>exact absurd rfl (hne i)
     ·cases h1
    ·cases h1
   ·cases h1
 have hargs:VRs w G (mpA μ (tk.ow l r) A.length) (tk.pv 0++r9 args x) us:=by
  have hn:=TS args x hd;cases tk with
  | none=>exact VRs.aW (dK _ _ hn hv)
  | own e u =>
   change VRs w G μ (.own r u.size::r9 args x) us at hv;change VRs w G _ (.own 0 u.size::r9 args x) us;rw[VRs]at hv ⊢;obtain⟨v,us',rfl,q1,q2⟩:=hv;refine⟨v,us',rfl,?_,VRs.aW (dK _ _ hn q2)⟩;rw[VR]at q1 ⊢;exact q1
 have howb:RK (tk.ow l 0)=RK (tk.ow l r):=by cases tk <;> rfl
 have hW1:=aIM hW ho har;rw[<- howb]at hW1;have e0:Ext (wrA w G μ (tk.ow l r)) w G aJ w G (mpA μ (tk.ow l r) A.length) :=
  ⟨⟨λb hb=>⟨hb,rfl⟩,λ_ _ h=>(by cases h),λ_ _ h=>(by cases h),λ_ _ h=>h,λ_ _ h=>h,λ_ _ h=>(by cases h)⟩,rfl,rfl,rfl,oM _,λ_ _ _=>rfl,λ_ h=>.inl h⟩
 refine⟨enters hg (hP.names g fn hg) (by rw[hc]; rfl) _ _,calls_of_wp hg hc ?_⟩;have hI:I (wrA w G μ (tk.ow l r)) w G aJ fn.ntmps (start bZ 0 (tk.pv 0++r9 args x)) (RK (tk.ow l 0)++[some (arB ae t A)]) ⟨us.toArray++Array.replicate (fn.ntmps-us.toArray.size) undef,[]⟩ w :=
  ⟨G,_,e0,hW1,HV (by simpa using hargs) (oL hlen)⟩
 refine wp_mono (h2 _ w G aJ _ w (λr=>⟨rfl,rfl⟩) hI) ?_;rintro e1 a' w' ⟨rfl,G1,μ1,ee,hW',hF'⟩;obtain⟨ws,h3,h4⟩:=yJ (P:=P) hW' hF' hvs;have hres:(results fn a'.tmps).run P w'=.ok (if hh:ws.toArray.size=1 then ws.toArray[0] else .tuple ws.toArray) w':=by
  rw[LV,Array.mapM_eq_mapM_toList];simp only[Sem.run_bind,Sem.run_map,h3,Result.andThen_ok,Sem.run_pure]
 have hrb:=aHY hW' hB;obtain⟨G2,μ3,b1,b2,b3⟩:∃ G2 μ3,Ext n0 w G μ w' G2 μ3/\aR n0 G2 μ3 (((XJ (tk.ow l r) H).set ra none)++(some (arB ae t B'.2)::an.hp y)) w'/\VR w' G2 μ3 (an.pv y (H.length+1)) (if hh:ws.toArray.size=1 then ws.toArray[0] else .tuple ws.toArray):=by
  have hvr:=BA h4;cases an with
  | data rets =>
   simp only[aW3]at hq;split at hq
   ·rename_i q hq';have hb:=aE3 (G2:=⟨λb=>G1 b\/∃ s k,H'[s]?=some (some k)/\k.frozen=false/\μ1.loc s=some b,G1.row⟩) hW ho har ee hW' hrb (os:=none) ⟨λ_ _ _ h=>by cases h⟩ (λ_=>rfl) (λb hb=>.inl hb) (λb hb=>by
     rcases hb with h|⟨s,k,z1,z2,z3⟩
     ·exact .inl h
     ·exact .inr ⟨s,k,z1,z2,z3,λ_ _ _ h=>by cases h⟩)
    refine⟨_,_,hb.1,hb.2,?_⟩;have:=L9 (G':=⟨λb=>G1 b\/∃ s k,H'[s]?=some (some k)/\k.frozen=false/\μ1.loc s=some b,G1.row⟩) hW' (λ_ _ h=>h) (λb hb=>.inl hb) (λs k1 b hs _ hb=>by
     obtain⟨_,_,_,_,g5,_⟩:=hW'.blk s k1 b hs hb;cases hf:k1.frozen with
     | true=>exact .inl (g5 hf)
     | false=>exact .inr ⟨s,k1,hs,hf,hb⟩) depth _ q _ hq' hvr
    exact(aE5 hq this).aW
   ·cases hq
  | own e u =>
   simp only[aW3]at hq;obtain⟨r1,l0,hos,hvv⟩:=aRT hW' hq hvr;have hb:=aE3 (G2:=G1) hW ho har ee hW' hrb hos (λ_=>rfl) (λb hb=>hb) (λb hb=>.inl hb);refine⟨_,_,hb.1,hb.2,hvv _ _ _ ?_ ?_ ?_⟩
   ·have h1:¬ H.length+1<H.length:=Z
    simp[pY,h1,a5Q]
   ·have h1:¬ H.length+1<H.length:=Z
    simp[pY,h1,a3Q]
   ·have h1:¬ H.length+1<H.length:=Z
    simp[pY,h1,shS]
  | str t1 e u t2 =>
   simp only[aW3]at hq;obtain⟨r1,hos,hvv⟩:=aO1 hW' hq hvr;have hb:=aE3 (G2:=⟨λb=>G1 b\/∃ s k,H'[s]?=some (some k)/\k.frozen=false/\μ1.loc s=some b/\s≠r1,G1.row⟩) hW ho har ee hW' hrb hos (λ_=>rfl) (λb hb=>.inl hb) (λb hb=>by
    rcases hb with h|⟨s,k,z1,z2,z3,z4⟩
    ·exact .inl h
    ·exact .inr ⟨s,k,z1,z2,z3,λ_ _ _ h=>by cases h; exact z4⟩)
   refine⟨_,_,hb.1,hb.2,hvv ⟨λb=>G1 b\/∃ s k,H'[s]?=some (some k)/\k.frozen=false/\μ1.loc s=some b/\s≠r1,G1.row⟩ (λ_ _ h=>h) (λb hb=>.inl hb) (λs k b z1 z2 z3 z4=>.inr ⟨s,k,z1,z2,z4,z3⟩) _ _ ?_ ?_ ?_⟩
   ·have h1:¬ H.length+1<H.length:=Z
    simp[pY,h1,a5Q]
   ·have h1:¬ H.length+1<H.length:=Z
    simp[pY,h1,a3Q]
   ·have h1:¬ H.length+1<H.length:=Z
    simp[pY,h1,shS]
 have hpost:a'.defers=[]/\∃ v,(results fn a'.tmps).run P w'=.ok v w'/\(∃ v' G'' μ'',Ending.returned v=.returned v'/\Ext n0 w G μ w' G'' μ''/\aR n0 G'' μ'' (((XJ (tk.ow l r) H).set ra none)++(some (arB ae t B'.2)::an.hp y)) w'/\VR w' G'' μ'' (an.pv y (H.length+1)) v') :=
  ⟨hF'.defers,_,hres,_,G2,μ3,rfl,b1,b2,b3⟩
 rcases hex with rfl|rfl
 ·exact hpost
 ·exact hpost
def aGE(P:Program) (E:Env) (fn:Func) (bZ:Nat) (lt:Nat->Option dN) (c:Code) (ae:TypeId) (t:Ty) (args rets:List Kd) (x:aH args):Option (aH rets) :=
 bif Nat.ble (r9 args x).length fn.ntmps then KW P E fn.ntmps bZ lt c (start bZ 0 (r9 args x)) [some (arB ae t [])] (a0I P fn.results.toList rets) else none
theorem aKC {E} (hP:UM P) (hE:gD P E) {g:Nat} {fn} (hg:P.funcs[g]?=some fn) {c} (hc:fn.body=some c) {bZ lt ae t args rets f}
  (hl:∀ a∈bG c,∀ s,lt (b8 a)=some s->eT P fn.ntmps a s) (hb:∀ x,aGE P E fn bZ lt c ae t args rets x=f x):aCL P g args rets f:=by
 intro x y hy;rw[<- hb]at hy;obtain⟨hlen,hy⟩:=aI hy;obtain⟨⟨ex,F',H'⟩,h1,h2⟩:=sW hE.callee hP.mixed c _ _ _ _ hl hy;obtain⟨vs,q,hex,hvs,hq,hd⟩:∃ vs q,(ex=.normal\/ex=.ret)/\A7 P F' H' fn.results.toList=some vs/\a1W H' (qP vs)=some q/\aYW rets q=some y:=by
  unfold a0I at h1;split at h1
  ·cases h1
  next hne=>
   split at h1
   ·rename_i vs hvs;split at h1
    ·rename_i q hq;refine⟨vs,q,?_,hvs,hq,h1⟩;cases ex with
     | normal=>exact .inl rfl
     | ret=>exact .inr rfl
     | exit i=>exact absurd rfl (hne i)
    ·cases h1
   ·cases h1
 obtain⟨hq1,hq2⟩:=UA hq;intro w G us hlt hv;have at0:∀ (s:Nat) (k1:Blk),([some (arB ae t [])]:Heap)[s]?=some (some k1)->s=0/\k1=arB ae t []:=zf
 have hW:aR (DU w) (Gd.of G) ⟨λ_=>none,λr=>if r=0 then some 0 else none,λ_=>0⟩ [some (arB ae t [])] w:=by
  refine⟨(λr k b h hb=>by cases hb),(λr k g h hg=>?_),(λr s k l b h _ _ _ hb=>by cases hb),hlt,(λr hr=>⟨rfl,?_⟩),λ_ h=>h,⟨(λ_ _ _ h=>by cases h),(λ_ _ h=>by cases h),(λ_ _ h=>by cases h),(λr k u l h hgr ht=>?_),(λr s k k' u l u' l' h1 g1 t1 h2 g2 t2=>by rw[(at0 r k h1).1,(at0 s k' h2).1])⟩⟩
  ·obtain⟨rfl,rfl⟩:=at0 r k h;cases hg;grind
  ·grind
  ·obtain⟨rfl,rfl⟩:=at0 r k h;cases ht;exact⟨rfl,λ_ _=>rfl,λj row hj=>by simp at hj⟩
 have e0:Ext (DU w) w (Gd.of G) aJ w (Gd.of G) ⟨λ_=>none,λr=>if r=0 then some 0 else none,λ_=>0⟩ :=
  ⟨⟨λb hb=>⟨hb,rfl⟩,λ_ _ h=>(by cases h),λ_ _ h=>(by cases h),λ_ _ h=>h,λ_ _ h=>h,λ_ _ h=>(by cases h)⟩,rfl,rfl,rfl,oM _,λ_ _ _=>rfl,λ_ h=>.inl h⟩
 refine⟨enters hg (hP.names g fn hg) (by rw[hc]; rfl) _ _,calls_of_wp hg hc ?_⟩;have hI:I (DU w) w (Gd.of G) aJ fn.ntmps (start bZ 0 (r9 args x)) [some (arB ae t [])] ⟨us++Array.replicate (fn.ntmps-us.size) undef,[]⟩ w:=⟨Gd.of G,_,e0,hW,HV hv.aW (oL hlen)⟩;refine wp_mono (h2 _ w (Gd.of G) aJ _ w (λr=>⟨rfl,rfl⟩) hI) ?_;rintro e a' w' ⟨rfl,G1,μ1,e1,e2,hF'⟩;obtain⟨ws,h3,h4⟩:=yJ (P:=P) e2 hF' hvs;have hres:(results fn a'.tmps).run P w'=.ok (if hh:ws.toArray.size=1 then ws.toArray[0] else .tuple ws.toArray) w':=by
  rw[LV,Array.mapM_eq_mapM_toList];simp only[Sem.run_bind,Sem.run_map,h3,Result.andThen_ok,Sem.run_pure]
 have hval:=VX (G:=⟨λb=>G1 b\/∃ r k,H'[r]?=some (some k)/\μ1.loc r=some b,G1.row⟩) (G':=Gd.of λb=>G1 b\/∃ r k,H'[r]?=some (some k)/\μ1.loc r=some b) (λb h=>h) _ _ _ hq2
   (L9 (G':=⟨λb=>G1 b\/∃ r k,H'[r]?=some (some k)/\μ1.loc r=some b,G1.row⟩) e2 (λ_ _ h=>h) (λb hb=>.inl hb) (λr k b hr _ hb=>.inr ⟨r,k,hr,hb⟩) depth _ q _ hq1 (BA h4))
 have hext:Ext (DU w) w (Gd.of G) aJ w' (Gd.of λb=>G1 b\/∃ r k,H'[r]?=some (some k)/\μ1.loc r=some b) aJ:={
  good:=λb hb=>⟨.inl (e1.good b hb).1,(e1.good b hb).2⟩
  map:=λ_ _ h=>h
  len:=λ_ _ h=>h
  room:=e1.room
  row:=λ_ _ h=>h
  os:=e1.os
  tape:=e1.tape
  output:=e1.output
  size:=e1.size
  old:=e1.old
  new:=λb hb=>by
   rcases hb with hb|⟨r,k,hr,hb⟩
   ·exact e1.new b hb
   ·obtain⟨c,_,_,_,g5,g6⟩:=e2.blk r k b hr hb;cases hf:k.frozen with
    | true=>exact e1.new b (g5 hf)
    | false=>exact .inr (g6 hf).1 }
 have hlt':∀ b,(G1 b\/∃ r k,H'[r]?=some (some k)/\μ1.loc r=some b)->b<w'.heap.size:=by
  rintro b (hb|⟨r,k,hr,hb⟩)
  ·exact e2.lt b hb
  ·exact e2.sY hr hb
 have hpost:a'.defers=[]/\∃ v,(results fn a'.tmps).run P w'=.ok v w'/\(∃ v' G',Ending.returned v=.returned v'/\Ext (DU w) w (Gd.of G) aJ w' (Gd.of G') aJ/\(∀ b,G' b->b<w'.heap.size)/\VR w' (Gd.of G') aJ (aSX rets y) v') :=
  ⟨hF'.defers,_,hres,_,_,rfl,hext,hlt',aE5 hd hval⟩
 rcases hex with rfl|rfl
 ·exact hpost
 ·exact hpost
def aXZ(e:TypeId)(t:Ty)(H:Heap):List PV->Option (List t.den×Nat×List PV)
 | .own r sz::ps=>match IL e t (.own r sz) H r with
  | some l=>some (l,r,ps)
  | none=>none
 | _=>none
def Tk.dec:(tk:Tk)->List PV->Heap->Option (tk.den×Nat×List PV)
 | .none,qs,_=>some ((),0,qs)
 | .own e t,qs,H=>aXZ e t H qs
theorem aC5(hW:aR n0 G μ H w){e u qs l r ps}(h:aXZ e u H qs=some (l,r,ps)):H[r]?=some (some (owB e u l))/\qs=.own r u.size::ps:=by
 unfold aXZ at h;split at h
 ·split at h
  next l1 hl1=>obtain⟨g1,g2⟩:=qH hW hl1;grind
  grind
 grind
theorem Tk.a5T (hW:aR n0 G μ H w){tk:Tk}{qs l r ps}(h:tk.dec qs H=some (l,r,ps)):a5V H (tk.ow l r)/\qs=tk.pv r++ps:=by
 cases tk with
 | none =>
  obtain⟨_,_,rfl⟩:=h;exact⟨⟨λ_ _ h=>by cases h⟩,rfl⟩
 | own e u =>
  obtain⟨h1,h2⟩:=aC5 hW h;refine⟨⟨λr' k he=>?_⟩,h2⟩;cases he;grind
def arH(ae:TypeId) (t:Ty) (tk:Tk) (args:List Kd) (an:An) (f:tk.den->aH args->List (List t.den)->Option (an.den×List (List t.den))) (qs:List PV) (H:Heap):Option aR8:=match tk.dec qs H with
 | some (l,r,ps)=>match a6Y ae t H with
  | some (ra,A)=>match aSM args ps with
   | some x=>bif eX.noRefs ps then some ⟨an.den×List (List t.den),f l x A,λy=>(an.pv y.1 (H.length+1),((XJ (tk.ow l r) H).set ra none)++(some (arB ae t y.2)::an.hp y.1))⟩ else none
   | none=>none
  | none=>none
 | none=>none
theorem CJ {g tk args an f}(hf:MT P g ae t tk args an f) :
  ∀ qs H r,arH ae t tk args an f qs H=some r->∀ y,r.val=some y->∀ {n0 G μ w vs},aR n0 G μ H w->VRs w G μ qs vs->FL P n0 w G μ g vs.toArray (r.out y).1 (r.out y).2:=by
 intro qs H rh h y hy n0 G μ w vs hW hv;unfold arH at h;split at h
 next l r ps hl=>
  split at h
  next ra A hA=>
   split at h
   ·rename_i x hx;obtain⟨hb,h⟩:=a6A h;simp only[oJ]at h;subst h;obtain⟨ho,rfl⟩:=Tk.a5T hW hl;have hv':VRs w G μ (tk.pv r++r9 args x) vs:=by
     cases tk with
     | none=>exact(NV args hx (dK _ _ hb hv)).aW
     | own e u =>
      obtain⟨v,us,rfl,q1,q2⟩:=hv;exact⟨v,us,rfl,q1,(NV args hx (dK _ _ hb q2)).aW⟩
    obtain⟨y1,y2⟩:=y;exact hf l x A y1 y2 hy hW (aHY hW hA) ho hv'
   grind
  grind
 grind
end
def forced(ops:Array Oper) (s:Nat):Bool:=(List.range ops.size).all λj=>Nat.blt j s||Nat.beq (Nat.land ((nI ops).getD j 0) (2^j-1)) (2^j-1)
def aQH(l:List Oper):Bool:=(List.range l.length).all λi=>match l[i]? with
 | some o=>match o.guard with
  | some (g,_)=>Nat.blt g i
  | none=>true
 | none=>true
def aOP(ops:Array Oper)(s:Nat):Bool:=U6 (nI ops) 0 ops.toList&&forced ops s&&aQH ops.toList&&aBS ops&&Nat.ble s ops.size
section
variable {P:Program} {ops:Array Oper} {s:Nat}
theorem aPI(h:forced ops s=true){j b}(hj:j<ops.size)(hs:s<=j)(hb:b<j):((nI ops).getD j 0).testBit b=true:=by
 have:=List.all_eq_true.1 h j (List.mem_range.2 hj);rw[Bool.or_eq_true]at this;rcases this with h1|h1
 ·have:=jN h1; omega
 ·have h2:=oE h1;have h3:(Nat.land ((nI ops).getD j 0) (2^j-1)).testBit b=(2^j-1).testBit b:=zf
  have h4:(2^j-1).testBit b=true:=zf
  rw[h4]at h3;have h5:((nI ops).getD j 0 &&& (2^j-1)).testBit b=true:=h3;grind
theorem aEY(hm:U6 (nI ops) 0 ops.toList=true){i o}(ho:ops[i]?=some o):(nI ops).getD i 0=aJA (nI ops) o.after.toList/\∀ e∈o.after,Region.binds .any e=true->e.on<i:=by
 have:=aLT hm (by simpa using ho);grind
theorem aNK(hm:U6 (nI ops) 0 ops.toList=true) {listed:Array Bool} (hc:YP (nI ops) (λi=>listed.getD i false)) {i:Nat} (hi:i∈Region.ready .any ops listed) :
  i<ops.size/\listed.getD i true=false/\∀ b,((nI ops).getD i 0).testBit b=true->listed.getD b false=true:=by
 obtain⟨h1,o,ho,h2⟩:=mem_ready.1 hi;refine⟨(Array.getElem?_eq_some_iff.1 ho).1,by simpa using h1,λb hb=>?_⟩;rw[(aEY hm ho).1]at hb;rcases TR _ _ hb with h3|⟨e,h3,h4,h5⟩
 ·grind
 ·have h6:=h2 e (Array.mem_toList_iff.1 h3) h4;rcases h5 with rfl|h5
  ·exact h6
  ·exact hc e.on h6 b h5
theorem bCQ(hm:U6 (nI ops) 0 ops.toList=true):∀ i b,i<ops.size->((nI ops).getD i 0).testBit b=true->b<i:=by
 intro i
 induction i using Nat.strongRecOn with
 | _ i ih =>
  intro b hi hb;obtain⟨o,ho⟩:∃ o,ops[i]?=some o:=⟨ops[i],Array.getElem?_eq_getElem hi⟩;have hma:=aEY hm ho;rw[hma.1]at hb;rcases TR _ _ hb with h3|⟨e,h3,h4,h5⟩
  ·grind
  grind
variable {ro:Option Nat} {n:Nat} {Q:Exit->Act->World->Prop}
theorem aYP(hm:U6 (nI ops) 0 ops.toList=true) (hf:forced ops s=true):∀ (k j:Nat) (L:Array Bool) (a:Act) (w:World),j+k=ops.size->s<=j->L.size=ops.size->(∀ i,i<ops.size->L.getD i false=decide (i<j)) ->
  wpListIn (Fr ro) n P ops Q (ops.toList.drop j) a w->wpAnyIn (Fr ro) n P .any ops Q k L a w
 | 0,j,L,a,w,hk,hs,hsz,hL,h=>by
  have hd:ops.toList.drop j=[]:=List.drop_of_length_le (by simp; omega);rw[hd]at h;refine⟨?_,h⟩
  by_cases hr:Region.ready .any ops L=[]
  ·exact hr
  ·obtain⟨i,hi⟩:=List.exists_mem_of_ne_nil _ hr;obtain⟨h1,o,ho,_⟩:=mem_ready.1 hi;grind
 | k+1,j,L,a,w,hk,hs,hsz,hL,h=>by
  have hj:j<ops.size:=Z
  have hcl:YP (nI ops) (λi=>L.getD i false):=by
   intro i hi b hb;replace hi:L.getD i false=true:=hi;have hilt:i<ops.size:=zf
   have h1:=hL i hilt;rw[hi]at h1;have h2:=of_decide_eq_true h1.symm;have h3:=bCQ hm i b hilt hb;grind
  have hready:∀ i∈Region.ready .any ops L,i=j:=by
   intro i hi;obtain⟨h1,h2,h3⟩:=aNK hm hcl hi;have h4:¬ i<j:=λhij=>zf
   rcases oG j i with hji|hji
   ·exfalso;have h5:=h3 j (aPI hf h1 Z hji);grind
   ·omega
  obtain⟨o,ho⟩:∃ o,ops[j]?=some o:=⟨ops[j],Array.getElem?_eq_getElem hj⟩;have hd:ops.toList.drop j=o::ops.toList.drop (j+1):=by
   rw[List.drop_eq_getElem_cons (by simpa using hj)];grind
  rw[hd]at h;unfold wpListIn at h;have ih:∀ a w,wpListIn (Fr ro) n P ops Q (ops.toList.drop (j+1)) a w->wpAnyIn (Fr ro) n P .any ops Q k (L.setIfInBounds j true) a w:=λa w h=>by
   refine aYP hm hf k (j+1) _ a w Z Z (by simpa using hsz) (λi hi=>?_) h
   by_cases hij:j=i
   ·simp_all
   ·rw[getD_set_ne false hij,hL i hi]
    by_cases h2:i<j
    ·rw[oT h2,oT Z]
    ·rw[oF h2,oF Z]
  refine⟨λhr=>?_,λi hi=>?_⟩
  ·exfalso;have:j∈Region.ready .any ops L:=mem_ready.2 ⟨by
    have:=hL j hj;rw[oF Z]at this;have hlt:j<L.size:=Z
    simpa[Array.getD,hlt]using this,o,ho,λe he hb=>by
     have:=(aEY hm ho).2 e he hb;rw[hL e.on Z];exact oT this⟩
   rw[hr]at this;cases this
  ·have:=hready i hi;subst this;unfold wpOpIn;rw[ho];simp only
   by_cases hw:Region.wanted o (yielded ops a.tmps)=true
   ·rw[if_pos hw]at h ⊢;exact Oper.wpIn_mono ih h
   ·rw[if_neg hw]at h ⊢;exact⟨h.1,ih _ _ h.2⟩
theorem a04 {o y y'}(h:∀ g b,o.guard=some (g,b)->y g=y' g):Region.wanted o y=Region.wanted o y':=by
 unfold Region.wanted;grind
theorem aVM {l}(h:aQH l=true){i:Nat}{o}(ho:l[i]?=some o){g b}(hg:o.guard=some (g,b)):g<i:=by
 have:=List.all_eq_true.1 h i (List.mem_range.2 (oO.1 ho).1)
 simp_all
theorem bAK {ds:List Deferred} {Q1:Exit->Act->World->Prop} (hm:U6 (nI ops) 0 ops.toList=true) (hf:forced ops s=true) (hg:aQH ops.toList=true) (hnd:aBS ops=true) (hs:s<=ops.size)
  (hno:∀ e a w,Q1 e a w->e=.normal) (hQ:∀ a w,Q1 .normal a w->wpListIn (Fr ro) n P ops Q (ops.toList.drop s) (CO ds a) w) :
  ∀ (k:Nat) (L1 L:Array Bool) (a:Act) (w:World),L1.size=s->L.size=ops.size->(∀ i,i<s->L1.getD i false=L.getD i false)->(∀ i,s<=i->L.getD i false=false)->YP (nI ops) (λi=>L.getD i false)->(List.range s).countP (λi=>!L.getD i false)=k ->
   wpAny P .any (ops.toList.take s).toArray Q1 k L1 a w->wpAnyIn (Fr ro) n P .any ops Q (k+(ops.size-s)) L (CO ds a) w
 | 0,L1,L,a,w,h1,h2,h3,h4,hc,hk,h=>by
  rw[Nat.zero_add];refine aYP hm hf (ops.size-s) s L _ w Z (oM _) h2 (λi hi=>?_) (hQ a w h.2)
  by_cases his:i<s
  ·rw[oT his];rw[List.countP_eq_zero]at hk;grind
  ·grind
 | k+1,L1,L,a,w,h1,h2,h3,h4,hc,hk,h=>by
  have hun:∃ i,i<s/\L.getD i false=false:=by
   have:0<(List.range s).countP (λi=>!L.getD i false):=Z
   obtain⟨i,hi,hp⟩:=List.countP_pos_iff.1 this;grind
  obtain⟨i0,hi0,hu0⟩:=hun;rw[show k+1+(ops.size-s)=(k+(ops.size-s))+1 by omega];refine⟨λhr=>?_,λi hi=>?_⟩
  ·exfalso;have all:∀ i,i<ops.size->L.getD i false=true:=by
    intro i
    induction i using Nat.strongRecOn with
    | _ i ih =>
     intro hi;cases hli:L.getD i false with
     | true=>rfl
     | false =>
      obtain⟨o,ho⟩:∃ o,ops[i]?=some o:=⟨ops[i],Array.getElem?_eq_getElem hi⟩;have:i∈Region.ready .any ops L:=mem_ready.2 ⟨by
       have hlt:i<L.size:=Z
       simpa[Array.getD,hlt]using hli,o,ho,λe he hb=>ih e.on ((aEY hm ho).2 e he hb) (by have:=(aEY hm ho).2 e he hb; omega)⟩
      grind
   grind
  ·obtain⟨hi1,hi2,hi3⟩:=aNK hm hc hi;have his:i<s:=by
    rcases oG i s with h|h
    ·exact h
    ·have:=hi3 i0 (aPI hf hi1 h Z);rw[hu0]at this; cases this
   obtain⟨_,o,ho,hdeps⟩:=mem_ready.1 hi;have hLi:L.getD i false=false:=by
    have hlt:i<L.size:=Z
    simp only[Array.getD,hlt,dif_pos]at hi2 ⊢;exact hi2
   have hpre:∀ j,j<s->(ops.toList.take s).toArray[j]?=ops[j]?:=by
    intro j hj;simp only[List.getElem?_toArray,List.getElem?_take,hj,if_true,Array.getElem?_toList]
   have hready:i∈Region.ready .any (ops.toList.take s).toArray L1:=mem_ready.2 ⟨by
    have:=h3 i his;rw[hLi]at this;have hlt:i<L1.size:=Z
    simpa[Array.getD,hlt]using this,o,by rw[hpre i his]; exact ho,λe he hb=>by
     have h5:=(aEY hm ho).2 e he hb;rw[h3 e.on Z];exact hdeps e he hb⟩
   have hop:=h.2 i hready;have hw:Region.wanted o (yielded (ops.toList.take s).toArray a.tmps)=Region.wanted o (yielded ops (CO ds a).tmps):=a04 λg b hgu=>by
    have hgi:=aVM hg (i:=i) (o:=o) (by simpa using ho) hgu;unfold yielded;rw[hpre g Z];rfl
   have hset:∀ a w,wpAny P .any (ops.toList.take s).toArray Q1 k (L1.setIfInBounds i true) a w->wpAnyIn (Fr ro) n P .any ops Q (k+(ops.size-s)) (L.setIfInBounds i true) (CO ds a) w:=by
    intro a w h;have hLs:∀ j,j≠i->(L.setIfInBounds i true).getD j false=L.getD j false:=λj hj=>getD_set_ne false (λe=>hj e.symm)
    have hL1s:∀ j,j≠i->(L1.setIfInBounds i true).getD j false=L1.getD j false:=λj hj=>getD_set_ne false (λe=>hj e.symm)
    have hSi:(L.setIfInBounds i true).getD i false=true:=by
     have hlt:i<L.size:=Z
     simp[Array.getD,hlt]
    have hS1i:(L1.setIfInBounds i true).getD i false=true:=by
     have hlt:i<L1.size:=Z
     simp[Array.getD,hlt]
    refine bAK hm hf hg hnd hs hno hQ k _ _ a w (by simpa using h1) (by simpa using h2) ?_ ?_ ?_ ?_ h
    ·intro j hj
     by_cases hji:j=i
     ·subst hji; rw[hSi,hS1i]
     ·rw[hLs j hji,hL1s j hji,h3 j hj]
    ·intro j hj;rw[hLs j Z]; exact h4 j hj
    ·intro j hj b hb;show (L.setIfInBounds i true).getD b false=true
     by_cases hbi:b=i
     ·subst hbi; exact hSi
     ·rw[hLs b hbi]
      by_cases hji:j=i
      ·subst hji; exact hi3 b hb
      ·have hj':L.getD j false=true:=by rw[<- hLs j hji]; exact hj
       exact hc j hj' b hb
    ·have:=aL8 (p:=λi=>!L.getD i false) (p':=λj=>!(L.setIfInBounds i true).getD j false) (i:=i) (by simp only[hLi,Bool.not_false]) (by simp only[hSi,Bool.not_true]) (λj hj=>by simp only[hLs j hj]) s his;omega
   unfold wpOp at hop;rw[hpre i his,ho]at hop;simp only at hop;unfold wpOpIn;rw[ho];simp only;rw[hw]at hop
   by_cases hww:Region.wanted o (yielded ops (CO ds a).tmps)=true
   ·rw[if_pos hww]at hop ⊢;rcases hop with hop|⟨_,a0,w0,h0⟩
    ·exact aVI (XF hnd (by rw[<- Array.getElem?_toList]at ho; exact List.mem_of_getElem? ho)) hset (λch a w h=>by cases hno _ a w h) (λa w h=>by cases hno _ a w h) hop
    ·cases hno _ a0 w0 h0
   ·rw[if_neg hww]at hop ⊢;refine⟨λ_ _=>trivial,?_⟩;rw[U7];exact hset _ _ hop
theorem DO {F Q1 l2}(hno:∀ e a w,Q1 e a w->e=.normal)(hQ:∀ a w,Q1 .normal a w->wpListIn F n P ops Q l2 a w):∀ {l1 a w},wpListIn F n P ops Q1 l1 a w->wpListIn F n P ops Q (l1++l2) a w
 | [],a,w,h=>hQ a w h
 | o::l1,a,w,h=>by
  rw[List.cons_append];unfold wpListIn at h ⊢;split at h
  next hw=>
   rw[if_pos hw];refine⟨h.1,?_⟩;have h2:=h.2;generalize (o.semAt F.round a.eval).run P w=r at h2 ⊢;cases r with
   | ok x w' =>
    cases x with
    | value v=>exact DO hno hQ h2
    | skip=>exact DO hno hQ h2
    | defer d=>exact DO hno hQ h2
    | enter f args =>
     refine⟨h2.1,CallsIn.mono h2.2 ?_⟩;rintro e w'' he;cases e with
     | returned v=>exact DO hno hQ he
     | panicked ch=>cases hno _ _ _ he
     | outgrown=>obtain⟨a0,w0,h0⟩:=he; cases hno _ _ _ h0
    | row row args=>exact⟨h2.1,RowsIn.mono h2.2 λv w'' he=>DO hno hQ he⟩
    | round l f t as1 b =>
     refine⟨h2.1,RoundIn.mono h2.2 ?_⟩;rintro e w'' he;cases e with
     | returned v=>exact DO hno hQ he
     | panicked ch=>cases hno _ _ _ he
     | outgrown=>obtain⟨a0,w0,h0⟩:=he; cases hno _ _ _ h0
    | _=>exact h2.elim
   | halt x w' =>
    cases x <;> first|(cases hno _ _ _ h2; done)|exact h2.elim
  next hw=>rw[if_neg hw];exact⟨h.1,DO hno hQ h.2⟩
end
section
variable {P:Program} {E:Env} {nt:Nat} {F F':Frm} {H H':Heap} {ops:Array Oper} {s:Nat}
theorem aVF(hcl:eO P (gU P E)) (hP:P.follows .mixedOrders=true) {id:Nat} {draw:Bool} (hsp:aOP ops s=true)
  (hrun:(bif draw then aFB P (gU P E) nt (ops.toList.take s).toArray F H else aBK P (gU P E) nt ops.toList (ops.toList.take s) F H)=some (F',H'))
  {ro:Option Nat} {n:Nat} {n0:Nat->Prop} {wi:World} {Gi:Gd} {μi:Mp} {a:Act} {w:World} {ds:List Deferred} {Q:Exit->Act->World->Prop} (hI:I n0 wi Gi μi nt F H a w)
  (hQ:∀ a' w',I n0 wi Gi μi nt F' H' a' w'->wpListIn (Fr ro) n P ops Q (ops.toList.drop s) (CO ds a') w'):(Code.region id ops draw).wpIn (Fr ro) n P Q (CO ds a) w:=by
 simp only[aOP,oA]at hsp;obtain⟨⟨⟨⟨hm,hf⟩,hg⟩,hnd⟩,hs⟩:=hsp;have hs:=oL hs;cases draw with
 | true =>
  have h1:=aDK (Q:=λe a' w'=>e=.normal/\I n0 wi Gi μi nt F' H' a' w') hcl hrun hI (λa' w' h=>⟨rfl,h⟩);refine wpIn_region_any hP ?_;have hsz:(ops.toList.take s).toArray.size=s:=by simp[List.length_take]; omega
  rw[hsz]at h1;have hfalse:∀ m j,(Array.replicate m false).getD j false=false:=λm j=>by
   simp only[Array.getD]
   simp_all
  have:=bAK (n:=n) (ro:=ro) (ds:=ds) (Q:=Q) hm hf hg hnd hs (λe a w h=>h.1) (λa w h=>hQ a w h.2) s (Array.replicate s false) (Array.replicate ops.size false) a _ R R (λi _=>by rw[hfalse,hfalse]) (λi _=>hfalse _ i) (λj hj b hb=>by
   have:(Array.replicate ops.size false).getD j false=true:=hj;rw[hfalse]at this; cases this) (by
   rw[List.countP_eq_length.2]
   ·simp
   ·intro i _;rw[hfalse]; rfl) h1
  grind
 | false =>
  refine wpIn_region_list ?_;rw[<- List.take_append_drop s ops.toList];have h1:=JS (Q:=λe a' w'=>e=.normal/\I n0 wi Gi μi nt F' H' a' w') hcl (ops.toList.take s) F H a w hrun hI (λa' w' h=>⟨rfl,h⟩);have h2:=aIZ (ro:=ro) (n:=n) (ds:=ds) (Q':=λe a' w'=>e=.normal/\wpListIn (Fr ro) n P ops Q (ops.toList.drop s) a' w') (λa w h=>by cases h.1) (λe a w h=>⟨h.1,hQ a w h.2⟩) (λo ho=>XF hnd (List.mem_of_mem_take ho)) h1
  exact DO (λe a w h=>h.1) (λa w h=>h.2) h2
end
def Sg(Φ:(Nat->Prop)->(Nat->Prop)->World->Prop) (G0 G:Gd) (μ:Mp) (H:Heap) (A:World):Prop :=
 ∃ (T X:Nat->Prop) (B:World) (GB:Gd) (μB:Mp),Φ T X B/\(∀ b,X b->T b)/\(∀ b,T b->b<B.heap.size)/\(∀ b,GB b->G0 b\/T b)/\(∀ b,G0 b->GB b) /\
  Ext (λb=>X b\/B.heap.size<=b) B GB μB A G μ/\aR (λb=>X b\/B.heap.size<=b) G μ H A
section
variable {P:Program} {Φ:(Nat->Prop)->(Nat->Prop)->World->Prop} {G0 G G':Gd} {μ μ':Mp} {H H':Heap} {A A' W:World} {F F':Frm} {nt n:Nat} {a:Act}
theorem Sg.start {J g0}(hlt:Lt W g0)(h:J (λ_=>False) (λ_=>False) W):Sg J (Gd.of g0) (Gd.of g0) aJ [] W :=
 ⟨_,_,W,Gd.of g0,aJ,h,λb h=>h,λb h=>h.elim,λb h=>.inl h,λb h=>h,Ext.refl _ _ _ _,λr k b h=>by grind,λr k g h=>by grind,λr s k l b h=>by simp,hlt,λ_ _=>⟨rfl,rfl⟩,λb hb=>.inr hb,yC.none _ _ (λ_=>rfl) _ _ (λr k h=>by grind)⟩
theorem Sg.open_ (h:Sg Φ G0 G μ H A):∃ n0,aR n0 G μ H A/\(∀ b,G0 b->G b)/\∀ A' G' μ' H',Ext n0 A G μ A' G' μ'->aR n0 G' μ' H' A'->Sg Φ G0 G' μ' H' A':=by
 obtain⟨T,X,B,GB,μB,h1,h2,h3,h4,h5,h6,h7⟩:=h;exact⟨_,h7,λb hb=>(h6.good b (h5 b hb)).1,λA' G' μ' H' e w=>⟨T,X,B,GB,μB,h1,h2,h3,h4,h5,h6.trans e,w⟩⟩
theorem Sg.stp (h:Sg Φ G0 G μ H A):∃ T X B,Stp X B A/\Φ T X B:=by
 obtain⟨T,X,B,GB,μB,h1,h2,h3,h4,h5,h6,h7⟩:=h;exact⟨T,X,B,⟨λb hb hx=>h6.old b hb zf,h6.room,h6.os,h6.tape,h6.output,h6.size⟩,h1⟩
theorem Sg.yield {ks:List Kd} {l:Nat} {all:List (aH ks)} {J Jx:List (aH ks)->(Nat->Prop)->(Nat->Prop)->World->Prop}
  (hY:∀ pre e post T X B T' X' A us Gx m',all=pre++e::post->J pre T X B->Stp X B A->(∀ b,T' b->(T b\/B.heap.size<=b)/\b<A.heap.size)->(∀ b,X' b->T' b/\(X b\/B.heap.size<=b)) ->
   (∀ b,Gx b->(G0 b\/T' b)/\¬ X' b)->VRs A (Gd.of Gx) aJ (r9 ks e) us ->
   YieldAt Fence.wide m' P l us.toArray A λen C =>
    ((∀ b,b<A.heap.size->G0 b\/T' b->C.heap[b]?=A.heap[b]?)/\(∀ b n,Room A b n->Room C b n)/\A.heap.size<=C.heap.size)/\((en=.returned (.bool true)/\J (pre++[e]) T' X' C)\/(en=.returned (.bool false)/\Jx (pre++[e]) T' X' C)))
  {pre post:List (aH ks)} {e:aH ks} (hall:all=pre++e::post) {us:List Value} (h:Sg (J pre) G0 G μ H A) (hus:VRs A G aJ (r9 ks e) us) (hpl:iD.noRows (r9 ks e)=true) (m':Nat) :
  YieldAt Fence.wide m' P l us.toArray A λen C=>Mono A G μ C G μ/\((en=.returned (.bool true)/\Sg (J (pre++[e])) G0 G μ H C)\/(en=.returned (.bool false)/\Sg (Jx (pre++[e])) G0 G μ H C)):=by
 obtain⟨T,X,B,GB,μB,h1,h2,h3,h4,h5,h6,h7⟩:=h;obtain⟨T',hT'⟩:∃ T':Nat->Prop,T'=λb=>T b\/(B.heap.size<=b/\b<A.heap.size):=⟨_,rfl⟩
 obtain⟨X',hX'⟩:∃ X':Nat->Prop,X'=λb=>(∃ r k,H[r]?=some (some k)/\k.frozen=false/\μ.loc r=some b)\/∃ j,G.row j=some b:=⟨_,rfl⟩
 have hGT:∀ b,G b->G0 b\/T' b:=by
  intro b hb;have hlt:=h7.lt b hb;rw[hT'];rcases h6.new b hb with h|h|h
  ·grind
  ·grind
  ·grind
 have hXT:∀ b,X' b->T' b/\(X b\/B.heap.size<=b)/\¬ G b:=by
  intro b hb;rw[hX']at hb;rcases hb with ⟨r,k,g1,g2,g3⟩|⟨j,hj⟩
  case inr =>
   obtain⟨s1,s2,s3,_⟩:=h7.rows.sep j b hj;grind
  obtain⟨c,q1,_,_,_,q5⟩:=h7.blk r k b g1 g3;grind
 have hst:Stp X B A:=⟨λb hb hx=>h6.old b hb (by rintro(h|h); exact hx h; omega),h6.room,h6.os,h6.tape,h6.output,h6.size⟩;obtain⟨fn,tmps,as1,body,y1,y2⟩:=hY pre e post T X B T' X' A us G.ok m' hall h1 hst (λb hb=>by
  rw[hT']at hb;rcases hb with hb|hb
  ·exact⟨.inl hb,Nat.lt_of_lt_of_le (h3 b hb) h6.size⟩
  ·exact⟨.inr hb.1,hb.2⟩) (λb hb=>⟨(hXT b hb).1,(hXT b hb).2.1⟩) (λb hb=>⟨hGT b hb,λhx=>(hXT b hx).2.2 hb⟩) (AP (G:=G) (G':=Gd.of G.ok) (λb h=>h) _ _ _ hpl hus)
 refine⟨fn,tmps,as1,body,y1,y2.mono ?_⟩;rintro en C ⟨⟨k1,k2,k3⟩,hout⟩;have hgood:∀ b,G b->C.heap[b]?=A.heap[b]?:=λb hb=>k1 b (h7.lt b hb) (hGT b hb)
 have hmono:Mono A G μ C G μ:=⟨λb hb=>⟨hb,hgood b hb⟩,λ_ _ h=>h,λ_ _ h=>h,k2,λ_ _ h=>h,λ_ _ _=>rfl⟩;have hTs:∀ b,T' b->b<C.heap.size:=by
  intro b hb;rw[hT']at hb;rcases hb with hb|hb
  ·have:=h3 b hb; have:=h6.size; omega
  ·omega
 have hwinv:aR (λb=>X' b\/C.heap.size<=b) G μ H C:=by
  refine⟨?_,h7.tags,h7.inj,h7.lt.step (λb hb=>⟨hb,hgood b hb⟩) λb hb=>Nat.lt_of_lt_of_le (h7.lt b hb) k3,h7.top,λb hb=>.inr hb,(h7.rows.aNU (n1:=λb=>X' b\/C.heap.size<=b) λj b hj _=>.inl (by rw[hX']; exact .inr ⟨j,hj⟩)).step hmono.aJ k3 (λ_=>rfl) (λj b hj=>⟨?_,id,λr k h1 h2 h3=>⟨r,k,h1,h2,h3⟩⟩) (λr k _ _ h1 _ _=>⟨k,h1,rfl,rfl,rfl,rfl⟩)⟩
  case refine_2 =>
   exact k1 b (h7.rows.sep j b hj).1 (.inr (hXT b (by rw[hX']; exact .inr ⟨j,hj⟩)).1)
  intro r k b hr hb;obtain⟨c,q1,q2,q3,q4,q5⟩:=h7.blk r k b hr hb;have hx:k.frozen=false->X' b:=λhf=>by rw[hX']; exact .inl ⟨r,k,hr,hf,hb⟩
  have heq:C.heap[b]?=A.heap[b]?:=by
   cases hf:k.frozen with
   | true=>exact hgood b (q4 hf)
   | false=>exact k1 b (h7.sY hr hb) (.inr (hXT b (hx hf)).1)
  exact⟨c,heq.trans q1,aM.mono hmono heq _ _ q2,q3,q4,λhf=>⟨.inl (hx hf),(q5 hf).2⟩⟩
 have key:∀ {Ψ:(Nat->Prop)->(Nat->Prop)->World->Prop},Ψ T' X' C->Sg Ψ G0 G μ H C:=λhψ =>
  ⟨T',X',C,G,μ,hψ,λb hb=>(hXT b hb).1,hTs,hGT,λb hb=>(h6.good b (h5 b hb)).1,Ext.refl _ _ _ _,hwinv⟩
 refine⟨hmono,?_⟩;rcases hout with ⟨rfl,hj⟩|⟨rfl,hj⟩
 ·exact .inl ⟨rfl,key hj⟩
 ·exact .inr ⟨rfl,key hj⟩
variable {ops:Array Oper} {Q:Exit->Act->World->Prop}
theorem bBM {o:Oper} {c:Call} {f:Operand} {rest:List Oper} {l:Nat} {us:Array Value} {R:Ending->World->Prop} (ho:o.op=.call c) (hc:c.callee=.value f) (hw:Region.wanted o (yielded ops a.tmps)=true) (hf:a.eval f=.func (.yield l) #[] #[]) (hargs:c.args.map a.eval=us)
  (hy:∀ m',YieldAt Fence.wide m' P l us A R) (hR:∀ en C,R en C->∃ v,en=.returned v/\wpListIn Fence.wide n P ops Q rest (a.put o.dst v) C):wpListIn Fence.wide n P ops Q (o::rest) a A:=by
 obtain⟨fn,tmps,as1,body,y1,y2⟩:=hy (n-1);unfold wpListIn;rw[if_pos hw];refine⟨λ_ _=>trivial,?_⟩;have hs:(o.semAt none a.eval).run P A=.ok (.round l fn tmps as1 body) A:=by
  rw[Oper.semAt_none];simp[execOp,ho,resolve,hc,hf,hargs,Deferred.ofValue,Sem.run_bind,Sem.run_pure,Result.andThen_ok,invoke,y1]
 show Oper.uponIn Fence.wide n P o a _ Q ((o.semAt none a.eval).run P A);rw[hs];refine⟨λh=>(by cases h),y2.mono ?_⟩;grind
theorem bCM {o:Oper} {rest:List Oper} (hw:Region.wanted o (yielded ops a.tmps)=false) (h:wpListIn Fence.wide n P ops Q rest (a.put o.dst undef) A):wpListIn Fence.wide n P ops Q (o::rest) a A:=by
 unfold wpListIn;rw[if_neg (by rw[hw]; decide)];exact⟨λ_ _=>trivial,h⟩
end
structure aD5 (Y:Type) where
 sh:List (Nat×Kd)
 exits:List (Ex×List (Nat×Kd))
 run:Shape.den sh->Option (List Y×eC exits)
def bGB(o:Oper):Bool:=match o.op with
 | .call c=>match c.callee with
  | .value (.tmp _)=>true
  | _=>false
 | _=>false
def bDZ:List Oper->Nat->Option Nat
 | [],_=>none
 | o::r,i=>bif bGB o then some i else bDZ r (i+1)
def outs {Y α:Type}(l:List Y):Option (List Y×α)->Option (List Y×α)
 | some (m,z)=>some (l++m,z)
 | none=>none
def a3Y {Y τ α:Type} (r:Option (List Y×τ)) (k:τ->Option (List Y×α)):Option (List Y×α):=match r with
 | some (l,z)=>outs l (k z)
 | none=>none
def bCF {Y:Type}:Option (List Y×Unit)->Option (List Y)
 | some (l,_)=>some l
 | none=>none
section
variable {α:Type} (P:Program) (E:Env) (nt bZ:Nat) (lt:Nat->Option dN) (ks:List Kd) (li:Nat->Option (aD5 (Value×aH ks)))
def bGV(ops:Array Oper) (o:Oper) (rest:List Oper) (F:Frm) (H:Heap) (k:Frm->Heap->Option (List (Value×aH ks)×α)) (kx:Frm->Heap->Option Unit):Option (List (Value×aH ks)×α) :=
 aU0 F ops.toList o λF b=>bif b then (match o.op with
  | .call c=>match c.callee with
   | .value f=>match ev F f with
    | .lit yv=>bif eX.noRefs (c.args.toList.map (ev F))&&ks.all Kd.plain then (match aSM ks (c.args.toList.map (ev F))with
     | some e=>match X3 nt F o.dst (.lit (.bool true)),X3 nt F o.dst (.lit (.bool false))with
      | some F1,some F2=>match XI P E nt ops.toList rest F2 H kx with
       | some _=>outs [(yv,e)] (XI P E nt ops.toList rest F1 H k)
       | none=>none
      | _,_=>none
     | none=>none) else none
    | _=>none
   | _=>none
  | _=>none) else match X3 nt F o.dst (.lit undef)with
   | some F1=>XI P E nt ops.toList rest F1 H k
   | none=>none
def RI:Code->Frm->Heap->(Ex->Frm->Heap->Option (List (Value×aH ks)×α))->(Ex->Frm->Heap->Option Unit)->Option (List (Value×aH ks)×α)
 | .skip,F,H,k,_=>k .normal F H
 | .label _,F,H,k,_=>k .normal F H
 | .region _ ops draw,F,H,k,kx=>match bDZ ops.toList 0 with
  | none=>bif aBS ops then P5 P E nt ops draw F H λF H=>aEN bZ F λF=>k .normal F H else none
  | some s=>bif aOP ops s then match ops.toList.drop s with
   | o::rest=>bif rest.all (λo=>!aWR o.op) then
     (bif draw then P5 P E nt (ops.toList.take s).toArray true F H else XI P E nt ops.toList (ops.toList.take s) F H) λF H =>
      bGV P E nt ks ops o rest F H (λF H=>aEN bZ F λF=>k .normal F H) (λF H=>kx .normal F H)
    else none
   | []=>none
   else none
 | .seq a b,F,H,k,kx=>RI a F H (λex F H=>match ex with
  | .normal=>RI b F H k kx
  | .exit i=>k (.exit i) F H
  | .ret=>k .ret F H) (λex F H=>match ex with
  | .normal=>KU P E nt bZ lt (λ_=>none) true [] b F H kx
  | .exit i=>kx (.exit i) F H
  | .ret=>kx .ret F H)
 | .cond c a b,F,H,k,kx=>match ev F c with
  | .lit (.bool t)=>a2J F c t λF t=>bif t then RI a F H k kx else RI b F H k kx
  | _=>none
 | .block id a,F,H,k,kx=>RI a F H (λex F H=>match ex with
  | .exit i=>bif Nat.beq i id then k .normal F H else k (.exit i) F H
  | .normal=>k .normal F H
  | .ret=>k .ret F H) (λex F H=>match ex with
  | .exit i=>bif Nat.beq i id then kx .normal F H else kx (.exit i) F H
  | .normal=>kx .normal F H
  | .ret=>kx .ret F H)
 | .loop a,F,H,k,_=>match li (b8 a)with
  | some s=>match ET [] s.sh F H with
   | some x=>a3Y (s.run x) λz=>a2Y s.exits z k
   | none=>none
  | none=>match lt (b8 a)with
   | some s=>match ET [] s.sh F H with
    | some x=>aC (s.run x) λz=>a2Y s.exits z k
    | none=>none
   | none=>none
 | .exit id,F,H,k,_=>k (.exit id) F H
 | .ret,F,H,k,_=>k .ret F H
 | _,_,_,_,_=>none
end
def bCR:Ex->Frm->Heap->Option Unit:=λex _ _=>match ex with
 | .ret=>some ()
 | _=>none
def bBI {Y:Type} sh exits (ex:Ex)(F:Frm)(H:Heap):Option (List Y×(Shape.den sh⊕eC exits)):=match aM8 [] sh exits ex F H with
 | some z=>some ([],z)
 | none=>none
def bBH(P:Program) (E:Env) (nt bZ:Nat) (lt:Nat->Option dN) (ks:List Kd) (li:Nat->Option (aD5 (Value×aH ks))) (a:Code) (sh:List (Nat×Kd)) (exits:List (Ex×List (Nat×Kd))) (x:Shape.den sh):Option (List (Value×aH ks)×(Shape.den sh⊕eC exits)) :=
 RI P E nt bZ lt ks li a (D1 sh x 0) (O1 sh x) (bBI sh exits) bCR
def aMJ {Y σ τ:Type}(step:σ->Option (List Y×(σ⊕τ))):Nat->σ->Option (List Y×τ)
 | 0,_=>none
 | n+1,x=>match step x with
  | some (l,.inl y)=>outs l (aMJ step n y)
  | some (l,.inr z)=>some (l,z)
  | none=>none
theorem aK3 {Y α}{l:List Y}{r m}{z:α}(h:outs l r=some (m,z)):∃ m',r=some (m',z)/\m=l++m':=by
 cases r with
 | none=>cases h
 | some p =>
  simp only[outs]at h;grind
section
variable {P:Program} {E:Env} {nt bZ:Nat} {lt:Nat->Option dN} {ks:List Kd} {li:Nat->Option (aD5 (Value×aH ks))}
variable {Φ:(Nat->Prop)->(Nat->Prop)->World->Prop} {G0 G G':Gd} {μ μ':Mp} {H H':Heap} {A A' W:World} {F F':Frm} {n:Nat} {a:Act}
theorem Sg.bAT (h:Sg Φ G0 G μ H A):∃ n0,aR n0 G μ H A/\(∀ b,G0 b->G b)/\∀ A' G' μ' H',Ext n0 A G aJ A' G' μ'->aR n0 G' μ' H' A'->Sg Φ G0 G' μ' H' A':=by
 obtain⟨T,X,B,GB,μB,h1,h2,h3,h4,h5,h6,h7⟩:=h;refine⟨_,h7,λb hb=>(h6.good b (h5 b hb)).1,λA' G' μ' H' e w=>⟨T,X,B,GB,aJ,h1,h2,h3,h4,h5,?_,w⟩⟩;have h6':Ext (λb=>X b\/B.heap.size<=b) B GB aJ A G aJ:=h6.plain;exact h6'.trans e
theorem a5F {c:Code} {r:Ex×Frm×Heap} (h:aZK P nt true [] c F H r) {Q:Exit->Act->World->Prop} (hS:Sg Φ G0 G μ H A) (hF:iV A G μ nt F a)
  (hQ:∀ G' μ' a' A',Sg Φ G0 G' μ' r.2.2 A'->iV A' G' μ' nt r.2.1 a'->Q r.1.to a' A'):c.wpIn Fence.wide n P Q a A:=by
 obtain⟨n0,hW,_,hS2⟩:=hS.bAT;have e0:Ext n0 A G aJ A G μ:={ good:=λ_ h=>⟨h,rfl⟩,map:=λ_ _ h=>(by cases h),len:=λ_ _ h=>(by cases h),room:=λ_ _ h=>h,row:=λ_ _ h=>h,os:=rfl,tape:=rfl,output:=rfl,size:=oM _,old:=λ_ _ _=>rfl,new:=λ_ h=>.inl h };refine wpIn_mono (h none n n0 A G aJ a A (λh=>(by cases h)) (λr _=>⟨rfl,rfl⟩) ⟨G,μ,e0,hW,hF.same,by rw[hF.defers]; trivial⟩) ?_;rintro e a' w' ⟨rfl,⟨G',μ',e',hW',hF',_⟩,hd⟩
 refine hQ G' μ' a' w' (hS2 _ _ _ _ e' hW') ⟨hF'.size,hF'.slot,?_⟩;rw[hd rfl]; exact hF.defers
def bGW(P:Program) (ks:List Kd) (l:Nat) (G0:Gd) (all:List (aH ks)) (J Jx:List (aH ks)->(Nat->Prop)->(Nat->Prop)->World->Prop):Prop :=
 ∀ pre e post T X B T' X' A us Gx m',all=pre++e::post->J pre T X B->Stp X B A->(∀ b,T' b->(T b\/B.heap.size<=b)/\b<A.heap.size)->(∀ b,X' b->T' b/\(X b\/B.heap.size<=b)) ->
   (∀ b,Gx b->(G0 b\/T' b)/\¬ X' b)->VRs A (Gd.of Gx) aJ (r9 ks e) us ->
   YieldAt Fence.wide m' P l us.toArray A λen C =>
    ((∀ b,b<A.heap.size->G0 b\/T' b->C.heap[b]?=A.heap[b]?)/\(∀ b n,Room A b n->Room C b n)/\A.heap.size<=C.heap.size)/\((en=.returned (.bool true)/\J (pre++[e]) T' X' C)\/(en=.returned (.bool false)/\Jx (pre++[e]) T' X' C))
def a9D(P:Program) (nt:Nat) (ks:List Kd) (c:Code) (F:Frm) (H:Heap) (ys:List (Value×aH ks)) (r:Ex×Frm×Heap) (kx:Ex->Frm->Heap->Option Unit):Prop :=
 ∀ (l:Nat) (yv:Value),yv=.func (.yield l) #[] #[]->∀ (G0:Gd) (all:List (aH ks)) (J Jx:List (aH ks)->(Nat->Prop)->(Nat->Prop)->World->Prop),bGW P ks l G0 all J Jx ->
  ∀ (pre post:List (aH ks)) (n:Nat) (a:Act) (A:World) (G:Gd) (μ:Mp),all=pre++(ys.map (·.2)++post)->(∀ y∈ys,y.1=yv)->Sg (J pre) G0 G μ H A->iV A G μ nt F a ->
  c.wpIn Fence.wide n P (λe a' A'=>(e=r.1.to/\∃ G' μ',Sg (J (pre++ys.map (·.2))) G0 G' μ' r.2.2 A'/\iV A' G' μ' nt r.2.1 a') \/
   (∃ ex' F' H' pre' G' μ',kx ex' F' H'=some ()/\e=ex'.to/\Sg (Jx pre') G0 G' μ' H' A'/\iV A' G' μ' nt F' a')) a A
def a4O(P:Program) (nt:Nat) (ks:List Kd) (a:Code) (s:aD5 (Value×aH ks)):Prop :=
 ∀ x ys z,s.run x=some (ys,z)->a9D P nt ks (.loop a) (D1 s.sh x 0) (O1 s.sh x) ys (JG s.exits z) bCR
def aRZ(P:Program)(nt:Nat)(lt:Nat->Option dN) ks (li:Nat->Option (aD5 (Value×aH ks))):Code->Prop
 | .loop a=>(∀ s,lt (b8 a)=some s->UR P nt true [] (.loop a) s)/\(∀ s,li (b8 a)=some s->a4O P nt ks a s)
 | _=>True
theorem ZW {c r kx}(h:aZK P nt true [] c F H r):a9D P nt ks c F H [] r kx:=by
 intro l yv hyv G0 all J Jx hY pre post n a A G μ hall hys hS hF;refine a5F h hS hF λG' μ' a' A' hS' hF'=>.inl ⟨rfl,G',μ',?_,hF'⟩
 grind
theorem aV4(hcl:eO P (gU P E))(hP:P.follows .mixedOrders=true){α id ops draw}{k:Ex->Frm->Heap->Option α}{z}(h:P5 P E nt ops draw F H (λF H=>aEN bZ F λF=>k .normal F H)=some z)(hd:aBS ops=true) :
  ∃ r ,k r.1 r.2.1 r.2.2=some z/\aZK P nt true [] (.region id ops draw) F H r:=by
 obtain⟨F1,H1,h1,h2⟩:=aO7 hcl hP hd h;obtain⟨F2,h3,h4⟩:=UG bZ F1 λF=>k .normal F H1
 rw[h3]at h1;exact⟨(.normal,F2,H1),h1,λ_ _ _ _ _ _ _ _ _ _ hI=>h2 hI λa' w' hd' hI'=>⟨rfl,hI'.bC3 h4,λ_=>hd'⟩⟩
theorem aQ0(hcl:eO P (gU P E)) {ops:Array Oper} {l:List Oper} (hrun:aBK P (gU P E) nt ops.toList l F H=some (F',H')) (hnd:(l.all λo=>!aWR o.op)=true) {Q:Exit->Act->World->Prop}
  (hS:Sg Φ G0 G μ H A) (hF:iV A G μ nt F a) (hQ:∀ G' μ' a' A',Sg Φ G0 G' μ' H' A'->iV A' G' μ' nt F' a'->Q .normal a' A'):wpListIn Fence.wide n P ops Q l a A:=by
 obtain⟨n0,hW,_,hS2⟩:=hS.open_;have h1:=JS (Q:=λe a' w'=>e=.normal/\I n0 A G μ nt F' H' a' w') hcl l F H a A hrun ⟨G,μ,Ext.refl _ _ _ _,hW,hF⟩ (λa' w' h=>⟨rfl,h⟩);have h2:=aIZ (ro:=none) (n:=n) (ds:=[]) (Q':=Q) (λa w h=>by cases h.1) (λe a' w' h=>by
  obtain⟨rfl,G',μ',e,hW',hF'⟩:=h;have e1:CO [] a'=a':=by simp[CO]
  rw[e1];exact hQ G' μ' a' w' (hS2 _ _ _ _ e hW') hF') (λo ho c hc=>by
  have:=List.all_eq_true.1 hnd o ho;rw[hc]at this;cases this) h1
 have e1:CO [] a=a:=by simp[CO]
 rw[e1]at h2;exact h2
theorem a7L(hcl:eO P (gU P E)) (hP:P.follows .mixedOrders=true) {α:Type} {id s:Nat} {ops:Array Oper} {draw:Bool} (hsp:aOP ops s=true) {k:Frm->Heap->Option α} {z:α}
  (h:(bif draw then P5 P E nt (ops.toList.take s).toArray true F H else XI P E nt ops.toList (ops.toList.take s) F H) k=some z) :
  ∃ F1 H1,k F1 H1=some z/\∀ {Φ:(Nat->Prop)->(Nat->Prop)->World->Prop} {G0 G:Gd} {μ:Mp} {A:World} {a:Act} {n:Nat} {Q:Exit->Act->World->Prop},Sg Φ G0 G μ H A->iV A G μ nt F a ->
   (∀ G' μ' a' A',Sg Φ G0 G' μ' H1 A'->iV A' G' μ' nt F1 a'->wpListIn Fence.wide n P ops Q (ops.toList.drop s) a' A')->(Code.region id ops draw).wpIn Fence.wide n P Q a A:=by
 obtain⟨F1,H1,hrun,hk⟩:∃ F1 H1,(bif draw then aFB P (gU P E) nt (ops.toList.take s).toArray F H else aBK P (gU P E) nt ops.toList (ops.toList.take s) F H)=some (F1,H1)/\k F1 H1=some z:=by
  cases draw with
  | true =>
   exact aAM h
  | false =>
   obtain⟨F1,H1,h2,h3⟩:=EF h;grind
 refine⟨F1,H1,hk,?_⟩;intro Φ G0 G μ A a n Q hS hF hQ;obtain⟨n0,hW,_,hS2⟩:=hS.open_;have:=aVF (ro:=none) (n:=n) (ds:=[]) (Q:=Q) hcl hP (id:=id) hsp hrun (n0:=n0) (wi:=A) (Gi:=G) (μi:=μ) (a:=a) (w:=A) ⟨G,μ,Ext.refl _ _ _ _,hW,hF⟩ (λa' w' h=>by
  obtain⟨G',μ',e,hW',hF'⟩:=h;have e1:CO [] a'=a':=by simp[CO]
  rw[e1];exact hQ G' μ' a' w' (hS2 _ _ _ _ e hW') hF')
 have e1:CO [] a=a:=by simp[CO]
 rw[e1]at this;exact this
theorem a95 {l:List Operand}(hF:iV A G μ nt F a):VRs A G μ (l.map (ev F)) (l.map a.eval):=by
 induction l with
 | nil=>rfl
 | cons x l ih =>
  exact⟨_,_,rfl,cO hF x,ih⟩
theorem DP {α}(hcl:eO P (gU P E))(hP:P.follows .mixedOrders=true):∀ c F H k kx ys (z:α),
  (∀ F H,kx .ret F H=some ())->(∀ a∈iB c,aRZ P nt lt ks li a)->RI P E nt bZ lt ks li c F H k kx=some (ys,z) ->
  ∃ ys1 ys2 r,k r.1 r.2.1 r.2.2=some (ys2,z)/\ys=ys1++ys2/\a9D P nt ks c F H ys1 r kx
 | .skip,F,H,k,kx,ys,z,hx,hl,h=>⟨[],ys,(.normal,F,H),h,rfl,ZW λ_ _ _ _ _ _ _ _ _ _ hI=>wpIn_skip ⟨rfl,hI,λ_=>rfl⟩⟩
 | .label l,F,H,k,kx,ys,z,hx,hl,h=>⟨[],ys,(.normal,F,H),h,rfl,ZW λ_ _ _ _ _ _ _ _ _ _ hI=>wpIn_label ⟨rfl,hI,λ_=>rfl⟩⟩
 | .exit id,F,H,k,kx,ys,z,hx,hl,h=>⟨[],ys,(.exit id,F,H),h,rfl,ZW λ_ _ _ _ _ _ _ _ _ _ hI=>wpIn_exit ⟨rfl,hI,λ_=>rfl⟩⟩
 | .ret,F,H,k,kx,ys,z,hx,hl,h=>⟨[],ys,(.ret,F,H),h,rfl,ZW λ_ _ _ _ _ _ _ _ _ _ hI=>wpIn_ret ⟨rfl,hI,λ_=>rfl⟩⟩
 | .region id ops draw,F,H,k,kx,ys,z,hx,hl,h=>by
  simp only[RI]at h;split at h
  ·obtain⟨hd,h⟩:=aI h;obtain⟨r,h1,h2⟩:=aV4 (id:=id) hcl hP h hd;exact⟨[],ys,r,h1,rfl,ZW h2⟩
  next s hs=>
   obtain⟨hsp,h⟩:=aI h;split at h
   ·rename_i o rest hdrop;obtain⟨hnd,h⟩:=aI h;obtain⟨F1,H1,hk,hsplit⟩:=a7L (id:=id) hcl hP hsp h;obtain⟨b,hg,hk⟩:=aMK hk;cases b with
    | true =>
     simp only[oC]at hk;split at hk
     ·rename_i c hoc;split at hk
      ·rename_i f hcf;split at hk
       ·rename_i yv hyv;obtain⟨hnr,hk⟩:=aI hk;rw[oA]at hnr;obtain⟨hnr,hplk⟩:=hnr;split at hk
        ·rename_i e he;split at hk
         ·rename_i F2 F3 hp2 hp3;split at hk
          ·rename_i u hstop;obtain⟨ys2,hlive,rfl⟩:=aK3 hk;obtain⟨F4,H4,hrun4,hk4⟩:=EF hlive;obtain⟨F5,H5,hrun5,hk5⟩:=EF hstop;obtain⟨F6,h6,h7⟩:=UG bZ F4 λF=>k .normal F H4
           rw[h6]at hk4;refine⟨[(yv,e)],ys2,(.normal,F6,H4),hk4,rfl,?_⟩;intro l yv' hyv' G0 all J Jx hY pre post n a A G μ hall hys hS hF;have hyy:=hys _ (List.mem_singleton.2 rfl);dsimp only at hyy;subst hyy;refine hsplit hS hF λG1 μ1 a1 A1 hS1 hF1=>?_
           rw[hdrop];have hw:=FF hF1 hg;have hv:=a95 (l:=c.args.toList) hF1;have hv0:=dK _ _ hnr hv;have hve:=NV ks he hv0;have hfe:=cO hF1 f;rw[hyv,VR]at hfe;have hall':all=pre++e::post:=by rw[hall]; rfl
           refine bBM hoc hcf hw (hfe.trans hyv') (us:=(c.args.toList.map a1.eval).toArray) (by rw[<- Array.toList_map]) (λm'=>hS1.yield hY hall' hve (aPA ks e hplk) m') ?_;rintro en C ⟨hmo,hout⟩;rcases hout with ⟨rfl,hS2⟩|⟨rfl,hS2⟩
           ·refine⟨_,rfl,aQ0 hcl hrun4 hnd hS2 ((hF1.mono hmo).aRX hp2 (by rw[VR])) λG2 μ2 a2 A2 hS3 hF3=>.inl ⟨rfl,G2,μ2,hS3,?_⟩⟩;exact⟨hF3.size,λt=>by
             rcases h7 t with h8|h8
             ·rw[h8]; exact hF3.slot t
             ·rw[h8,VR]; trivial,hF3.defers⟩
           ·exact⟨_,rfl,aQ0 hcl hrun5 hnd hS2 ((hF1.mono hmo).aRX hp3 (by rw[VR])) λG2 μ2 a2 A2 hS3 hF3=>.inr ⟨.normal,F5,H5,_,G2,μ2,hk5,rfl,hS3,hF3⟩⟩
          ·cases hk
         ·cases hk
        ·cases hk
       ·cases hk
      ·cases hk
     ·cases hk
    | false =>
     simp only[oD]at hk;split at hk
     ·rename_i F2 hp2;obtain⟨F4,H4,hrun4,hk4⟩:=EF hk;obtain⟨F6,h6,h7⟩:=UG bZ F4 λF=>k .normal F H4
      rw[h6]at hk4;refine⟨[],ys,(.normal,F6,H4),hk4,rfl,?_⟩;intro l yv' hyv' G0 all J Jx hY pre post n a A G μ hall hys hS hF;refine hsplit hS hF λG1 μ1 a1 A1 hS1 hF1=>?_
      rw[hdrop];refine bCM (FF hF1 hg) (aQ0 hcl hrun4 hnd hS1 (hF1.aRX hp2 (by rw[VR])) λG2 μ2 a2 A2 hS3 hF3=>.inl ⟨rfl,G2,μ2,?_,?_⟩)
      ·rw[List.map_nil,List.append_nil]; exact hS3
      ·exact⟨hF3.size,λt=>by
        rcases h7 t with h8|h8
        ·rw[h8]; exact hF3.slot t
        ·rw[h8,VR]; trivial,hF3.defers⟩
     ·cases hk
   ·cases h
 | .seq x y,F,H,k,kx,ys,z,hx,hl,h=>by
  simp only[RI]at h;obtain⟨ys1,ys2,⟨ex,F1,H1⟩,h1,rfl,h2⟩:=DP hcl hP x F H _ _ ys z (by intro F H; exact hx F H) (λa ha=>hl a (by simp[iB,ha])) h;have stop:∀ {l:Nat} {yv:Value} {G0:Gd} {all:List (aH ks)} {J Jx:List (aH ks)->(Nat->Prop)->(Nat->Prop)->World->Prop} {n:Nat} {R:Exit->Act->World->Prop},
    (∀ e a' A',(∃ ex' F' H' pre' G' μ',kx ex' F' H'=some ()/\e=ex'.to/\Sg (Jx pre') G0 G' μ' H' A'/\iV A' G' μ' nt F' a')->R e a' A')->∀ ex' F' H' pre' G' μ' a' A',
    (match ex' with
     | Ex.normal=>KU P E nt bZ lt (λ_=>none) true [] y F' H' kx
     | Ex.exit i=>kx (Ex.exit i) F' H'
     | Ex.ret=>kx Ex.ret F' H')=some ()->Sg (Jx pre') G0 G' μ' H' A'->iV A' G' μ' nt F' a' ->
    Exit.then (y.wpIn Fence.wide n P R) R ex'.to a' A':=by
   intro l yv G0 all J Jx n R hR ex' F' H' pre' G' μ' a' A' hm hS hF;cases ex' with
   | normal =>
    obtain⟨r,h3,h4⟩:=qT hcl hP y F' H' kx () (λa ha=>by
     have:=hl a (by simp[iB,ha]);cases a with
     | loop b=>exact this.1
     | rangeFunc g ps as1 b=>intro h; cases h
     | _=>trivial) hm
    refine a5F h4 hS hF λG2 μ2 a2 A2 hS2 hF2=>hR _ _ _ ⟨r.1,r.2.1,r.2.2,pre',G2,μ2,h3,rfl,hS2,hF2⟩
   | exit i=>exact hR _ _ _ ⟨.exit i,F',H',pre',G',μ',hm,rfl,hS,hF⟩
   | ret=>exact hR _ _ _ ⟨.ret,F',H',pre',G',μ',hm,rfl,hS,hF⟩
  cases ex with
  | normal =>
   obtain⟨ys3,ys4,r,h3,rfl,h4⟩:=DP hcl hP y F1 H1 k kx ys2 z hx (λa ha=>hl a (by simp[iB,ha])) h1;refine⟨ys1++ys3,ys4,r,h3,by rw[List.append_assoc],?_⟩;intro l yv hyv G0 all J Jx hY pre post n a A G μ hall hys hS hF;refine wpIn_seq (wpIn_mono (h2 l yv hyv G0 all J Jx hY pre (ys3.map (·.2)++post) n a A G μ (by rw[hall,List.map_append,List.append_assoc]) (λy hy=>hys y (List.mem_append_left _ hy)) hS hF) ?_)
   rintro e a' w' (⟨rfl,G',μ',hS',hF'⟩|⟨ex',F',H',pre',G',μ',hm,rfl,hS',hF'⟩)
   ·refine wpIn_mono (h4 l yv hyv G0 all J Jx hY (pre++ys1.map (·.2)) post n a' w' G' μ' (by rw[hall,List.map_append,List.append_assoc,List.append_assoc]) (λy hy=>hys y (List.mem_append_right _ hy)) hS' hF') ?_;rintro e a'' w'' (⟨rfl,G2,μ2,hS2,hF2⟩|hst)
    ·refine .inl ⟨rfl,G2,μ2,?_,hF2⟩;rw[List.map_append,<- List.append_assoc]; exact hS2
    ·exact .inr hst
   ·exact stop (l:=l) (yv:=yv) (all:=all) (J:=J) (λe a' A' h=>Or.inr h) ex' F' H' pre' G' μ' a' w' hm hS' hF'
  | exit i =>
   refine⟨ys1,ys2,(.exit i,F1,H1),h1,rfl,?_⟩;intro l yv hyv G0 all J Jx hY pre post n a A G μ hall hys hS hF;refine wpIn_seq (wpIn_mono (h2 l yv hyv G0 all J Jx hY pre post n a A G μ hall hys hS hF) ?_);rintro e a' w' (⟨rfl,G',μ',hS',hF'⟩|⟨ex',F',H',pre',G',μ',hm,rfl,hS',hF'⟩)
   ·exact .inl ⟨rfl,G',μ',hS',hF'⟩
   ·exact stop (l:=l) (yv:=yv) (all:=all) (J:=J) (λe a' A' h=>Or.inr h) ex' F' H' pre' G' μ' a' w' hm hS' hF'
  | ret =>
   refine⟨ys1,ys2,(.ret,F1,H1),h1,rfl,?_⟩;intro l yv hyv G0 all J Jx hY pre post n a A G μ hall hys hS hF;refine wpIn_seq (wpIn_mono (h2 l yv hyv G0 all J Jx hY pre post n a A G μ hall hys hS hF) ?_);rintro e a' w' (⟨rfl,G',μ',hS',hF'⟩|⟨ex',F',H',pre',G',μ',hm,rfl,hS',hF'⟩)
   ·exact .inl ⟨rfl,G',μ',hS',hF'⟩
   ·exact stop (l:=l) (yv:=yv) (all:=all) (J:=J) (λe a' A' h=>Or.inr h) ex' F' H' pre' G' μ' a' w' hm hS' hF'
 | .cond c x y,F,H,k,kx,ys,z,hx,hl,h=>by
  simp only[RI]at h;split at h
  next t ht=>
   replace h:=Y9 h ht;have hc:∀ {A:World} {G:Gd} {μ:Mp} {a:Act},iV A G μ nt F a->a.eval c=.bool t:=λ{A G μ a} hF=>by
    have hc:=cO hF c;rw[ht,VR]at hc;exact hc
   cases t with
   | true =>
    obtain⟨ys1,ys2,r,h3,h4,h5⟩:=DP hcl hP x F H k kx ys z hx (λa ha=>hl a (by simp[iB,ha])) h;exact⟨ys1,ys2,r,h3,h4,λl yv hyv G0 all J Jx hY pre post n a A G μ hall hys hS hF=>wpIn_cond (hc hF) (h5 l yv hyv G0 all J Jx hY pre post n a A G μ hall hys hS hF)⟩
   | false =>
    obtain⟨ys1,ys2,r,h3,h4,h5⟩:=DP hcl hP y F H k kx ys z hx (λa ha=>hl a (by simp[iB,ha])) h;exact⟨ys1,ys2,r,h3,h4,λl yv hyv G0 all J Jx hY pre post n a A G μ hall hys hS hF=>wpIn_cond (hc hF) (h5 l yv hyv G0 all J Jx hY pre post n a A G μ hall hys hS hF)⟩
  ·cases h
 | .block id x,F,H,k,kx,ys,z,hx,hl,h=>by
  simp only[RI]at h;obtain⟨ys1,ys2,⟨ex,F1,H1⟩,h1,rfl,h2⟩:=DP hcl hP x F H _ _ ys z (by intro F H; exact hx F H) (λa ha=>hl a (by simp[iB,ha])) h;have stop:∀ (ex':Ex) (F':Frm) (H':Heap),(match ex' with
     | Ex.exit i=>bif Nat.beq i id then kx .normal F' H' else kx (.exit i) F' H'
     | Ex.normal=>kx Ex.normal F' H'
     | Ex.ret=>kx Ex.ret F' H')=some ()->∃ ex2:Ex,kx ex2 F' H'=some ()/\∀ (Q:Exit->Act->World->Prop) a w,Q ex2.to a w->ex'.to.inBlock id Q a w:=by
   intro ex' F' H' hm;cases ex' with
   | normal=>exact⟨.normal,hm,λQ a w h=>h⟩
   | ret=>exact⟨.ret,hm,λQ a w h=>h⟩
   | exit i =>
    simp only at hm;cases hi:Nat.beq i id with
    | true =>
     rw[hi]at hm;have:=oE hi;subst this;exact⟨.normal,hm,λQ a w h=>by simp only[Ex.to,Exit.inBlock,if_true]; exact h⟩
    | false =>
     rw[hi]at hm;have hne:¬ i=id:=λe=>by rw[e]at hi; simp at hi
     exact⟨.exit i,hm,λQ a w h=>by simp only[Ex.to,Exit.inBlock,hne,if_false]; exact h⟩
  have live:∃ ex2:Ex,k ex2 F1 H1=some (ys2,z)/\∀ (Q:Exit->Act->World->Prop) a w,Q ex2.to a w->ex.to.inBlock id Q a w:=by
   cases ex with
   | normal=>exact⟨.normal,h1,λQ a w h=>h⟩
   | ret=>exact⟨.ret,h1,λQ a w h=>h⟩
   | exit i =>
    simp only at h1;cases hi:Nat.beq i id with
    | true =>
     rw[hi]at h1;have:=oE hi;subst this;exact⟨.normal,h1,λQ a w h=>by simp only[Ex.to,Exit.inBlock,if_true]; exact h⟩
    | false =>
     rw[hi]at h1;have hne:¬ i=id:=λe=>by rw[e]at hi; simp at hi
     exact⟨.exit i,h1,λQ a w h=>by simp only[Ex.to,Exit.inBlock,hne,if_false]; exact h⟩
  obtain⟨ex2,hk2,hex2⟩:=live;refine⟨ys1,ys2,(ex2,F1,H1),hk2,rfl,?_⟩;intro l yv hyv G0 all J Jx hY pre post n a A G μ hall hys hS hF;refine wpIn_block (wpIn_mono (h2 l yv hyv G0 all J Jx hY pre post n a A G μ hall hys hS hF) ?_);rintro e a' w' (⟨rfl,G',μ',hS',hF'⟩|⟨ex',F',H',pre',G',μ',hm,rfl,hS',hF'⟩)
  ·exact hex2 _ _ _ (Or.inl ⟨rfl,G',μ',hS',hF'⟩)
  ·obtain⟨ex3,h3,h4⟩:=stop ex' F' H' hm;exact h4 _ _ _ (Or.inr ⟨ex3,F',H',pre',G',μ',h3,rfl,hS',hF'⟩)
 | .loop x,F,H,k,kx,ys,z,hx,hl,h=>by
  simp only[RI]at h;have hsub:=hl (.loop x) (by simp[iB]);split at h
  next s hs=>
   split at h
   ·rename_i x0 hx0;unfold a3Y at h;split at h
    ·rename_i ys1 z1 hr;obtain⟨ys2,h1,rfl⟩:=aK3 h;refine⟨ys1,ys2,JG s.exits z1,UC h1,rfl,?_⟩;intro l yv hyv G0 all J Jx hY pre post n a A G μ hall hys hS hF;obtain⟨n0,hW,_,hS2⟩:=hS.bAT;have e0:Ext n0 A G aJ A G μ:={ good:=λ_ h=>⟨h,rfl⟩,map:=λ_ _ h=>(by cases h),len:=λ_ _ h=>(by cases h),room:=λ_ _ h=>h,row:=λ_ _ h=>h,os:=rfl,tape:=rfl,output:=rfl,size:=oM _,old:=λ_ _ _=>rfl,new:=λ_ h=>.inl h };obtain⟨G1,μ1,e1,hW1,hF1⟩:=N8 hx0 (λr _=>⟨rfl,rfl⟩) (⟨G,μ,e0,hW,hF⟩:I n0 A G aJ nt F H a A)
     refine wpIn_mono (hsub.2 s hs x0 ys1 z1 hr l yv hyv G0 all J Jx hY pre post n a A G1 μ1 hall hys (hS2 _ _ _ _ e1 hW1) hF1) ?_;rintro e a' w' (h|⟨ex',F',H',pre',G',μ',hm,rfl,hS',hF'⟩)
     ·exact .inl h
     ·refine .inr ⟨ex',F',H',pre',G',μ',?_,rfl,hS',hF'⟩;cases ex' with
      | ret=>exact hx F' H'
      | normal=>cases hm
      | exit i=>cases hm
    ·cases h
   ·cases h
  ·split at h
   ·rename_i s hs;split at h
    next x0 hx0=>obtain⟨y,h1,h2⟩:=CZ h;refine⟨[],ys,JG s.exits y,UC h2,rfl,ZW λro n n0 wi Gi μi a w hro hfl hI=>?_⟩;exact hsub.1 s hs x0 y h1 ro n n0 wi Gi μi a w hro hfl (hI.dec hfl hx0)
    ·cases h
   ·cases h
 | .scope x,F,H,k,kx,ys,z,hx,hl,h=>by simp only[RI]at h; cases h
 | .rangeFunc g ps as1 x,F,H,k,kx,ys,z,hx,hl,h=>by simp only[RI]at h; cases h
 | .goto l,F,H,k,kx,ys,z,hx,hl,h=>by simp only[RI]at h; cases h
 | .refuse s,F,H,k,kx,ys,z,hx,hl,h=>by simp only[RI]at h; cases h
theorem aTP {Y sh exits ex F H}{l:List Y}{y}(h:bBI sh exits ex F H=some (l,y)):l=[]/\aM8 [] sh exits ex F H=some y:=by
 unfold bBI at h;grind
theorem a3X {F1:Frm} {H1:Heap} (hs:∀ {n0:Nat->Prop},I n0 A G aJ nt F H a A->I n0 A G aJ nt F1 H1 a A) (hS:Sg Φ G0 G μ H A) (hF:iV A G μ nt F a):∃ G' μ',Sg Φ G0 G' μ' H1 A/\iV A G' μ' nt F1 a:=by
 obtain⟨n0,hW,_,hS2⟩:=hS.bAT;have e0:Ext n0 A G aJ A G μ:={ good:=λ_ h=>⟨h,rfl⟩,map:=λ_ _ h=>(by cases h),len:=λ_ _ h=>(by cases h),room:=λ_ _ h=>h,row:=λ_ _ h=>h,os:=rfl,tape:=rfl,output:=rfl,size:=oM _,old:=λ_ _ _=>rfl,new:=λ_ h=>.inl h };obtain⟨G1,μ1,e1,hW1,hF1⟩:=hs ⟨G,μ,e0,hW,hF⟩;grind
theorem aV6:∀ {l z ex},aAD [] l ex F H=some z->(JG l z).1=ex/\∀ {n0},I n0 A G aJ nt F H a A->I n0 A G aJ nt (JG l z).2.1 (JG l z).2.2 a A:=by
 intro l z ex h;obtain⟨h1,sh,x,h2,h3,h4⟩:=TM h;refine⟨h1,λhI=>?_⟩;rw[h3,h4];exact N8 h2 (λr _=>⟨rfl,rfl⟩) hI
theorem bAI(hcl:eO P (gU P E)) (hP:P.follows .mixedOrders=true) {b:Code} {sh:List (Nat×Kd)} {exits:List (Ex×List (Nat×Kd))} {step:Shape.den sh->Option (List (Value×aH ks)×(Shape.den sh⊕eC exits))} (L:Nat)
  (hl:∀ a∈iB b,aRZ P nt lt ks li a) (hr:∀ x,bBH P E nt bZ lt ks li b sh exits x=step x):a4O P nt ks b ⟨sh,exits,aMJ step L⟩:=by
 intro x ys z hz l yv hyv G0 all J Jx hY pre post n a A G μ hall hys hS hF;refine wpIn_loop_ghost (λk a A=>∃ pre1 ys1 x G μ,aMJ step k x=some (ys1,z)/\pre++ys.map (·.2)=pre1++ys1.map (·.2)/\(∀ y∈ys1,y.1=yv)/\Sg (J pre1) G0 G μ (O1 sh x) A/\iV A G μ nt (D1 sh x 0) a) L ⟨pre,ys,x,G,μ,hz,rfl,hys,hS,hF⟩ ?_;rintro k a1 A1 ⟨pre1,ys1,x,G,μ,hz,hpre,hys1,hS,hF⟩;cases k with
 | zero=>cases hz
 | succ k =>
  simp only[aMJ]at hz;have hall1:all=pre1++(ys1.map (·.2)++post):=by rw[hall,<- List.append_assoc,hpre,List.append_assoc]
  split at hz
  next m y hs=>
   obtain⟨m2,hz2,rfl⟩:=aK3 hz;rw[<- hr]at hs;obtain⟨y1,y2,⟨ex,F',H'⟩,h1,h2,h3⟩:=DP hcl hP b _ _ _ bCR m _ (λ_ _=>rfl) hl hs;obtain⟨e1,h4⟩:=aTP h1;subst e1;rw[List.append_nil]at h2;subst h2;refine wpIn_mono (h3 l yv hyv G0 all J Jx hY pre1 (m2.map (·.2)++post) n a1 A1 G μ (by rw[hall1,List.map_append,List.append_assoc]) (λy hy=>hys1 y (List.mem_append_left _ hy)) hS hF) ?_;rintro e a' A' (⟨rfl,G',μ',hS',hF'⟩|⟨ex',F',H',pre',G',μ',hm,rfl,hS',hF'⟩)
   ·rcases ZH h4 with ⟨y',e1,e2,e3⟩|⟨z',e1,_,_⟩
    ·cases e1;subst e2;obtain⟨G2,μ2,hS2,hF2⟩:=a3X (λhI=>N8 e3 (λr _=>⟨rfl,rfl⟩) hI) hS' hF';exact⟨k,by omega,_,m2,y,G2,μ2,hz2,by rw[hpre,List.map_append,List.append_assoc],λy hy=>hys1 y (List.mem_append_right _ hy),hS2,hF2⟩
    ·cases e1
   ·cases ex' with
    | ret=>exact .inr ⟨.ret,F',H',pre',G',μ',rfl,rfl,hS',hF'⟩
    | normal=>cases hm
    | exit i=>cases hm
  next m y hs=>
   simp only[oJ,oP]at hz;obtain⟨rfl,rfl⟩:=hz;rw[<- hr]at hs;obtain⟨y1,y2,⟨ex,F',H'⟩,h1,h2,h3⟩:=DP hcl hP b _ _ _ bCR m _ (λ_ _=>rfl) hl hs;obtain⟨e1,h4⟩:=aTP h1;subst e1;rw[List.append_nil]at h2;subst h2;refine wpIn_mono (h3 l yv hyv G0 all J Jx hY pre1 post n a1 A1 G μ hall1 hys1 hS hF) ?_;rintro e a' A' (⟨rfl,G',μ',hS',hF'⟩|⟨ex',F',H',pre',G',μ',hm,rfl,hS',hF'⟩)
   ·rcases ZH h4 with ⟨y',e1,e2,e3⟩|⟨z',e1,e2,e3⟩
    ·cases e1
    ·cases e1;dsimp only at e2 e3;obtain⟨h5,h6⟩:=aV6 (A:=A') (G:=G') (a:=a') (nt:=nt) e3;obtain⟨G2,μ2,hS2,hF2⟩:=a3X (λhI=>h6 hI) hS' hF';have hout:(Exit.normal≠ex.to->True):=λ_=>trivial
     cases ex with
     | normal=>exact absurd rfl e2
     | exit i=>exact .inl ⟨by rw[h5],G2,μ2,by rw[hpre]; exact hS2,hF2⟩
     | ret=>exact .inl ⟨by rw[h5],G2,μ2,by rw[hpre]; exact hS2,hF2⟩
   ·cases ex' with
    | ret=>exact .inr ⟨.ret,F',H',pre',G',μ',rfl,rfl,hS',hF'⟩
    | normal=>cases hm
    | exit i=>cases hm
  ·cases hz
def bD8(P:Program) (E:Env) (fn:Func) (bZ:Nat) (lt:Nat->Option dN) (ks:List Kd) (li:Nat->Option (aD5 (Value×aH ks))) (c:Code) (ts:List Ty) (yv:Value) (x:aHO ts):Option (List (Value×aH ks)) :=
 bif Nat.ble (1+(aCR ts x).length) fn.ntmps then bCF (RI P E fn.ntmps bZ lt ks li c (start bZ 0 (.lit yv::aCR ts x)) [] (λex _ _=>match ex with
  | .exit _=>none
  | _=>some ([],())) (λex _ _=>match ex with
  | .exit _=>none
  | _=>some ())) else none
theorem bCV(hP:UM P) (hE:gD P E) {g:Nat} {fn:Func} (hg:P.funcs[g]?=some fn) {c:Code} (hc:fn.body=some c) (hres:fn.results=#[]) {ts:List Ty} {f:aHO ts->Option (List (aH ks))}
  (hl:∀ a∈iB c,aRZ P fn.ntmps lt ks li a) (hb:∀ yv x all,f x=some all->bD8 P E fn bZ lt ks li c ts yv x=some (all.map λe=>(yv,e))):aP8 P g ts ks f:=by
 intro x all hall m l W G vs hlt hvs J Jx hY hJ;obtain⟨yv,hyv⟩:∃ yv:Value,yv=.func (.yield l) #[] #[]:=⟨_,rfl⟩;have hbx:=hb yv x all hall;obtain⟨hlen,hbx⟩:=aI hbx;unfold bCF at hbx;split at hbx
 next l0 u hex=>
  have hl0:=oB hbx;obtain⟨ys1,ys2,⟨ex,F',H'⟩,h1,h2,h3⟩:=DP hE.callee hP.mixed c _ _ _ _ _ _ (λ_ _=>rfl) hl hex;have hex:(ex=.normal\/ex=.ret)/\ys2=[]:=by
   cases ex with
   | exit i=>cases h1
   | normal =>
    grind
   | ret =>
    grind
  obtain⟨hex,rfl⟩:=hex;rw[List.append_nil]at h2;subst h2;have hys:∀ y∈l0,y.1=yv:=zf
  have hmap:l0.map (·.2)=all:=by
   rw[hl0,List.map_map];exact List.map_id all
  refine callsIn_of_wp hg hc trivial ?_ rfl;have hargs:VRs W (Gd.of G) aJ (.lit yv::aCR ts x) ((#[.func (.yield l) #[] #[]]:Array Value)++vs.toArray).toList:=by
   rw[<- hyv];simp only[Array.toList_append,List.cons_append,List.nil_append];exact⟨yv,vs,rfl,by rw[VR],hvs⟩
  have hF0:=HV (m:=bZ) (n:=fn.ntmps) hargs (by simpa[Nat.add_comm]using oL hlen);have hS0:Sg (J []) (Gd.of G) (Gd.of G) aJ [] W:=Sg.start hlt hJ;have post:∀ (ex:Exit) (a:Act) (A:World),(ex=.normal\/ex=.ret)->a.defers=[]->∀ (T X:Nat->Prop) (B:World),Stp X B A->(J all T X B\/∃ pre,Jx pre T X B) ->
    bodyPost P fn (λen C=>(∃ v,en=.returned v)/\∃ T X B,Stp X B C/\(J all T X B\/∃ pre,Jx pre T X B)) ex a A:=by
   intro ex a A hex hd T X B hst hj;have hr:(results fn a.tmps).run P A=.ok (.tuple #[]) A:=by simp[results,hres]
   rcases hex with rfl|rfl
   ·exact⟨hd,_,hr,⟨_,rfl⟩,T,X,B,hst,hj⟩
   ·exact⟨hd,_,hr,⟨_,rfl⟩,T,X,B,hst,hj⟩
  refine wpIn_mono (h3 l yv hyv (Gd.of G) all J Jx hY [] [] m _ W (Gd.of G) aJ (by rw[hmap]; simp) hys hS0 hF0) ?_;rintro e a' A' (⟨rfl,G',μ',hS',hF'⟩|⟨ex',F',H',pre',G',μ',hm,rfl,hS',hF'⟩)
  ·obtain⟨T,X,B,hst,hj⟩:=hS'.stp;rw[List.nil_append,hmap]at hj;refine post _ a' A' ?_ hF'.defers T X B hst (.inl hj);rcases hex with rfl|rfl
   ·exact .inl rfl
   ·exact .inr rfl
  ·obtain⟨T,X,B,hst,hj⟩:=hS'.stp;refine post _ a' A' ?_ hF'.defers T X B hst (.inr ⟨_,hj⟩);cases ex' with
   | normal=>exact .inl rfl
   | ret=>exact .inr rfl
   | exit i=>cases hm
 ·cases hbx
theorem bAG {a i s0}(hf:b8 a=i)(hlt:lt i=none)(hli:li i=some s0)(h:a4O P nt ks a s0):aRZ P nt lt ks li (.loop a):=by
 refine⟨λs hs=>?_,λs hs=>?_⟩
 ·grind
 grind
def aQL(P:Program)(nt:Nat)(lt:Nat->Option dN) ks (li:Nat->Option (aD5 (Value×aH ks))):List Code->Prop
 | []=>True
 | c::r=>aRZ P nt lt ks li c/\aQL P nt lt ks li r
theorem aJ5:∀ {l},aQL P nt lt ks li l->∀ a∈l,aRZ P nt lt ks li a
 | [],_,a,ha=>zf
 | c::r,h,a,ha=>by
  rcases List.mem_cons.1 ha with rfl|ha
  ·exact h.1
  ·exact aJ5 h.2 a ha
theorem aX9 {c l}(hc:iB c=l)(h:aQL P nt lt ks li l):∀ a∈iB c,aRZ P nt lt ks li a:=by rw[hc]; exact aJ5 h
end
theorem aL i n:aF i n=decide (0<=i/\i<n):=by
 cases i with
 | ofNat m =>
  show Nat.blt m n=_;rw[b9];simp
 | negSucc m =>
  rfl
theorem dO(m n:Nat):Nat.ble m n=decide (m<=n):=by
 cases h:Nat.ble m n with
 | true=>simp_all
 | false =>
  refine(oF λhl=>?_).symm;rw[Nat.ble_eq_true_of_le hl]at h;grind
theorem wrap64 {x}(h1 : -9223372036854775808<=x)(h2:x<9223372036854775808):aB .i64 x=x:=by
 cases x with
 | ofNat m =>
  have:m<9223372036854775808:=zf
  unfold aB;simp only[b9,oT this,oC]
 | negSucc m =>
  have:m<9223372036854775808:=Z
  unfold aB;simp only[b9,oT this,oC]
theorem bO(i:Nat)(h:i<9223372036854775807):aB .i64 (i+1)=((i+1:Nat)):=by rw[wrap64 Z Z]; rfl
theorem aAP {x}(h1 : -9223372036854775808<=x)(h2:x<9223372036854775808):IntKind.wrap .i64 x=x:=by rw[<- aQX]; exact wrap64 h1 h2
theorem aKR {α:Type} p [Decidable p](a b:α):(bif decide p then a else b)=if p then a else b:=R
theorem aD {τ α} x (k:τ->Option α):aC (some x) k=k x:=rfl
theorem bCC p [Decidable p]:(!decide p)=decide (¬ p):=R
theorem CU {β γ α}(z:β) f (g:γ->Option α):xJ (.inl z) f g=f z:=rfl
theorem gB {β γ α}(z:γ)(f:β->Option α) g:xJ (.inr z) f g=g z:=rfl
section
variable {σ τ:Type} {step:σ->Option (σ⊕τ)}
theorem cZ n x:bF step (n+1) x=match step x with
  | some (.inl y)=>bF step n y
  | some (.inr z)=>some z
  | none=>none:=rfl
theorem aMW(F:Nat->σ) k:∀ m j,(∀ i,j<=i->i<j+m->step (F i)=some (.inl (F (i+1))))->bF step (m+k) (F j)=bF step k (F (j+m))
 | 0,j,_=>R
 | m+1,j,h=>by
  rw[Nat.add_right_comm,cZ,h j (oM _) R];show bF step (m+k) (F (j+1))=_;rw[aMW F k m (j+1) λi h1 h2=>h i Z Z];grind
theorem aU {N:Nat} (F:Nat->σ) (m:Nat) (z:τ) (hN:m<N) (h:∀ i,i<m->step (F i)=some (.inl (F (i+1)))) (he:step (F m)=some (.inr z)):bF step N (F 0)=some z:=by
 obtain⟨k,rfl⟩:∃ k,N=m+(k+1):=⟨N-m-1,by omega⟩;rw[aMW F (k+1) m 0 (λi _ h2=>h i Z),Nat.zero_add,cZ,he]
end
end Go.PM
